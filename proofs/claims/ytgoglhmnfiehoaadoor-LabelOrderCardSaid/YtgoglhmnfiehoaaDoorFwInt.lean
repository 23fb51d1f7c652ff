/- Own work: the executor's rules: integers (products, quotients, bits, shifts, conversions), arrays' cells, results that stand in a cell. -/
import Derived.Test.YtgoglhmnfiehoaaDoorFwMem3
namespace Go.Fw
open Go
class TyInt (P : Program) (t : TypeId) (k : outParam IntKind) : Prop where out : P.underlying t = some (.int k)
class TyArr (P : Program) (t : TypeId) (n : outParam Nat) (e : outParam TypeId) : Prop where out : P.underlying t = some (.array n e)
section
variable {P : Program} {N : Nat} {ds : List Deferred} {Q : Exit → Act → World → Prop} {l l' : Log} {w w' : World} {ops : Array Oper} {os : List Oper} {o : Oper}
variable {d : Nat} {ty : TypeId} {pos : String} {af : Array Edge} {g : Option (Nat × Bool)} {t t' : TypeId} {x y : Operand} {ik : IntKind}

theorem op_mul {a b : Int} (hw : want ops l ⟨some d, .binOp .mul t x y t', ty, pos, af, g⟩ = some true) (hN : Nat.blt d N = true)
    (hx : ev l x = some (.int .i64 a)) (hy : ev l y = some (.int .i64 b)) (h : -9223372036854775808 ≤ a * b ∧ a * b ≤ 9223372036854775807)
    (k : WL P N ds ops Q os ((d, .int .i64 (a * b)) :: l) w) : WL P N ds ops Q (⟨some d, .binOp .mul t x y t', ty, pos, af, g⟩ :: os) l w :=
  wl_value rfl hw hN (fun c hc => by simp [execOp, hc.ev hx, hc.ev hy, eqGuard, binOp, Op.intArith, IntWalk.i64_in _ h]) k
theorem op_quo {a b : Int} (hw : want ops l ⟨some d, .binOp .quo t x y t', ty, pos, af, g⟩ = some true) (hN : Nat.blt d N = true)
    (hx : ev l x = some (.int .i64 a)) (hy : ev l y = some (.int .i64 b)) (h : 0 ≤ a ∧ a ≤ 9223372036854775807 ∧ 0 < b)
    (k : WL P N ds ops Q os ((d, .int .i64 (a / b)) :: l) w) : WL P N ds ops Q (⟨some d, .binOp .quo t x y t', ty, pos, af, g⟩ :: os) l w :=
  wl_value rfl hw hN (fun c hc => by
    have h1 : a.tdiv b = a / b := Int.tdiv_eq_ediv_of_nonneg h.1
    have h2 : 0 ≤ a / b := Int.ediv_nonneg h.1 (by omega)
    have h3 : a / b ≤ a := Int.ediv_le_self _ h.1
    simp [execOp, hc.ev hx, hc.ev hy, eqGuard, binOp, Op.intDiv, show b ≠ 0 by omega, h1, IntWalk.i64_in (a / b) (by omega)]) k
theorem op_rem {a b : Int} (hw : want ops l ⟨some d, .binOp .rem t x y t', ty, pos, af, g⟩ = some true) (hN : Nat.blt d N = true)
    (hx : ev l x = some (.int .i64 a)) (hy : ev l y = some (.int .i64 b)) (h : 0 ≤ a ∧ 0 < b)
    (k : WL P N ds ops Q os ((d, .int .i64 (a % b)) :: l) w) : WL P N ds ops Q (⟨some d, .binOp .rem t x y t', ty, pos, af, g⟩ :: os) l w :=
  wl_value rfl hw hN (fun c hc => by
    have h1 : a.tmod b = a % b := Int.tmod_eq_emod_of_nonneg h.1
    simp [execOp, hc.ev hx, hc.ev hy, eqGuard, binOp, Op.intDiv, show b ≠ 0 by omega, h1]) k
theorem op_add_u8 {a b : Int} (hw : want ops l ⟨some d, .binOp .add t x y t', ty, pos, af, g⟩ = some true) (hN : Nat.blt d N = true)
    (hx : ev l x = some (.int .u8 a)) (hy : ev l y = some (.int .u8 b)) (h : 0 ≤ a + b ∧ a + b ≤ 255)
    (k : WL P N ds ops Q os ((d, .int .u8 (a + b)) :: l) w) : WL P N ds ops Q (⟨some d, .binOp .add t x y t', ty, pos, af, g⟩ :: os) l w :=
  wl_value rfl hw hN (fun c hc => by simp [execOp, hc.ev hx, hc.ev hy, eqGuard, binOp, Op.intArith, IntWalk.u8_in _ h]) k
theorem op_sub_u8 {a b : Int} (hw : want ops l ⟨some d, .binOp .sub t x y t', ty, pos, af, g⟩ = some true) (hN : Nat.blt d N = true)
    (hx : ev l x = some (.int .u8 a)) (hy : ev l y = some (.int .u8 b)) (h : 0 ≤ a - b ∧ a - b ≤ 255)
    (k : WL P N ds ops Q os ((d, .int .u8 (a - b)) :: l) w) : WL P N ds ops Q (⟨some d, .binOp .sub t x y t', ty, pos, af, g⟩ :: os) l w :=
  wl_value rfl hw hN (fun c hc => by simp [execOp, hc.ev hx, hc.ev hy, eqGuard, binOp, Op.intArith, IntWalk.u8_in _ h]) k

theorem bits_nat {a : Int} (h : 0 ≤ a ∧ a ≤ 9223372036854775807) : (BitVec.ofInt 64 a).toNat = a.toNat := by
  rw [BitVec.toNat_ofInt, Int.emod_eq_of_lt h.1 (by have : ((2 ^ 64 : Nat) : Int) = 18446744073709551616 := by decide
                                                    omega)]
theorem op_and {a b : Int} (hw : want ops l ⟨some d, .binOp .and t x y t', ty, pos, af, g⟩ = some true) (hN : Nat.blt d N = true)
    (hx : ev l x = some (.int .i64 a)) (hy : ev l y = some (.int .i64 b)) (h : 0 ≤ a ∧ a ≤ 9223372036854775807) (h' : 0 ≤ b ∧ b ≤ 9223372036854775807)
    (k : WL P N ds ops Q os ((d, .int .i64 ((a.toNat &&& b.toNat : Nat) : Int)) :: l) w) : WL P N ds ops Q (⟨some d, .binOp .and t x y t', ty, pos, af, g⟩ :: os) l w :=
  wl_value rfl hw hN (fun c hc => by
    have h1 : a.toNat &&& b.toNat ≤ a.toNat := Nat.and_le_left
    have h2 : (BitVec.ofInt IntKind.i64.bits a &&& BitVec.ofInt IntKind.i64.bits b).toNat = a.toNat &&& b.toNat := by
      rw [BitVec.toNat_and]; exact congr (congrArg _ (bits_nat h)) (bits_nat h')
    simp only [execOp, hc.ev hx, hc.ev hy, eqGuard, binOp, Op.intBits, h2, IntWalk.i64_in ((a.toNat &&& b.toNat : Nat) : Int) (by omega)]
    simp) k
theorem op_or {a b : Int} (hw : want ops l ⟨some d, .binOp .or t x y t', ty, pos, af, g⟩ = some true) (hN : Nat.blt d N = true)
    (hx : ev l x = some (.int .i64 a)) (hy : ev l y = some (.int .i64 b)) (h : 0 ≤ a ∧ a < 4294967296) (h' : 0 ≤ b ∧ b < 4294967296)
    (k : WL P N ds ops Q os ((d, .int .i64 ((a.toNat ||| b.toNat : Nat) : Int)) :: l) w) : WL P N ds ops Q (⟨some d, .binOp .or t x y t', ty, pos, af, g⟩ :: os) l w :=
  wl_value rfl hw hN (fun c hc => by
    have h1 : a.toNat ||| b.toNat < 2 ^ 32 := Nat.or_lt_two_pow (by omega) (by omega)
    have h2 : (BitVec.ofInt IntKind.i64.bits a ||| BitVec.ofInt IntKind.i64.bits b).toNat = a.toNat ||| b.toNat := by
      rw [BitVec.toNat_or]; exact congr (congrArg _ (bits_nat (by omega))) (bits_nat (by omega))
    simp only [execOp, hc.ev hx, hc.ev hy, eqGuard, binOp, Op.intBits, h2, IntWalk.i64_in ((a.toNat ||| b.toNat : Nat) : Int) (by omega)]
    simp) k
theorem op_andNot {a b : Int} (hw : want ops l ⟨some d, .binOp .andNot t x y t', ty, pos, af, g⟩ = some true) (hN : Nat.blt d N = true)
    (hx : ev l x = some (.int .i64 a)) (hy : ev l y = some (.int .i64 b)) (h : 0 ≤ a ∧ a ≤ 9223372036854775807) (h' : 0 ≤ b ∧ b ≤ 9223372036854775807)
    (k : WL P N ds ops Q os ((d, .int .i64 ((a.toNat &&& (2 ^ 64 - 1 - b.toNat) : Nat) : Int)) :: l) w) : WL P N ds ops Q (⟨some d, .binOp .andNot t x y t', ty, pos, af, g⟩ :: os) l w :=
  wl_value rfl hw hN (fun c hc => by
    have h1 : a.toNat &&& (2 ^ 64 - 1 - b.toNat) ≤ a.toNat := Nat.and_le_left
    have h2 : (BitVec.ofInt IntKind.i64.bits a &&& ~~~ BitVec.ofInt IntKind.i64.bits b).toNat = a.toNat &&& (2 ^ 64 - 1 - b.toNat) := by
      rw [BitVec.toNat_and, BitVec.toNat_not]
      exact congr (congrArg _ (bits_nat h)) (congrArg (2 ^ 64 - 1 - ·) (bits_nat h'))
    simp only [execOp, hc.ev hx, hc.ev hy, eqGuard, binOp, Op.intBits, h2, IntWalk.i64_in ((a.toNat &&& (2 ^ 64 - 1 - b.toNat) : Nat) : Int) (by omega)]
    simp) k
theorem op_shl {a b : Int} {yk : IntKind} (hw : want ops l ⟨some d, .binOp .shl t x y t', ty, pos, af, g⟩ = some true) (hN : Nat.blt d N = true)
    (hx : ev l x = some (.int .i64 a)) (hy : ev l y = some (.int yk b)) (h : 0 ≤ b ∧ b ≤ 62) (h' : 0 ≤ a * 2 ^ b.toNat ∧ a * 2 ^ b.toNat ≤ 9223372036854775807)
    (k : WL P N ds ops Q os ((d, .int .i64 (a * 2 ^ b.toNat)) :: l) w) : WL P N ds ops Q (⟨some d, .binOp .shl t x y t', ty, pos, af, g⟩ :: os) l w :=
  wl_value rfl hw hN (fun c hc => by
    have h1 : min b.toNat IntKind.i64.bits = b.toNat := by simp [IntKind.bits]; omega
    have h2 : ¬ b < 0 := by omega
    simp only [execOp, hc.ev hx, hc.ev hy, eqGuard, binOp, Op.shift, h1, if_neg h2, IntWalk.i64_in (a * 2 ^ b.toNat) (by omega)]
    simp) k
theorem op_shr {a b : Int} {yk : IntKind} (hw : want ops l ⟨some d, .binOp .shr t x y t', ty, pos, af, g⟩ = some true) (hN : Nat.blt d N = true)
    (hx : ev l x = some (.int .i64 a)) (hy : ev l y = some (.int yk b)) (h : 0 ≤ b ∧ b ≤ 62)
    (k : WL P N ds ops Q os ((d, .int .i64 (a.fdiv (2 ^ b.toNat))) :: l) w) : WL P N ds ops Q (⟨some d, .binOp .shr t x y t', ty, pos, af, g⟩ :: os) l w :=
  wl_value rfl hw hN (fun c hc => by
    have h1 : min b.toNat IntKind.i64.bits = b.toNat := by simp [IntKind.bits]; omega
    have h2 : ¬ b < 0 := by omega
    simp only [execOp, hc.ev hx, hc.ev hy, eqGuard, binOp, Op.shift, h1, if_neg h2]
    simp) k
theorem op_convert {ik' ik2 : IntKind} [TyInt P t ik2] [TyInt P t' ik'] {a : Int} (hw : want ops l ⟨some d, .convert t t' x, ty, pos, af, g⟩ = some true) (hN : Nat.blt d N = true)
    (hx : ev l x = some (.int ik a)) (k : WL P N ds ops Q os ((d, .int ik' (ik'.wrap a)) :: l) w) :
    WL P N ds ops Q (⟨some d, .convert t t' x, ty, pos, af, g⟩ :: os) l w :=
  wl_value rfl hw hN (fun c hc => by
    have h1 := run_underlying (P := P) (w := w) (TyInt.out (P := P) (t := t))
    have h2 := run_underlying (P := P) (w := w) (TyInt.out (P := P) (t := t'))
    simp [execOp, hc.ev hx, convert, Conv.intToInt, h1, h2]) k
theorem op_indexAddr_arr {e : TypeId} {sz by_ n : Nat} [TyArr P t n e] [Elem P e sz by_] {b o' : Nat} {i : Int} (hw : want ops l ⟨some d, .indexAddr t x y, ty, pos, af, g⟩ = some true) (hN : Nat.blt d N = true)
    (hx : ev l x = some (.pointer (some ⟨b, o', none⟩))) (hy : ev l y = some (.int .i64 i)) (h0 : 0 ≤ i) (h1 : i < n)
    (k : WL P N ds ops Q os ((d, .pointer (some ⟨b, o' + i.toNat * sz, none⟩)) :: l) w) :
    WL P N ds ops Q (⟨some d, .indexAddr t x y, ty, pos, af, g⟩ :: os) l w :=
  wl_value rfl hw hN (fun a ha => by
    obtain ⟨inf, z, hi, _, hs, _, _, _⟩ := Elem.out (P := P) (e := e)
    have h6 := run_underlying (P := P) (w := w) (TyArr.out (P := P) (t := t))
    simp [execOp, Instr.indexAt, Instr.sureAddr, asIntOf, ha.ev hx, ha.ev hy, h6, h0, h1, sizeOf, typeInfo, hi, hs, Addr.add_lit]) k
theorem results_cell {fn : Func} {t : Nat} {tc : TypeId} (h : fn.results = #[.cell t tc]) (tmps : Array Value) (w : World) {b off : Nat} {v : Value} (ht : tmps[t]? = some (.pointer (some ⟨b, off, none⟩)))
    (hv : (loadVar tc ⟨b, off, none⟩).run P w = .ok v w) : (results fn tmps).run P w = .ok v w := by
  simp [results, h, ht, asAddr, hv]
theorem run_loadAgg {t n b off : Nat} [TyAgg P t n] {c : Array Value} {e : TypeId} {fr : Nat × Nat} {vs : List Value}
    (hb : w.heap[b]? = some (.cells c e fr)) (hl : vs.length = n) (hc : ∀ j v, vs[j]? = some v → c[off + j]? = some v) : (loadVar t ⟨b, off, none⟩).run P w = .ok (.agg vs.toArray) w := by
  obtain ⟨dd, i, h1, h2, h3, h4⟩ := TyAgg.out (P := P) (t := t)
  have h5 := run_loadCells_list (P := P) w ⟨b, off, none⟩ vs (fun j v hv => by rw [Addr.add_lit]; exact cell_of hb (hc j v hv))
  rw [hl] at h5
  simp [loadVar, run_isAgg h1, h2, sizeOf, typeInfo, h3, h4, h5]
/-- the one result stands in a cell: a struct or an array. -/
theorem at_ret_agg {fn : Func} {t n b off : Nat} {tc : TypeId} [TyAgg P tc n] {c : Array Value} {e : TypeId} {fr : Nat × Nat} {vs : List Value} {Post : Value → World → Prop} (hr : fn.results = #[.cell t tc])
    (hx : lk l t = some (.pointer (some ⟨b, off, none⟩))) (hb : w.heap[b]? = some (.cells c e fr)) (hl : vs.length = n) (hc : ∀ j v, vs[j]? = some v → c[off + j]? = some v)
    (h : Post (.agg vs.toArray) w) : At N [] (bodyPost P fn (Ret Post)) .ret l w :=
  ⟨fun a ha => ⟨ha.defs, _, results_cell hr a.tmps w (ha.vals t _ hx) (run_loadAgg hb hl hc), h⟩⟩
end
end Go.Fw
