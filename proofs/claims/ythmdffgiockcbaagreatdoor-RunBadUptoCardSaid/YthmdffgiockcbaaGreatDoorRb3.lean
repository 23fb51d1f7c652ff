/- Own work: texts FwInt, FwQ, FwMem4, one behind the other. -/
import Derived.Test.YthmdffgiockcbaaGreatDoorRb2
section
namespace Go.Fw
open Go
class TyInt (P : Program) (t : TypeId) (k : outParam IntKind) : Prop where out : P.underlying t = some (.int k)
class TyArr (P : Program) (t : TypeId) (n : outParam Nat) (e : outParam TypeId) : Prop where out : P.underlying t = some (.array n e)
section
variable {P : Program} {N : Nat} {ds : List Deferred} {Q : Exit → Act → World → Prop} {l l' : Log} {w w' : World} {ops : Array Oper} {os : List Oper} {o : Oper}
variable {d : Nat} {ty : TypeId} {pos : String} {af : Array Edge} {g : Option (Nat × Bool)} {t t' : TypeId} {x y : Operand} {ik : IntKind}

class Fld1 (P : Program) (t : TypeId) (i : Nat) (off : outParam Nat) : Prop where
  out : ∃ fs f dd, P.underlying t = some (.struct fs) ∧ fs[i]? = some f ∧ f.offset = off ∧ P.underlying f.type = some dd ∧ isAggD dd = false
def fld1B (P : Program) (t : TypeId) (i off : Nat) : Bool := match P.underlying t with
  | some (.struct fs) => match fs[i]? with
    | some f => f.offset == off && (match P.underlying f.type with | some dd => !isAggD dd | none => false)
    | none => false
  | _ => false
theorem Fld1.of {P : Program} {t : TypeId} {i off : Nat} (h : fld1B P t i off = true) : Fld1 P t i off := by
  unfold fld1B at h
  split at h
  · rename_i fs hd
    split at h
    · rename_i f hf
      simp only [Bool.and_eq_true, beq_iff_eq] at h
      obtain ⟨h1, h2⟩ := h
      split at h2
      · rename_i dd hdd; exact ⟨fs, f, dd, hd, hf, h1, hdd, by simpa using h2⟩
      · cases h2
    · cases h
  · cases h
theorem op_nilCheck {p : Addr} (hw : want ops l ⟨some d, .nilCheck x, ty, pos, af, g⟩ = some true := by rfl) (hN : Nat.blt d N = true := by rfl)
    (hx : ev l x = some (.pointer (some p)) := by rfl) (k : WL P N ds ops Q os ((d, .pointer (some p)) :: l) w) : WL P N ds ops Q (⟨some d, .nilCheck x, ty, pos, af, g⟩ :: os) l w :=
  wl_value rfl hw hN (fun c hc => by simp [execOp, hc.ev hx]) k
theorem op_sub_u8 {a b : Int} (hw : want ops l ⟨some d, .binOp .sub t x y t', ty, pos, af, g⟩ = some true := by rfl) (hN : Nat.blt d N = true := by rfl)
    (hx : ev l x = some (.int .u8 a) := by rfl) (hy : ev l y = some (.int .u8 b) := by rfl) (h : 0 ≤ a - b ∧ a - b ≤ 255 := by omega)
    (k : WL P N ds ops Q os ((d, .int .u8 (a - b)) :: l) w) : WL P N ds ops Q (⟨some d, .binOp .sub t x y t', ty, pos, af, g⟩ :: os) l w :=
  wl_value rfl hw hN (fun c hc => by simp [execOp, hc.ev hx, hc.ev hy, eqGuard, binOp, Op.intArith, IntWalk.u8_in _ h]) k

theorem bits_nat {a : Int} (h : 0 ≤ a ∧ a ≤ 9223372036854775807) : (BitVec.ofInt 64 a).toNat = a.toNat := by
  rw [BitVec.toNat_ofInt, Int.emod_eq_of_lt h.1 (by have : ((2 ^ 64 : Nat) : Int) = 18446744073709551616 := by decide
                                                    omega)]
theorem op_and {a b : Int} (hw : want ops l ⟨some d, .binOp .and t x y t', ty, pos, af, g⟩ = some true := by rfl) (hN : Nat.blt d N = true := by rfl)
    (hx : ev l x = some (.int .i64 a) := by rfl) (hy : ev l y = some (.int .i64 b) := by rfl) (h : 0 ≤ a ∧ a ≤ 9223372036854775807 := by omega) (h' : 0 ≤ b ∧ b ≤ 9223372036854775807 := by omega)
    (k : WL P N ds ops Q os ((d, .int .i64 ((a.toNat &&& b.toNat : Nat) : Int)) :: l) w) : WL P N ds ops Q (⟨some d, .binOp .and t x y t', ty, pos, af, g⟩ :: os) l w :=
  wl_value rfl hw hN (fun c hc => by
    have h1 : a.toNat &&& b.toNat ≤ a.toNat := Nat.and_le_left
    have h2 : (BitVec.ofInt IntKind.i64.bits a &&& BitVec.ofInt IntKind.i64.bits b).toNat = a.toNat &&& b.toNat := by
      rw [BitVec.toNat_and]; exact congr (congrArg _ (bits_nat h)) (bits_nat h')
    simp only [execOp, hc.ev hx, hc.ev hy, eqGuard, binOp, Op.intBits, h2, IntWalk.i64_in ((a.toNat &&& b.toNat : Nat) : Int) (by omega)]
    simp) k
theorem op_or {a b : Int} (hw : want ops l ⟨some d, .binOp .or t x y t', ty, pos, af, g⟩ = some true := by rfl) (hN : Nat.blt d N = true := by rfl)
    (hx : ev l x = some (.int .i64 a) := by rfl) (hy : ev l y = some (.int .i64 b) := by rfl) (h : 0 ≤ a ∧ a < 4294967296 := by omega) (h' : 0 ≤ b ∧ b < 4294967296 := by omega)
    (k : WL P N ds ops Q os ((d, .int .i64 ((a.toNat ||| b.toNat : Nat) : Int)) :: l) w) : WL P N ds ops Q (⟨some d, .binOp .or t x y t', ty, pos, af, g⟩ :: os) l w :=
  wl_value rfl hw hN (fun c hc => by
    have h1 : a.toNat ||| b.toNat < 2 ^ 32 := Nat.or_lt_two_pow (by omega) (by omega)
    have h2 : (BitVec.ofInt IntKind.i64.bits a ||| BitVec.ofInt IntKind.i64.bits b).toNat = a.toNat ||| b.toNat := by
      rw [BitVec.toNat_or]; exact congr (congrArg _ (bits_nat (by omega))) (bits_nat (by omega))
    simp only [execOp, hc.ev hx, hc.ev hy, eqGuard, binOp, Op.intBits, h2, IntWalk.i64_in ((a.toNat ||| b.toNat : Nat) : Int) (by omega)]
    simp) k
theorem op_andNot {a b : Int} (hw : want ops l ⟨some d, .binOp .andNot t x y t', ty, pos, af, g⟩ = some true := by rfl) (hN : Nat.blt d N = true := by rfl)
    (hx : ev l x = some (.int .i64 a) := by rfl) (hy : ev l y = some (.int .i64 b) := by rfl) (h : 0 ≤ a ∧ a ≤ 9223372036854775807 := by omega) (h' : 0 ≤ b ∧ b ≤ 9223372036854775807 := by omega)
    (k : WL P N ds ops Q os ((d, .int .i64 ((a.toNat &&& (2 ^ 64 - 1 - b.toNat) : Nat) : Int)) :: l) w) : WL P N ds ops Q (⟨some d, .binOp .andNot t x y t', ty, pos, af, g⟩ :: os) l w :=
  wl_value rfl hw hN (fun c hc => by
    have h1 : a.toNat &&& (2 ^ 64 - 1 - b.toNat) ≤ a.toNat := Nat.and_le_left
    have h2 : (BitVec.ofInt IntKind.i64.bits a &&& ~~~ BitVec.ofInt IntKind.i64.bits b).toNat = a.toNat &&& (2 ^ 64 - 1 - b.toNat) := by
      rw [BitVec.toNat_and, BitVec.toNat_not]
      exact congr (congrArg _ (bits_nat h)) (congrArg (2 ^ 64 - 1 - ·) (bits_nat h'))
    simp only [execOp, hc.ev hx, hc.ev hy, eqGuard, binOp, Op.intBits, h2, IntWalk.i64_in ((a.toNat &&& (2 ^ 64 - 1 - b.toNat) : Nat) : Int) (by omega)]
    simp) k
theorem op_shl {a b : Int} {yk : IntKind} (hw : want ops l ⟨some d, .binOp .shl t x y t', ty, pos, af, g⟩ = some true := by rfl) (hN : Nat.blt d N = true := by rfl)
    (hx : ev l x = some (.int .i64 a) := by rfl) (hy : ev l y = some (.int yk b) := by rfl) (h : 0 ≤ b ∧ b ≤ 62 := by omega) (h' : 0 ≤ a * 2 ^ b.toNat ∧ a * 2 ^ b.toNat ≤ 9223372036854775807)
    (k : WL P N ds ops Q os ((d, .int .i64 (a * 2 ^ b.toNat)) :: l) w) : WL P N ds ops Q (⟨some d, .binOp .shl t x y t', ty, pos, af, g⟩ :: os) l w :=
  wl_value rfl hw hN (fun c hc => by
    have h1 : min b.toNat IntKind.i64.bits = b.toNat := by simp [IntKind.bits]; omega
    have h2 : ¬ b < 0 := by omega
    simp only [execOp, hc.ev hx, hc.ev hy, eqGuard, binOp, Op.shift, h1, if_neg h2, IntWalk.i64_in (a * 2 ^ b.toNat) (by omega)]
    simp) k
theorem op_shr {a b : Int} {yk : IntKind} (hw : want ops l ⟨some d, .binOp .shr t x y t', ty, pos, af, g⟩ = some true := by rfl) (hN : Nat.blt d N = true := by rfl)
    (hx : ev l x = some (.int .i64 a) := by rfl) (hy : ev l y = some (.int yk b) := by rfl) (h : 0 ≤ b ∧ b ≤ 62 := by omega)
    (k : WL P N ds ops Q os ((d, .int .i64 (a.fdiv (2 ^ b.toNat))) :: l) w) : WL P N ds ops Q (⟨some d, .binOp .shr t x y t', ty, pos, af, g⟩ :: os) l w :=
  wl_value rfl hw hN (fun c hc => by
    have h1 : min b.toNat IntKind.i64.bits = b.toNat := by simp [IntKind.bits]; omega
    have h2 : ¬ b < 0 := by omega
    simp only [execOp, hc.ev hx, hc.ev hy, eqGuard, binOp, Op.shift, h1, if_neg h2]
    simp) k
theorem results_cell {fn : Func} {t : Nat} {tc : TypeId} (h : fn.results = #[.cell t tc]) (tmps : Array Value) (w : World) {b off : Nat} {v : Value} (ht : tmps[t]? = some (.pointer (some ⟨b, off, none⟩)))
    (hv : (loadVar tc ⟨b, off, none⟩).run P w = .ok v w) : (results fn tmps).run P w = .ok v w := by
  simp [results, h, ht, asAddr, hv]
theorem run_loadAgg {t n b off : Nat} [TyAgg P t n] {c : Array Value} {e : TypeId} {fr : Nat × Nat} {vs : List Value}
    (hb : w.heap[b]? = some (.cells c e fr)) (hl : vs.length = n) (hc : ∀ j v, vs[j]? = some v → c[off + j]? = some v) : (loadVar t ⟨b, off, none⟩).run P w = .ok (.agg vs.toArray) w := by
  obtain ⟨dd, i, h1, h2, h3, h4⟩ := TyAgg.out (P := P) (t := t)
  have h5 := run_loadCells_list (P := P) w ⟨b, off, none⟩ vs (fun j v hv => by rw [Addr.add_lit]; exact cell_of hb (hc j v hv))
  rw [hl] at h5
  simp [loadVar, run_isAgg h1, h2, sizeOf, typeInfo, h3, h4, h5]
theorem results_cell2 {fn : Func} {t u : Nat} {tc : TypeId} (h : fn.results = #[.cell t tc, .tmp u]) (tmps : Array Value) (w : World) {b off : Nat} {v x : Value} (ht : tmps[t]? = some (.pointer (some ⟨b, off, none⟩)))
    (hu : tmps[u]? = some x) (hv : (loadVar tc ⟨b, off, none⟩).run P w = .ok v w) : (results fn tmps).run P w = .ok (.tuple #[v, x]) w := by
  simp [results, h, ht, hu, asAddr, hv]
theorem at_ret2_agg {fn : Func} {t u n b off : Nat} {tc : TypeId} [TyAgg P tc n] {c : Array Value} {e : TypeId} {fr : Nat × Nat} {vs : List Value} {xv : Value} {Post : Value → World → Prop} (hr : fn.results = #[.cell t tc, .tmp u])
    (hx : lk l t = some (.pointer (some ⟨b, off, none⟩))) (hu : lk l u = some xv) (hb : w.heap[b]? = some (.cells c e fr)) (hl : vs.length = n) (hc : ∀ j v, vs[j]? = some v → c[off + j]? = some v)
    (h : Post (.tuple #[.agg vs.toArray, xv]) w) : At N [] (bodyPost P fn (Ret Post)) .ret l w :=
  ⟨fun a ha => ⟨ha.defs, _, results_cell2 hr a.tmps w (ha.vals t _ hx) (ha.vals u _ hu) (run_loadAgg hb hl hc), h⟩⟩
theorem at_ret_agg {fn : Func} {t n b off : Nat} {tc : TypeId} [TyAgg P tc n] {c : Array Value} {e : TypeId} {fr : Nat × Nat} {vs : List Value} {Post : Value → World → Prop} (hr : fn.results = #[.cell t tc])
    (hx : lk l t = some (.pointer (some ⟨b, off, none⟩))) (hb : w.heap[b]? = some (.cells c e fr)) (hl : vs.length = n) (hc : ∀ j v, vs[j]? = some v → c[off + j]? = some v)
    (h : Post (.agg vs.toArray) w) : At N [] (bodyPost P fn (Ret Post)) .ret l w :=
  ⟨fun a ha => ⟨ha.defs, _, results_cell hr a.tmps w (ha.vals t _ hx) (run_loadAgg hb hl hc), h⟩⟩
end
end Go.Fw
end
section
namespace Go.Fw
open Go
section
variable {P : Program} {N : Nat} {ds : List Deferred} {K : Act → World → Prop} {l l' : Log} {w w' : World} {ops : Array Oper} {os : List Oper} {o : Oper}
variable {d : Nat} {ty : TypeId} {pos : String} {af : Array Edge} {g : Option (Nat × Bool)} {t t' : TypeId} {x y : Operand} {ik : IntKind}

theorem q_move {x : Operand} {v : Value} (hw : want ops l ⟨some d, .move x, ty, pos, af, g⟩ = some true := by rfl) (hN : Nat.blt d N = true := by rfl) (hx : ev l x = some v := by rfl)
    (k : WQ P N ds ops w K os ((d, v) :: l)) : WQ P N ds ops w K (⟨some d, .move x, ty, pos, af, g⟩ :: os) l :=
  wq_value rfl hw hN (fun w' hkq a ha => by simp [execOp, ha.ev hx]) k
theorem q_assign {x : Operand} {v : Value} (hw : want ops l ⟨some d, .assign x, ty, pos, af, g⟩ = some true := by rfl) (hN : Nat.blt d N = true := by rfl) (hx : ev l x = some v := by rfl)
    (k : WQ P N ds ops w K os ((d, v) :: l)) : WQ P N ds ops w K (⟨some d, .assign x, ty, pos, af, g⟩ :: os) l :=
  wq_value rfl hw hN (fun w' hkq a ha => by simp [execOp, ha.ev hx]) k
theorem q_pick_true {c x y : Operand} {v : Value} (hw : want ops l ⟨some d, .pick c x y, ty, pos, af, g⟩ = some true := by rfl) (hN : Nat.blt d N = true := by rfl)
    (hc : ev l c = some (.bool true) := by rfl) (hx : ev l x = some v := by rfl) (k : WQ P N ds ops w K os ((d, v) :: l)) : WQ P N ds ops w K (⟨some d, .pick c x y, ty, pos, af, g⟩ :: os) l :=
  wq_value rfl hw hN (fun w' hkq a ha => by simp [execOp, ha.ev hc, ha.ev hx, asBool]) k
theorem q_pick_false {c x y : Operand} {v : Value} (hw : want ops l ⟨some d, .pick c x y, ty, pos, af, g⟩ = some true := by rfl) (hN : Nat.blt d N = true := by rfl)
    (hc : ev l c = some (.bool false) := by rfl) (hy : ev l y = some v := by rfl) (k : WQ P N ds ops w K os ((d, v) :: l)) : WQ P N ds ops w K (⟨some d, .pick c x y, ty, pos, af, g⟩ :: os) l :=
  wq_value rfl hw hN (fun w' hkq a ha => by simp [execOp, ha.ev hc, ha.ev hy, asBool]) k
theorem q_lss {a b : Int} (hw : want ops l ⟨some d, .binOp .lss t x y t', ty, pos, af, g⟩ = some true := by rfl) (hN : Nat.blt d N = true := by rfl) (hx : ev l x = some (.int ik a) := by rfl) (hy : ev l y = some (.int ik b) := by rfl)
    (k : WQ P N ds ops w K os ((d, .bool (decide (a < b))) :: l)) : WQ P N ds ops w K (⟨some d, .binOp .lss t x y t', ty, pos, af, g⟩ :: os) l :=
  wq_value rfl hw hN (fun w' hkq c hc => by simp [execOp, hc.ev hx, hc.ev hy, eqGuard, binOp, Op.intCmp]) k
theorem q_leq {a b : Int} (hw : want ops l ⟨some d, .binOp .leq t x y t', ty, pos, af, g⟩ = some true := by rfl) (hN : Nat.blt d N = true := by rfl) (hx : ev l x = some (.int ik a) := by rfl) (hy : ev l y = some (.int ik b) := by rfl)
    (k : WQ P N ds ops w K os ((d, .bool (decide (a ≤ b))) :: l)) : WQ P N ds ops w K (⟨some d, .binOp .leq t x y t', ty, pos, af, g⟩ :: os) l :=
  wq_value rfl hw hN (fun w' hkq c hc => by simp [execOp, hc.ev hx, hc.ev hy, eqGuard, binOp, Op.intCmp]) k
theorem q_eql {a b : Int} (hw : want ops l ⟨some d, .binOp .eql t x y t', ty, pos, af, g⟩ = some true := by rfl) (hN : Nat.blt d N = true := by rfl) (hx : ev l x = some (.int ik a) := by rfl) (hy : ev l y = some (.int ik b) := by rfl)
    (k : WQ P N ds ops w K os ((d, .bool (decide (a = b))) :: l)) : WQ P N ds ops w K (⟨some d, .binOp .eql t x y t', ty, pos, af, g⟩ :: os) l :=
  wq_value rfl hw hN (fun w' hkq c hc => by simp [execOp, hc.ev hx, hc.ev hy, eqGuard, binOp, Op.intCmp, beq_dec]) k
theorem q_neq {a b : Int} (hw : want ops l ⟨some d, .binOp .neq t x y t', ty, pos, af, g⟩ = some true := by rfl) (hN : Nat.blt d N = true := by rfl) (hx : ev l x = some (.int ik a) := by rfl) (hy : ev l y = some (.int ik b) := by rfl)
    (k : WQ P N ds ops w K os ((d, .bool (decide (a ≠ b))) :: l)) : WQ P N ds ops w K (⟨some d, .binOp .neq t x y t', ty, pos, af, g⟩ :: os) l :=
  wq_value rfl hw hN (fun w' hkq c hc => by simp [execOp, hc.ev hx, hc.ev hy, eqGuard, binOp, Op.intCmp, beq_dec, bne]) k
theorem q_len_str [TyStr P t] {s : List UInt8} (hw : want ops l ⟨some d, .call ⟨.builtin .len, #[x], #[t]⟩, ty, pos, af, g⟩ = some true := by rfl) (hN : Nat.blt d N = true := by rfl)
    (hx : ev l x = some (str s) := by rfl) (k : WQ P N ds ops w K os ((d, .int .i64 (s.length : Int)) :: l)) :
    WQ P N ds ops w K (⟨some d, .call ⟨.builtin .len, #[x], #[t]⟩, ty, pos, af, g⟩ :: os) l :=
  wq_value rfl hw hN (fun w' hkq a ha => by
    have h1 := run_underlying (P := P) (w := w') (TyStr.out (P := P) (t := t))
    simp [execOp, resolve, invoke, builtin, Builtin.len_, ha.ev hx, h1, goInt, str_size]) k
theorem q_len_slice {e : TypeId} [TySlice P t e] {b : Option Addr} {n c : Nat} (hw : want ops l ⟨some d, .call ⟨.builtin .len, #[x], #[t]⟩, ty, pos, af, g⟩ = some true := by rfl) (hN : Nat.blt d N = true := by rfl)
    (hx : ev l x = some (.slice b n c) := by rfl) (k : WQ P N ds ops w K os ((d, .int .i64 (n : Int)) :: l)) :
    WQ P N ds ops w K (⟨some d, .call ⟨.builtin .len, #[x], #[t]⟩, ty, pos, af, g⟩ :: os) l :=
  wq_value rfl hw hN (fun w' hkq a ha => by
    have h1 := run_underlying (P := P) (w := w') (TySlice.out (P := P) (t := t))
    simp [execOp, resolve, invoke, builtin, Builtin.len_, ha.ev hx, h1, goInt]) k
theorem q_slice_str [TyStr P t] {s : List UInt8} {z : Operand} {a b : Int} (hw : want ops l ⟨some d, .slice t x (some y) (some z) none, ty, pos, af, g⟩ = some true := by rfl) (hN : Nat.blt d N = true := by rfl)
    (hx : ev l x = some (str s) := by rfl) (hy : ev l y = some (.int .i64 a) := by rfl) (hz : ev l z = some (.int .i64 b) := by rfl) (h0 : 0 ≤ a ∧ a ≤ b ∧ b ≤ s.length := by omega)
    (k : WQ P N ds ops w K os ((d, str ((s.drop a.toNat).take (b.toNat - a.toNat))) :: l)) :
    WQ P N ds ops w K (⟨some d, .slice t x (some y) (some z) none, ty, pos, af, g⟩ :: os) l :=
  wq_value rfl hw hN (fun w' hkq c hc => by
    obtain ⟨i, rfl⟩ := Int.eq_ofNat_of_zero_le h0.1
    obtain ⟨j, rfl⟩ := Int.eq_ofNat_of_zero_le (Int.le_trans h0.1 h0.2.1)
    have h2 := run_underlying (P := P) (w := w') (TyStr.out (P := P) (t := t))
    have h3 : i ≤ j := by omega
    have h4 : j ≤ s.length := by omega
    simp [execOp, Instr.sliceAt, Instr.slice, Instr.sliceBounds, Instr.sliceBound, hc.ev hx, hc.ev hy, hc.ev hz, h2, asIntOf, str_size, str_extract, h3, h4]) k
theorem q_eql_str {s u : List UInt8} (hw : want ops l ⟨some d, .binOp .eql t x y t', ty, pos, af, g⟩ = some true := by rfl) (hN : Nat.blt d N = true := by rfl)
    (hx : ev l x = some (str s) := by rfl) (hy : ev l y = some (str u) := by rfl) (k : WQ P N ds ops w K os ((d, .bool (decide (s = u))) :: l)) :
    WQ P N ds ops w K (⟨some d, .binOp .eql t x y t', ty, pos, af, g⟩ :: os) l :=
  wq_value rfl hw hN (fun w' hkq c hc => by simp [execOp, hc.ev hx, hc.ev hy, eqGuard, binOp, Op.stringOp]; exact beq_dec s u) k
theorem q_neq_str {s u : List UInt8} (hw : want ops l ⟨some d, .binOp .neq t x y t', ty, pos, af, g⟩ = some true := by rfl) (hN : Nat.blt d N = true := by rfl)
    (hx : ev l x = some (str s) := by rfl) (hy : ev l y = some (str u) := by rfl) (k : WQ P N ds ops w K os ((d, .bool (decide (s ≠ u))) :: l)) :
    WQ P N ds ops w K (⟨some d, .binOp .neq t x y t', ty, pos, af, g⟩ :: os) l :=
  wq_value rfl hw hN (fun w' hkq c hc => by simp [execOp, hc.ev hx, hc.ev hy, eqGuard, binOp, Op.stringOp]; exact beq_dec s u) k
theorem q_add {a b : Int} (hw : want ops l ⟨some d, .binOp .add t x y t', ty, pos, af, g⟩ = some true := by rfl) (hN : Nat.blt d N = true := by rfl)
    (hx : ev l x = some (.int .i64 a) := by rfl) (hy : ev l y = some (.int .i64 b) := by rfl) (h : -9223372036854775808 ≤ a + b ∧ a + b ≤ 9223372036854775807 := by omega)
    (k : WQ P N ds ops w K os ((d, .int .i64 (a + b)) :: l)) : WQ P N ds ops w K (⟨some d, .binOp .add t x y t', ty, pos, af, g⟩ :: os) l :=
  wq_value rfl hw hN (fun w' hkq c hc => by simp [execOp, hc.ev hx, hc.ev hy, eqGuard, binOp, Op.intArith, IntWalk.i64_in _ h]) k
theorem q_not {b : Bool} (hw : want ops l ⟨some d, .unOp .not t x, ty, pos, af, g⟩ = some true := by rfl) (hN : Nat.blt d N = true := by rfl)
    (hx : ev l x = some (.bool b) := by rfl) (k : WQ P N ds ops w K os ((d, .bool (!b)) :: l)) : WQ P N ds ops w K (⟨some d, .unOp .not t x, ty, pos, af, g⟩ :: os) l :=
  wq_value rfl hw hN (fun w' hkq c hc => by simp [execOp, hc.ev hx, Op.unary]) k
theorem q_load1 [TyOne P t] {b off : Nat} {c : Array Value} {e : TypeId} {fr : Nat × Nat} {v : Value} (hw : want ops l ⟨some d, .load t x, ty, pos, af, g⟩ = some true := by rfl) (hN : Nat.blt d N = true := by rfl)
    (hx : ev l x = some (.pointer (some ⟨b, off, none⟩)) := by rfl) (hb : w.heap[b]? = some (.cells c e fr) := by assumption) (hc : c[off]? = some v := by rfl)
    (k : WQ P N ds ops w K os ((d, v) :: l)) : WQ P N ds ops w K (⟨some d, .load t x, ty, pos, af, g⟩ :: os) l :=
  wq_value rfl hw hN (fun w' hkq a ha => by
    obtain ⟨dd, h1, h2⟩ := TyOne.out (P := P) (t := t)
    have h4 := cell_of (hkq.get0 hb) hc
    simp [execOp, Instr.loadAt, Instr.sureAddr, loadVar, run_isAgg h1, h2, ha.ev hx, load, Sem.run, h4]) k
theorem q_fieldAddr {i off : Nat} [Fld P t i off] {b o' : Nat} (hw : want ops l ⟨some d, .fieldAddr t x i, ty, pos, af, g⟩ = some true := by rfl) (hN : Nat.blt d N = true := by rfl)
    (hx : ev l x = some (.pointer (some ⟨b, o', none⟩)) := by rfl) (k : WQ P N ds ops w K os ((d, .pointer (some ⟨b, o' + off, none⟩)) :: l)) :
    WQ P N ds ops w K (⟨some d, .fieldAddr t x i, ty, pos, af, g⟩ :: os) l :=
  wq_value rfl hw hN (fun w' hkq a ha => by
    obtain ⟨fs, f, inf, h1, h2, h3, h4, h5⟩ := Fld.out (P := P) (t := t) (i := i)
    have h6 := run_underlying (P := P) (w := w') h1
    simp [execOp, Instr.fieldAt, Instr.sureAddr, ha.ev hx, h6, h2, fieldPlace, sizeOf, typeInfo, h4, h5, h3, Addr.add_lit]) k
theorem q_indexAddr {e : TypeId} {sz by_ : Nat} [TySlice P t e] [Elem P e sz by_] {b o' n cp : Nat} {i : Int} (hw : want ops l ⟨some d, .indexAddr t x y, ty, pos, af, g⟩ = some true := by rfl) (hN : Nat.blt d N = true := by rfl)
    (hx : ev l x = some (.slice (some ⟨b, o', none⟩) n cp) := by rfl) (hy : ev l y = some (.int .i64 i) := by rfl) (h0 : 0 ≤ i := by omega) (h1 : i < n := by omega)
    (k : WQ P N ds ops w K os ((d, .pointer (some ⟨b, o' + i.toNat * sz, none⟩)) :: l)) :
    WQ P N ds ops w K (⟨some d, .indexAddr t x y, ty, pos, af, g⟩ :: os) l :=
  wq_value rfl hw hN (fun w' hkq a ha => by
    obtain ⟨inf, z, hi, _, hs, _, _, _⟩ := Elem.out (P := P) (e := e)
    have h6 := run_underlying (P := P) (w := w') (TySlice.out (P := P) (t := t))
    simp [execOp, Instr.indexAt, asIntOf, ha.ev hx, ha.ev hy, h6, h0, h1, sizeOf, typeInfo, hi, hs, Addr.add_lit]) k
theorem q_loadN {n : Nat} [TyAgg P t n] {b off : Nat} {c : Array Value} {e : TypeId} {fr : Nat × Nat} {vs : List Value} (hw : want ops l ⟨some d, .load t x, ty, pos, af, g⟩ = some true) (hN : Nat.blt d N = true)
    (hx : ev l x = some (.pointer (some ⟨b, off, none⟩))) (hb : w.heap[b]? = some (.cells c e fr)) (hl : vs.length = n) (hc : ∀ j v, vs[j]? = some v → c[off + j]? = some v)
    (k : WQ P N ds ops w K os ((d, .agg vs.toArray) :: l)) : WQ P N ds ops w K (⟨some d, .load t x, ty, pos, af, g⟩ :: os) l :=
  wq_value rfl hw hN (fun w' hkq a ha => by
    obtain ⟨dd, i, h1, h2, h3, h4⟩ := TyAgg.out (P := P) (t := t)
    have h5 := run_loadCells_list (P := P) w' ⟨b, off, none⟩ vs (fun j v hv => by rw [Addr.add_lit]; exact cell_of (hkq.get0 hb) (hc j v hv))
    rw [hl] at h5
    simp [execOp, Instr.loadAt, Instr.sureAddr, loadVar, run_isAgg h1, h2, ha.ev hx, sizeOf, typeInfo, h3, h4, h5]) k
theorem q_struct {places : List (Nat × Nat)} {zero : List Value} [StructT P t places zero] {ps : List (Nat × Operand)} {vs : List (Nat × Value)} {r : List Value}
    (hw : want ops l ⟨some d, .build t ps.toArray, ty, pos, af, g⟩ = some true := by rfl) (hN : Nat.blt d N = true := by rfl)
    (hx : evp l ps = some vs := by rfl) (hr : bld places zero vs = some r := by rfl) (k : WQ P N ds ops w K os ((d, .agg r.toArray) :: l)) :
    WQ P N ds ops w K (⟨some d, .build t ps.toArray, ty, pos, af, g⟩ :: os) l :=
  wq_value rfl hw hN (fun w' hkq a ha => by
    have e1 := ha.evp hx
    obtain ⟨fs, h1, h2, h3⟩ := StructT.out (P := P) (t := t)
    have h4 := run_underlying (P := P) (w := w') h1
    have h5 := run_places (P := P) w' _ _ h2
    have h6 := fill_bld places vs zero r hr
    simp only [bind_pure_comp] at h5
    simp only [List.getElem?_toArray] at h6
    cases hi : P.info? t with
    | none => simp [hi] at h3
    | some i =>
      simp only [hi, Option.bind_some] at h3
      simp [execOp, Instr.build, e1, zeroValue, typeInfo, hi, h3, h4, Array.mapM_eq_mapM_toList, h5, Value.cells, h6]) k
theorem q_neq_flat {ks : List FK} [FlatT P t ks] {xs ys : List Value} (hw : want ops l ⟨some d, .binOp .neq t x y t', ty, pos, af, g⟩ = some true := by rfl) (hN : Nat.blt d N = true := by rfl)
    (hx : ev l x = some (.agg xs.toArray) := by rfl) (hy : ev l y = some (.agg ys.toArray) := by rfl) (h1 : fitCells ks xs = true := by rfl) (h2 : fitCells ks ys = true := by rfl)
    (k : WQ P N ds ops w K os ((d, .bool (!(eqCells xs ys))) :: l)) : WQ P N ds ops w K (⟨some d, .binOp .neq t x y t', ty, pos, af, g⟩ :: os) l :=
  wq_value rfl hw hN (fun w' hkq c hc => by
    obtain ⟨fs, a1, a2, a3, a4⟩ := FlatT.out (P := P) (t := t)
    have hf : P.fieldsOf t = fs := by simp [Program.fieldsOf, a1]
    have r1 := run_eqGuard_agg (P := P) w' .neq t x y xs.toArray ys.toArray a4
    have r2 := run_equalIn_agg (P := P) w' 9999 t xs.toArray ys.toArray (by rw [hf]; exact a1) a3
    rw [hf, run_flat xs ys _ _ 0 _ a2 h1 h2] at r2
    simp only [execOp, hc.ev hx, hc.ev hy, Sem.run_bind, r1, Result.andThen_ok, run_neq_struct, r2, Sem.run_pure, List.drop_zero]) k
theorem q_nilCheck {p : Addr} (hw : want ops l ⟨some d, .nilCheck x, ty, pos, af, g⟩ = some true := by rfl) (hN : Nat.blt d N = true := by rfl)
    (hx : ev l x = some (.pointer (some p)) := by rfl) (k : WQ P N ds ops w K os ((d, .pointer (some p)) :: l)) : WQ P N ds ops w K (⟨some d, .nilCheck x, ty, pos, af, g⟩ :: os) l :=
  wq_value rfl hw hN (fun w' hkq c hc => by simp [execOp, hc.ev hx]) k
end
end Go.Fw
end
section
namespace Go.Fw
open Go
section
variable {P : Program} {N : Nat} {ds : List Deferred} {Q : Exit → Act → World → Prop} {l l' : Log} {w w' : World} {ops : Array Oper} {os : List Oper} {o : Oper}
variable {d : Nat} {ty : TypeId} {pos : String} {af : Array Edge} {g : Option (Nat × Bool)} {t t' : TypeId} {x y : Operand}

theorem fill_all (sz : Nat) : ∀ (vs : List (Nat × Value)) (k : Nat) (cs : List Value), vs.map (·.1) = List.range' k vs.length → cs.length = (k + vs.length) * sz →
    (∀ p ∈ vs, p.2.cells.toList.length = sz) → Instr.fill (fun i => some (i * sz, sz)) cs.toArray vs = some (cs.take (k * sz) ++ vs.flatMap (·.2.cells.toList)).toArray
  | [], k, cs, _, hl, _ => by
    simp only [Instr.fill, List.flatMap_nil, List.append_nil]
    rw [List.take_of_length_le (by simp only [List.length_nil, Nat.add_zero] at hl; omega)]
  | (i, v) :: vs, k, cs, hi, hl, hs => by
    simp only [List.map_cons, List.length_cons, List.range'_succ, List.cons.injEq] at hi
    obtain ⟨rfl, hi⟩ := hi
    have hv : v.cells.toList.length = sz := hs (i, v) (by simp)
    have hv' : v.cells.size = sz := by simpa using hv
    have hl' : cs.length = i * sz + sz + vs.length * sz := by rw [hl]; simp only [List.length_cons, Nat.add_mul, Nat.one_mul]; omega
    rw [Instr.fill]
    simp only
    rw [if_neg (by simp [hv', hl'])]
    have e : (v.cells.zipIdx.foldl (fun cs (x : Value × Nat) => cs.setIfInBounds (i * sz + x.2) x.1) cs.toArray) = (cs.take (i * sz) ++ (v.cells.toList ++ cs.drop (i * sz + sz))).toArray := by
      apply Array.ext_getElem?
      intro j
      rw [← Array.foldl_toList, Array.toList_zipIdx, fold_set]
      simp only [List.getElem?_toArray, List.size_toArray, Array.length_toList, Nat.add_zero, hv']
      by_cases h1 : j < i * sz
      · rw [if_neg (by omega), List.getElem?_append_left (by simp; omega)]
        simp [h1]
      · by_cases h2 : j < i * sz + sz
        · rw [if_pos (by omega), List.getElem?_append_right (by simp; omega), List.getElem?_append_left (by simp; omega)]
          congr 1
          simp; omega
        · rw [if_neg (by omega), List.getElem?_append_right (by simp; omega), List.getElem?_append_right (by simp; omega), List.getElem?_drop]
          congr 1
          simp; omega
    have ih := fill_all sz vs (i + 1) (cs.take (i * sz) ++ (v.cells.toList ++ cs.drop (i * sz + sz))) hi (by simp [hv', hl', Nat.add_mul]; omega) (fun p hp => hs p (by simp [hp]))
    have e3 : List.take ((i + 1) * sz) (cs.take (i * sz) ++ (v.cells.toList ++ cs.drop (i * sz + sz))) = cs.take (i * sz) ++ v.cells.toList := by
      rw [← List.append_assoc, List.take_append_of_le_length (by simp [hv', hl', Nat.add_mul]; omega), List.take_of_length_le (by simp [hv', hl', Nat.add_mul]; omega)]
    refine Eq.trans (congrArg (fun c => Instr.fill _ c vs) e) (ih.trans ?_)
    rw [e3, List.append_assoc]
    rfl

theorem op_buildSlice {e : TypeId} {sz by_ n : Nat} [TySlice P t e] [Elem P e sz by_] {ps : List (Nat × Operand)} {vs : List (Nat × Value)}
    (hw : want ops l ⟨some d, .buildSlice t n ps.toArray, ty, pos, af, g⟩ = some true) (hN : Nat.blt d N = true) (hx : evp l ps = some vs)
    (hi : vs.map (·.1) = List.range' 0 n) (hs : vs.all (fun p => Nat.beq p.2.cells.toList.length sz) = true) (hn : n * sz ≤ 16777216)
    (k : ∀ b w', b = w.heap.size → w'.heap[b]? = some (.cells (vs.flatMap (·.2.cells.toList)).toArray e (0, 0)) → Kept [] w w' → WL P N ds ops Q os ((d, .slice (some ⟨b, 0, none⟩) n n) :: l) w') :
    WL P N ds ops Q (⟨some d, .buildSlice t n ps.toArray, ty, pos, af, g⟩ :: os) l w := by
  obtain ⟨i, z, hi', hz, hs', hby, hzc, hpos⟩ := Elem.out (P := P) (e := e)
  have h6 := fun w => run_underlying (P := P) (w := w) (TySlice.out (P := P) (t := t))
  have hlen : vs.length = n := by have := congrArg List.length hi; simpa using this
  have hf := fill_all sz vs 0 ((List.range (n * sz)).map (fun j => z.cells[j % z.cells.size]!)) (by rw [hlen]; exact hi) (by simp [hlen]) (fun p hp => by
    have := List.all_eq_true.1 hs p hp
    exact Nat.eq_of_beq_eq_true this)
  simp only [Nat.zero_mul, List.take_zero, List.nil_append] at hf
  refine wl_value (w' := w.alloc (.cells (vs.flatMap (·.2.cells.toList)).toArray e (0, 0))) (v := .slice (some ⟨w.heap.size, 0, none⟩) n n) rfl hw hN (fun a ha => ?_) (k w.heap.size _ rfl (heap_alloc_new w _) (Kept.alloc w _))
  have e1 := ha.evp hx
  have hz0 : ¬ (2 ^ 24 < n * sz) := by omega
  have e2 : (Array.range (n * sz)).map (fun j => z.cells[j % z.cells.size]!) = ((List.range (n * sz)).map (fun j => z.cells[j % z.cells.size]!)).toArray := by
    apply Array.ext'; simp
  simp only [execOp, Instr.buildSlice]
  by_cases hz1 : n * sz = 0
  · have hn0 : n = 0 := by
      rcases Nat.mul_eq_zero.1 hz1 with h | h
      · exact h
      · omega
    subst hn0
    have : vs = [] := List.eq_nil_of_length_eq_zero hlen
    subst this
    have e4 : Array.range 0 = #[] := rfl
    simp [e1, h6, sizeOf, typeInfo, hi', Instr.fill, newRow, newObj, e4]
    rfl
  · simp [e1, h6, sizeOf, typeInfo, hi', hs', zeroValue, hz, hz0, newRow, newObj, e2, hf]
    rw [if_neg hz1]
    rfl

theorem own_of_block {b n e sz base : Nat} {r : List Value} (hb : w.heap[b]? = some (.cells r.toArray e (0, 0))) (hl : r.length = n * sz) (hbase : base ≤ b) (hn : n ≤ 9223372036854775807) :
    w.ownsRow base e sz (.slice (some ⟨b, 0, none⟩) n n) n r :=
  ⟨hl, .inr ⟨b, n, r.toArray, rfl, hbase, hb, Nat.le_refl _, by unfold maxLen; exact hn, by simp [hl], by simp [← hl]⟩⟩
theorem own_open {base e sz n : Nat} {v : Value} {xs : List Value} (h : w.ownsRow base e sz v n xs) (hn : 0 < n) :
    ∃ g cap cur, v = .slice (some ⟨g, 0, none⟩) n cap ∧ base ≤ g ∧ w.heap[g]? = some (.cells cur e (0, 0)) ∧ n ≤ cap ∧ (∀ (j : Nat) (u : Value), xs[j]? = some u → cur[j]? = some u) ∧ cur.size = cap * sz := by
  rcases h.2 with ⟨_, h0⟩ | ⟨g, cap, cur, rfl, hb, hg, hc, _, hs, ht⟩
  · omega
  · refine ⟨g, cap, cur, rfl, hb, hg, hc, fun j u hj => ?_, hs⟩
    rw [← ht, List.getElem?_take] at hj
    split at hj
    · simpa using hj
    · cases hj
theorem own_val {base e sz n : Nat} {v : Value} {xs : List Value} (h : w.ownsRow base e sz v n xs) : ∃ a cap, v = .slice a n cap := by
  rcases h.2 with ⟨rfl, h0⟩ | ⟨g, cap, cur, rfl, _⟩
  · exact ⟨none, 0, by rw [h0]⟩
  · exact ⟨_, _, rfl⟩

structure Reads (w : World) (sz : Nat) (v : Value) (n : Nat) (xs : List Value) : Prop where
  len : xs.length = n * sz
  out : ∃ a cap, v = .slice a n cap ∧ n ≤ cap ∧ (0 < n → ∃ b off c e fr, a = some ⟨b, off, none⟩ ∧ w.heap[b]? = some (.cells c e fr) ∧ ∀ (j : Nat) (u : Value), xs[j]? = some u → c[off + j]? = some u)
theorem Reads.kept {sz n : Nat} {v : Value} {xs : List Value} (h : Reads w sz v n xs) (k : Kept [] w w') : Reads w' sz v n xs := by
  obtain ⟨hl, a, cap, hv, hc, hr⟩ := h
  exact ⟨hl, a, cap, hv, hc, fun h0 => let ⟨b, off, c, e, fr, h1, h2, h3⟩ := hr h0; ⟨b, off, c, e, fr, h1, k.get0 h2, h3⟩⟩
end
end Go.Fw
end
