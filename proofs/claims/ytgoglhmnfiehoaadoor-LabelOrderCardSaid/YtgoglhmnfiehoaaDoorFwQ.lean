/- Own work (printed by a program of the prover's): the quiet twins of the executor's rules. -/
import Derived.Test.YtgoglhmnfiehoaaDoorFwQuiet
import Derived.Test.YtgoglhmnfiehoaaDoorFwInt
namespace Go.Fw
open Go
section
variable {P : Program} {N : Nat} {ds : List Deferred} {K : Act → World → Prop} {l l' : Log} {w w' : World} {ops : Array Oper} {os : List Oper} {o : Oper}
variable {d : Nat} {ty : TypeId} {pos : String} {af : Array Edge} {g : Option (Nat × Bool)} {t t' : TypeId} {x y : Operand} {ik : IntKind}

theorem q_move {x : Operand} {v : Value} (hw : want ops l ⟨some d, .move x, ty, pos, af, g⟩ = some true) (hN : Nat.blt d N = true) (hx : ev l x = some v)
    (k : WQ P N ds ops w K os ((d, v) :: l)) : WQ P N ds ops w K (⟨some d, .move x, ty, pos, af, g⟩ :: os) l :=
  wq_value rfl hw hN (fun w' hkq a ha => by simp [execOp, ha.ev hx]) k
theorem q_assign {x : Operand} {v : Value} (hw : want ops l ⟨some d, .assign x, ty, pos, af, g⟩ = some true) (hN : Nat.blt d N = true) (hx : ev l x = some v)
    (k : WQ P N ds ops w K os ((d, v) :: l)) : WQ P N ds ops w K (⟨some d, .assign x, ty, pos, af, g⟩ :: os) l :=
  wq_value rfl hw hN (fun w' hkq a ha => by simp [execOp, ha.ev hx]) k
theorem q_pick_true {c x y : Operand} {v : Value} (hw : want ops l ⟨some d, .pick c x y, ty, pos, af, g⟩ = some true) (hN : Nat.blt d N = true)
    (hc : ev l c = some (.bool true)) (hx : ev l x = some v) (k : WQ P N ds ops w K os ((d, v) :: l)) : WQ P N ds ops w K (⟨some d, .pick c x y, ty, pos, af, g⟩ :: os) l :=
  wq_value rfl hw hN (fun w' hkq a ha => by simp [execOp, ha.ev hc, ha.ev hx, asBool]) k
theorem q_pick_false {c x y : Operand} {v : Value} (hw : want ops l ⟨some d, .pick c x y, ty, pos, af, g⟩ = some true) (hN : Nat.blt d N = true)
    (hc : ev l c = some (.bool false)) (hy : ev l y = some v) (k : WQ P N ds ops w K os ((d, v) :: l)) : WQ P N ds ops w K (⟨some d, .pick c x y, ty, pos, af, g⟩ :: os) l :=
  wq_value rfl hw hN (fun w' hkq a ha => by simp [execOp, ha.ev hc, ha.ev hy, asBool]) k
theorem q_lss {a b : Int} (hw : want ops l ⟨some d, .binOp .lss t x y t', ty, pos, af, g⟩ = some true) (hN : Nat.blt d N = true) (hx : ev l x = some (.int ik a)) (hy : ev l y = some (.int ik b))
    (k : WQ P N ds ops w K os ((d, .bool (decide (a < b))) :: l)) : WQ P N ds ops w K (⟨some d, .binOp .lss t x y t', ty, pos, af, g⟩ :: os) l :=
  wq_value rfl hw hN (fun w' hkq c hc => by simp [execOp, hc.ev hx, hc.ev hy, eqGuard, binOp, Op.intCmp]) k
theorem q_leq {a b : Int} (hw : want ops l ⟨some d, .binOp .leq t x y t', ty, pos, af, g⟩ = some true) (hN : Nat.blt d N = true) (hx : ev l x = some (.int ik a)) (hy : ev l y = some (.int ik b))
    (k : WQ P N ds ops w K os ((d, .bool (decide (a ≤ b))) :: l)) : WQ P N ds ops w K (⟨some d, .binOp .leq t x y t', ty, pos, af, g⟩ :: os) l :=
  wq_value rfl hw hN (fun w' hkq c hc => by simp [execOp, hc.ev hx, hc.ev hy, eqGuard, binOp, Op.intCmp]) k
theorem q_gtr {a b : Int} (hw : want ops l ⟨some d, .binOp .gtr t x y t', ty, pos, af, g⟩ = some true) (hN : Nat.blt d N = true) (hx : ev l x = some (.int ik a)) (hy : ev l y = some (.int ik b))
    (k : WQ P N ds ops w K os ((d, .bool (decide (b < a))) :: l)) : WQ P N ds ops w K (⟨some d, .binOp .gtr t x y t', ty, pos, af, g⟩ :: os) l :=
  wq_value rfl hw hN (fun w' hkq c hc => by simp [execOp, hc.ev hx, hc.ev hy, eqGuard, binOp, Op.intCmp]) k
theorem q_geq {a b : Int} (hw : want ops l ⟨some d, .binOp .geq t x y t', ty, pos, af, g⟩ = some true) (hN : Nat.blt d N = true) (hx : ev l x = some (.int ik a)) (hy : ev l y = some (.int ik b))
    (k : WQ P N ds ops w K os ((d, .bool (decide (b ≤ a))) :: l)) : WQ P N ds ops w K (⟨some d, .binOp .geq t x y t', ty, pos, af, g⟩ :: os) l :=
  wq_value rfl hw hN (fun w' hkq c hc => by simp [execOp, hc.ev hx, hc.ev hy, eqGuard, binOp, Op.intCmp]) k
theorem q_eql {a b : Int} (hw : want ops l ⟨some d, .binOp .eql t x y t', ty, pos, af, g⟩ = some true) (hN : Nat.blt d N = true) (hx : ev l x = some (.int ik a)) (hy : ev l y = some (.int ik b))
    (k : WQ P N ds ops w K os ((d, .bool (decide (a = b))) :: l)) : WQ P N ds ops w K (⟨some d, .binOp .eql t x y t', ty, pos, af, g⟩ :: os) l :=
  wq_value rfl hw hN (fun w' hkq c hc => by simp [execOp, hc.ev hx, hc.ev hy, eqGuard, binOp, Op.intCmp, beq_dec]) k
theorem q_neq {a b : Int} (hw : want ops l ⟨some d, .binOp .neq t x y t', ty, pos, af, g⟩ = some true) (hN : Nat.blt d N = true) (hx : ev l x = some (.int ik a)) (hy : ev l y = some (.int ik b))
    (k : WQ P N ds ops w K os ((d, .bool (decide (a ≠ b))) :: l)) : WQ P N ds ops w K (⟨some d, .binOp .neq t x y t', ty, pos, af, g⟩ :: os) l :=
  wq_value rfl hw hN (fun w' hkq c hc => by simp [execOp, hc.ev hx, hc.ev hy, eqGuard, binOp, Op.intCmp, beq_dec, bne]) k
theorem q_len_str [TyStr P t] {s : List UInt8} (hw : want ops l ⟨some d, .call ⟨.builtin .len, #[x], #[t]⟩, ty, pos, af, g⟩ = some true) (hN : Nat.blt d N = true)
    (hx : ev l x = some (str s)) (k : WQ P N ds ops w K os ((d, .int .i64 (s.length : Int)) :: l)) :
    WQ P N ds ops w K (⟨some d, .call ⟨.builtin .len, #[x], #[t]⟩, ty, pos, af, g⟩ :: os) l :=
  wq_value rfl hw hN (fun w' hkq a ha => by
    have h1 := run_underlying (P := P) (w := w') (TyStr.out (P := P) (t := t))
    simp [execOp, resolve, invoke, builtin, Builtin.len_, ha.ev hx, h1, goInt, str_size]) k
theorem q_len_slice {e : TypeId} [TySlice P t e] {b : Option Addr} {n c : Nat} (hw : want ops l ⟨some d, .call ⟨.builtin .len, #[x], #[t]⟩, ty, pos, af, g⟩ = some true) (hN : Nat.blt d N = true)
    (hx : ev l x = some (.slice b n c)) (k : WQ P N ds ops w K os ((d, .int .i64 (n : Int)) :: l)) :
    WQ P N ds ops w K (⟨some d, .call ⟨.builtin .len, #[x], #[t]⟩, ty, pos, af, g⟩ :: os) l :=
  wq_value rfl hw hN (fun w' hkq a ha => by
    have h1 := run_underlying (P := P) (w := w') (TySlice.out (P := P) (t := t))
    simp [execOp, resolve, invoke, builtin, Builtin.len_, ha.ev hx, h1, goInt]) k
theorem q_index_str [TyStr P t] {s : List UInt8} {n : Int} (hw : want ops l ⟨some d, .index t x y, ty, pos, af, g⟩ = some true) (hN : Nat.blt d N = true)
    (hx : ev l x = some (str s)) (hy : ev l y = some (.int .i64 n)) (h0 : 0 ≤ n) (h1 : n < s.length)
    (k : WQ P N ds ops w K os ((d, .int .u8 ((s.getD n.toNat 0).toNat : Int)) :: l)) :
    WQ P N ds ops w K (⟨some d, .index t x y, ty, pos, af, g⟩ :: os) l :=
  wq_value rfl hw hN (fun w' hkq a ha => by
    have h2 := run_underlying (P := P) (w := w') (TyStr.out (P := P) (t := t))
    have h3 : n.toNat < s.length := by omega
    simp [execOp, Instr.index, ha.ev hx, ha.ev hy, h2, asIntOf, h0, str_get s _ h3]) k
theorem q_slice_str [TyStr P t] {s : List UInt8} {z : Operand} {a b : Int} (hw : want ops l ⟨some d, .slice t x (some y) (some z) none, ty, pos, af, g⟩ = some true) (hN : Nat.blt d N = true)
    (hx : ev l x = some (str s)) (hy : ev l y = some (.int .i64 a)) (hz : ev l z = some (.int .i64 b)) (h0 : 0 ≤ a ∧ a ≤ b ∧ b ≤ s.length)
    (k : WQ P N ds ops w K os ((d, str ((s.drop a.toNat).take (b.toNat - a.toNat))) :: l)) :
    WQ P N ds ops w K (⟨some d, .slice t x (some y) (some z) none, ty, pos, af, g⟩ :: os) l :=
  wq_value rfl hw hN (fun w' hkq c hc => by
    obtain ⟨i, rfl⟩ := Int.eq_ofNat_of_zero_le h0.1
    obtain ⟨j, rfl⟩ := Int.eq_ofNat_of_zero_le (Int.le_trans h0.1 h0.2.1)
    have h2 := run_underlying (P := P) (w := w') (TyStr.out (P := P) (t := t))
    have h3 : i ≤ j := by omega
    have h4 : j ≤ s.length := by omega
    simp [execOp, Instr.sliceAt, Instr.slice, Instr.sliceBounds, Instr.sliceBound, hc.ev hx, hc.ev hy, hc.ev hz, h2, asIntOf, str_size, str_extract, h3, h4]) k
theorem q_slice_from [TyStr P t] {s : List UInt8} {a : Int} (hw : want ops l ⟨some d, .slice t x (some y) none none, ty, pos, af, g⟩ = some true) (hN : Nat.blt d N = true)
    (hx : ev l x = some (str s)) (hy : ev l y = some (.int .i64 a)) (h0 : 0 ≤ a ∧ a ≤ s.length)
    (k : WQ P N ds ops w K os ((d, str (s.drop a.toNat)) :: l)) :
    WQ P N ds ops w K (⟨some d, .slice t x (some y) none none, ty, pos, af, g⟩ :: os) l :=
  wq_value rfl hw hN (fun w' hkq c hc => by
    have h2 := run_underlying (P := P) (w := w') (TyStr.out (P := P) (t := t))
    have h4 : (s.drop a.toNat).take (s.length - a.toNat) = s.drop a.toNat := List.take_of_length_le (by simp)
    simp [execOp, Instr.sliceAt, Instr.slice, Instr.sliceBounds, Instr.sliceBound, hc.ev hx, hc.ev hy, h2, asIntOf, h0, str_size, str_extract, h4]) k
theorem q_slice_to [TyStr P t] {s : List UInt8} {b : Int} (hw : want ops l ⟨some d, .slice t x none (some y) none, ty, pos, af, g⟩ = some true) (hN : Nat.blt d N = true)
    (hx : ev l x = some (str s)) (hy : ev l y = some (.int .i64 b)) (h0 : 0 ≤ b ∧ b ≤ s.length)
    (k : WQ P N ds ops w K os ((d, str (s.take b.toNat)) :: l)) :
    WQ P N ds ops w K (⟨some d, .slice t x none (some y) none, ty, pos, af, g⟩ :: os) l :=
  wq_value rfl hw hN (fun w' hkq c hc => by
    have h2 := run_underlying (P := P) (w := w') (TyStr.out (P := P) (t := t))
    simp [execOp, Instr.sliceAt, Instr.slice, Instr.sliceBounds, Instr.sliceBound, hc.ev hx, hc.ev hy, h2, asIntOf, h0, str_size, str_extract]) k
theorem q_eql_str {s u : List UInt8} (hw : want ops l ⟨some d, .binOp .eql t x y t', ty, pos, af, g⟩ = some true) (hN : Nat.blt d N = true)
    (hx : ev l x = some (str s)) (hy : ev l y = some (str u)) (k : WQ P N ds ops w K os ((d, .bool (decide (s = u))) :: l)) :
    WQ P N ds ops w K (⟨some d, .binOp .eql t x y t', ty, pos, af, g⟩ :: os) l :=
  wq_value rfl hw hN (fun w' hkq c hc => by simp [execOp, hc.ev hx, hc.ev hy, eqGuard, binOp, Op.stringOp]; exact beq_dec s u) k
theorem q_neq_str {s u : List UInt8} (hw : want ops l ⟨some d, .binOp .neq t x y t', ty, pos, af, g⟩ = some true) (hN : Nat.blt d N = true)
    (hx : ev l x = some (str s)) (hy : ev l y = some (str u)) (k : WQ P N ds ops w K os ((d, .bool (decide (s ≠ u))) :: l)) :
    WQ P N ds ops w K (⟨some d, .binOp .neq t x y t', ty, pos, af, g⟩ :: os) l :=
  wq_value rfl hw hN (fun w' hkq c hc => by simp [execOp, hc.ev hx, hc.ev hy, eqGuard, binOp, Op.stringOp]; exact beq_dec s u) k
theorem q_add_str {s u : List UInt8} (hw : want ops l ⟨some d, .binOp .add t x y t', ty, pos, af, g⟩ = some true) (hN : Nat.blt d N = true)
    (hx : ev l x = some (str s)) (hy : ev l y = some (str u)) (h : s.length + u.length ≤ 9223372036854775807) (k : WQ P N ds ops w K os ((d, str (s ++ u)) :: l)) :
    WQ P N ds ops w K (⟨some d, .binOp .add t x y t', ty, pos, af, g⟩ :: os) l :=
  wq_value rfl hw hN (fun w' hkq c hc => by
    have h1 : ¬ ((s.length + u.length : Nat) : Int) > IntKind.i64.max := by simp [IntKind.max, IntKind.bits, IntKind.signed]; omega
    simp only [execOp, hc.ev hx, hc.ev hy, eqGuard, binOp, Op.stringOp, str_size, str_append, if_neg h1]
    simp) k
theorem q_add {a b : Int} (hw : want ops l ⟨some d, .binOp .add t x y t', ty, pos, af, g⟩ = some true) (hN : Nat.blt d N = true)
    (hx : ev l x = some (.int .i64 a)) (hy : ev l y = some (.int .i64 b)) (h : -9223372036854775808 ≤ a + b ∧ a + b ≤ 9223372036854775807)
    (k : WQ P N ds ops w K os ((d, .int .i64 (a + b)) :: l)) : WQ P N ds ops w K (⟨some d, .binOp .add t x y t', ty, pos, af, g⟩ :: os) l :=
  wq_value rfl hw hN (fun w' hkq c hc => by simp [execOp, hc.ev hx, hc.ev hy, eqGuard, binOp, Op.intArith, IntWalk.i64_in _ h]) k
theorem q_sub {a b : Int} (hw : want ops l ⟨some d, .binOp .sub t x y t', ty, pos, af, g⟩ = some true) (hN : Nat.blt d N = true)
    (hx : ev l x = some (.int .i64 a)) (hy : ev l y = some (.int .i64 b)) (h : -9223372036854775808 ≤ a - b ∧ a - b ≤ 9223372036854775807)
    (k : WQ P N ds ops w K os ((d, .int .i64 (a - b)) :: l)) : WQ P N ds ops w K (⟨some d, .binOp .sub t x y t', ty, pos, af, g⟩ :: os) l :=
  wq_value rfl hw hN (fun w' hkq c hc => by simp [execOp, hc.ev hx, hc.ev hy, eqGuard, binOp, Op.intArith, IntWalk.i64_in _ h]) k
theorem q_not {b : Bool} (hw : want ops l ⟨some d, .unOp .not t x, ty, pos, af, g⟩ = some true) (hN : Nat.blt d N = true)
    (hx : ev l x = some (.bool b)) (k : WQ P N ds ops w K os ((d, .bool (!b)) :: l)) : WQ P N ds ops w K (⟨some d, .unOp .not t x, ty, pos, af, g⟩ :: os) l :=
  wq_value rfl hw hN (fun w' hkq c hc => by simp [execOp, hc.ev hx, Op.unary]) k
theorem q_extract {n : Nat} {vs : List Value} {v : Value} (hw : want ops l ⟨some d, .extract x n, ty, pos, af, g⟩ = some true) (hN : Nat.blt d N = true)
    (hx : ev l x = some (.tuple vs.toArray)) (hv : vs[n]? = some v) (k : WQ P N ds ops w K os ((d, v) :: l)) : WQ P N ds ops w K (⟨some d, .extract x n, ty, pos, af, g⟩ :: os) l :=
  wq_value rfl hw hN (fun w' hkq c hc => by simp [execOp, hc.ev hx, Instr.extract, hv]) k
theorem q_makeFunc {f : FuncId} {xs : List Operand} {vs : List Value} (hw : want ops l ⟨some d, .makeFunc (.func f) #[] xs.toArray, ty, pos, af, g⟩ = some true) (hN : Nat.blt d N = true)
    (hx : evs l xs = some vs) (k : WQ P N ds ops w K os ((d, .func (.func f) #[] vs.toArray) :: l)) :
    WQ P N ds ops w K (⟨some d, .makeFunc (.func f) #[] xs.toArray, ty, pos, af, g⟩ :: os) l :=
  wq_value rfl hw hN (fun w' hkq a ha => by
    have := ha.evs hx
    simp [execOp, Instr.makeFunc, this]) k
theorem q_load1 [TyOne P t] {b off : Nat} {c : Array Value} {e : TypeId} {fr : Nat × Nat} {v : Value} (hw : want ops l ⟨some d, .load t x, ty, pos, af, g⟩ = some true) (hN : Nat.blt d N = true)
    (hx : ev l x = some (.pointer (some ⟨b, off, none⟩))) (hb : w.heap[b]? = some (.cells c e fr)) (hc : c[off]? = some v)
    (k : WQ P N ds ops w K os ((d, v) :: l)) : WQ P N ds ops w K (⟨some d, .load t x, ty, pos, af, g⟩ :: os) l :=
  wq_value rfl hw hN (fun w' hkq a ha => by
    obtain ⟨dd, h1, h2⟩ := TyOne.out (P := P) (t := t)
    have h4 := cell_of (hkq.get0 hb) hc
    simp [execOp, Instr.loadAt, Instr.sureAddr, loadVar, run_isAgg h1, h2, ha.ev hx, load, Sem.run, h4]) k
theorem q_fieldAddr {i off : Nat} [Fld P t i off] {b o' : Nat} (hw : want ops l ⟨some d, .fieldAddr t x i, ty, pos, af, g⟩ = some true) (hN : Nat.blt d N = true)
    (hx : ev l x = some (.pointer (some ⟨b, o', none⟩))) (k : WQ P N ds ops w K os ((d, .pointer (some ⟨b, o' + off, none⟩)) :: l)) :
    WQ P N ds ops w K (⟨some d, .fieldAddr t x i, ty, pos, af, g⟩ :: os) l :=
  wq_value rfl hw hN (fun w' hkq a ha => by
    obtain ⟨fs, f, inf, h1, h2, h3, h4, h5⟩ := Fld.out (P := P) (t := t) (i := i)
    have h6 := run_underlying (P := P) (w := w') h1
    simp [execOp, Instr.fieldAt, Instr.sureAddr, ha.ev hx, h6, h2, fieldPlace, sizeOf, typeInfo, h4, h5, h3, Addr.add_lit]) k
theorem q_indexAddr {e : TypeId} {sz by_ : Nat} [TySlice P t e] [Elem P e sz by_] {b o' n cp : Nat} {i : Int} (hw : want ops l ⟨some d, .indexAddr t x y, ty, pos, af, g⟩ = some true) (hN : Nat.blt d N = true)
    (hx : ev l x = some (.slice (some ⟨b, o', none⟩) n cp)) (hy : ev l y = some (.int .i64 i)) (h0 : 0 ≤ i) (h1 : i < n)
    (k : WQ P N ds ops w K os ((d, .pointer (some ⟨b, o' + i.toNat * sz, none⟩)) :: l)) :
    WQ P N ds ops w K (⟨some d, .indexAddr t x y, ty, pos, af, g⟩ :: os) l :=
  wq_value rfl hw hN (fun w' hkq a ha => by
    obtain ⟨inf, z, hi, _, hs, _, _, _⟩ := Elem.out (P := P) (e := e)
    have h6 := run_underlying (P := P) (w := w') (TySlice.out (P := P) (t := t))
    simp [execOp, Instr.indexAt, asIntOf, ha.ev hx, ha.ev hy, h6, h0, h1, sizeOf, typeInfo, hi, hs, Addr.add_lit]) k
theorem q_loadN {n : Nat} [TyAgg P t n] {b off : Nat} {c : Array Value} {e : TypeId} {fr : Nat × Nat} {vs : List Value} (hw : want ops l ⟨some d, .load t x, ty, pos, af, g⟩ = some true) (hN : Nat.blt d N = true)
    (hx : ev l x = some (.pointer (some ⟨b, off, none⟩))) (hb : w.heap[b]? = some (.cells c e fr)) (hl : vs.length = n) (hc : ∀ j v, vs[j]? = some v → c[off + j]? = some v)
    (k : WQ P N ds ops w K os ((d, .agg vs.toArray) :: l)) : WQ P N ds ops w K (⟨some d, .load t x, ty, pos, af, g⟩ :: os) l :=
  wq_value rfl hw hN (fun w' hkq a ha => by
    obtain ⟨dd, i, h1, h2, h3, h4⟩ := TyAgg.out (P := P) (t := t)
    have h5 := run_loadCells_list (P := P) w' ⟨b, off, none⟩ vs (fun j v hv => by rw [Addr.add_lit]; exact cell_of (hkq.get0 hb) (hc j v hv))
    rw [hl] at h5
    simp [execOp, Instr.loadAt, Instr.sureAddr, loadVar, run_isAgg h1, h2, ha.ev hx, sizeOf, typeInfo, h3, h4, h5]) k
theorem q_struct {places : List (Nat × Nat)} {zero : List Value} [StructT P t places zero] {ps : List (Nat × Operand)} {vs : List (Nat × Value)} {r : List Value}
    (hw : want ops l ⟨some d, .build t ps.toArray, ty, pos, af, g⟩ = some true) (hN : Nat.blt d N = true)
    (hx : evp l ps = some vs) (hr : bld places zero vs = some r) (k : WQ P N ds ops w K os ((d, .agg r.toArray) :: l)) :
    WQ P N ds ops w K (⟨some d, .build t ps.toArray, ty, pos, af, g⟩ :: os) l :=
  wq_value rfl hw hN (fun w' hkq a ha => by
    have e1 := ha.evp hx
    obtain ⟨fs, h1, h2, h3⟩ := StructT.out (P := P) (t := t)
    have h4 := run_underlying (P := P) (w := w') h1
    have h5 := run_places (P := P) w' _ _ h2
    have h6 := fill_bld places vs zero r hr
    simp only [bind_pure_comp] at h5
    simp only [List.getElem?_toArray] at h6
    cases hi : P.info? t with
    | none => simp [hi] at h3
    | some i =>
      simp only [hi, Option.bind_some] at h3
      simp [execOp, Instr.build, e1, zeroValue, typeInfo, hi, h3, h4, Array.mapM_eq_mapM_toList, h5, Value.cells, h6]) k
theorem q_build {ps : List (Nat × Operand)} {vs : List (Nat × Value)} {v : Value} (hw : want ops l ⟨some d, .build t ps.toArray, ty, pos, af, g⟩ = some true) (hN : Nat.blt d N = true)
    (hx : evp l ps = some vs) (hr : ∀ w, (Instr.build t vs.toArray).run P w = .ok v w) (k : WQ P N ds ops w K os ((d, v) :: l)) :
    WQ P N ds ops w K (⟨some d, .build t ps.toArray, ty, pos, af, g⟩ :: os) l :=
  wq_value rfl hw hN (fun w' hkq a ha => by
    have := ha.evp hx
    simp [execOp, this, hr]) k
theorem q_eql_bool [TyBool P t] {a b : Bool} (hw : want ops l ⟨some d, .binOp .eql t x y t', ty, pos, af, g⟩ = some true) (hN : Nat.blt d N = true)
    (hx : ev l x = some (.bool a)) (hy : ev l y = some (.bool b)) (k : WQ P N ds ops w K os ((d, .bool (decide (a = b))) :: l)) :
    WQ P N ds ops w K (⟨some d, .binOp .eql t x y t', ty, pos, af, g⟩ :: os) l :=
  wq_value rfl hw hN (fun w' hkq c hc => by
    have h1 := run_equalIn_bool' (P := P) w' 9999 t a b (TyBool.out (P := P) (t := t))
    simp only [execOp, hc.ev hx, hc.ev hy, eqGuard, binOp, Op.equal, Op.maxDepth]
    simp [h1, beq_dec]) k
theorem q_neq_bool [TyBool P t] {a b : Bool} (hw : want ops l ⟨some d, .binOp .neq t x y t', ty, pos, af, g⟩ = some true) (hN : Nat.blt d N = true)
    (hx : ev l x = some (.bool a)) (hy : ev l y = some (.bool b)) (k : WQ P N ds ops w K os ((d, .bool (decide (a ≠ b))) :: l)) :
    WQ P N ds ops w K (⟨some d, .binOp .neq t x y t', ty, pos, af, g⟩ :: os) l :=
  wq_value rfl hw hN (fun w' hkq c hc => by
    have h1 := run_equalIn_bool' (P := P) w' 9999 t a b (TyBool.out (P := P) (t := t))
    simp only [execOp, hc.ev hx, hc.ev hy, eqGuard, binOp, Op.equal, Op.maxDepth]
    simp [h1, beq_dec]) k
theorem q_eql_flat {ks : List FK} [FlatT P t ks] {xs ys : List Value} (hw : want ops l ⟨some d, .binOp .eql t x y t', ty, pos, af, g⟩ = some true) (hN : Nat.blt d N = true)
    (hx : ev l x = some (.agg xs.toArray)) (hy : ev l y = some (.agg ys.toArray)) (h1 : fitCells ks xs = true) (h2 : fitCells ks ys = true)
    (k : WQ P N ds ops w K os ((d, .bool (eqCells xs ys)) :: l)) : WQ P N ds ops w K (⟨some d, .binOp .eql t x y t', ty, pos, af, g⟩ :: os) l :=
  wq_value rfl hw hN (fun w' hkq c hc => by
    obtain ⟨fs, a1, a2, a3, a4⟩ := FlatT.out (P := P) (t := t)
    have hf : P.fieldsOf t = fs := by simp [Program.fieldsOf, a1]
    have r1 := run_eqGuard_agg (P := P) w' .eql t x y xs.toArray ys.toArray a4
    have r2 := run_equalIn_agg (P := P) w' 9999 t xs.toArray ys.toArray (by rw [hf]; exact a1) a3
    rw [hf, run_flat xs ys _ _ 0 _ a2 h1 h2] at r2
    simp only [execOp, hc.ev hx, hc.ev hy, Sem.run_bind, r1, Result.andThen_ok, run_eql_struct, r2, Sem.run_pure, List.drop_zero]) k
theorem q_neq_flat {ks : List FK} [FlatT P t ks] {xs ys : List Value} (hw : want ops l ⟨some d, .binOp .neq t x y t', ty, pos, af, g⟩ = some true) (hN : Nat.blt d N = true)
    (hx : ev l x = some (.agg xs.toArray)) (hy : ev l y = some (.agg ys.toArray)) (h1 : fitCells ks xs = true) (h2 : fitCells ks ys = true)
    (k : WQ P N ds ops w K os ((d, .bool (!(eqCells xs ys))) :: l)) : WQ P N ds ops w K (⟨some d, .binOp .neq t x y t', ty, pos, af, g⟩ :: os) l :=
  wq_value rfl hw hN (fun w' hkq c hc => by
    obtain ⟨fs, a1, a2, a3, a4⟩ := FlatT.out (P := P) (t := t)
    have hf : P.fieldsOf t = fs := by simp [Program.fieldsOf, a1]
    have r1 := run_eqGuard_agg (P := P) w' .neq t x y xs.toArray ys.toArray a4
    have r2 := run_equalIn_agg (P := P) w' 9999 t xs.toArray ys.toArray (by rw [hf]; exact a1) a3
    rw [hf, run_flat xs ys _ _ 0 _ a2 h1 h2] at r2
    simp only [execOp, hc.ev hx, hc.ev hy, Sem.run_bind, r1, Result.andThen_ok, run_neq_struct, r2, Sem.run_pure, List.drop_zero]) k
theorem q_mul {a b : Int} (hw : want ops l ⟨some d, .binOp .mul t x y t', ty, pos, af, g⟩ = some true) (hN : Nat.blt d N = true)
    (hx : ev l x = some (.int .i64 a)) (hy : ev l y = some (.int .i64 b)) (h : -9223372036854775808 ≤ a * b ∧ a * b ≤ 9223372036854775807)
    (k : WQ P N ds ops w K os ((d, .int .i64 (a * b)) :: l)) : WQ P N ds ops w K (⟨some d, .binOp .mul t x y t', ty, pos, af, g⟩ :: os) l :=
  wq_value rfl hw hN (fun w' hkq c hc => by simp [execOp, hc.ev hx, hc.ev hy, eqGuard, binOp, Op.intArith, IntWalk.i64_in _ h]) k
theorem q_quo {a b : Int} (hw : want ops l ⟨some d, .binOp .quo t x y t', ty, pos, af, g⟩ = some true) (hN : Nat.blt d N = true)
    (hx : ev l x = some (.int .i64 a)) (hy : ev l y = some (.int .i64 b)) (h : 0 ≤ a ∧ a ≤ 9223372036854775807 ∧ 0 < b)
    (k : WQ P N ds ops w K os ((d, .int .i64 (a / b)) :: l)) : WQ P N ds ops w K (⟨some d, .binOp .quo t x y t', ty, pos, af, g⟩ :: os) l :=
  wq_value rfl hw hN (fun w' hkq c hc => by
    have h1 : a.tdiv b = a / b := Int.tdiv_eq_ediv_of_nonneg h.1
    have h2 : 0 ≤ a / b := Int.ediv_nonneg h.1 (by omega)
    have h3 : a / b ≤ a := Int.ediv_le_self _ h.1
    simp [execOp, hc.ev hx, hc.ev hy, eqGuard, binOp, Op.intDiv, show b ≠ 0 by omega, h1, IntWalk.i64_in (a / b) (by omega)]) k
theorem q_rem {a b : Int} (hw : want ops l ⟨some d, .binOp .rem t x y t', ty, pos, af, g⟩ = some true) (hN : Nat.blt d N = true)
    (hx : ev l x = some (.int .i64 a)) (hy : ev l y = some (.int .i64 b)) (h : 0 ≤ a ∧ 0 < b)
    (k : WQ P N ds ops w K os ((d, .int .i64 (a % b)) :: l)) : WQ P N ds ops w K (⟨some d, .binOp .rem t x y t', ty, pos, af, g⟩ :: os) l :=
  wq_value rfl hw hN (fun w' hkq c hc => by
    have h1 : a.tmod b = a % b := Int.tmod_eq_emod_of_nonneg h.1
    simp [execOp, hc.ev hx, hc.ev hy, eqGuard, binOp, Op.intDiv, show b ≠ 0 by omega, h1]) k
theorem q_add_u8 {a b : Int} (hw : want ops l ⟨some d, .binOp .add t x y t', ty, pos, af, g⟩ = some true) (hN : Nat.blt d N = true)
    (hx : ev l x = some (.int .u8 a)) (hy : ev l y = some (.int .u8 b)) (h : 0 ≤ a + b ∧ a + b ≤ 255)
    (k : WQ P N ds ops w K os ((d, .int .u8 (a + b)) :: l)) : WQ P N ds ops w K (⟨some d, .binOp .add t x y t', ty, pos, af, g⟩ :: os) l :=
  wq_value rfl hw hN (fun w' hkq c hc => by simp [execOp, hc.ev hx, hc.ev hy, eqGuard, binOp, Op.intArith, IntWalk.u8_in _ h]) k
theorem q_sub_u8 {a b : Int} (hw : want ops l ⟨some d, .binOp .sub t x y t', ty, pos, af, g⟩ = some true) (hN : Nat.blt d N = true)
    (hx : ev l x = some (.int .u8 a)) (hy : ev l y = some (.int .u8 b)) (h : 0 ≤ a - b ∧ a - b ≤ 255)
    (k : WQ P N ds ops w K os ((d, .int .u8 (a - b)) :: l)) : WQ P N ds ops w K (⟨some d, .binOp .sub t x y t', ty, pos, af, g⟩ :: os) l :=
  wq_value rfl hw hN (fun w' hkq c hc => by simp [execOp, hc.ev hx, hc.ev hy, eqGuard, binOp, Op.intArith, IntWalk.u8_in _ h]) k
theorem q_and {a b : Int} (hw : want ops l ⟨some d, .binOp .and t x y t', ty, pos, af, g⟩ = some true) (hN : Nat.blt d N = true)
    (hx : ev l x = some (.int .i64 a)) (hy : ev l y = some (.int .i64 b)) (h : 0 ≤ a ∧ a ≤ 9223372036854775807) (h' : 0 ≤ b ∧ b ≤ 9223372036854775807)
    (k : WQ P N ds ops w K os ((d, .int .i64 ((a.toNat &&& b.toNat : Nat) : Int)) :: l)) : WQ P N ds ops w K (⟨some d, .binOp .and t x y t', ty, pos, af, g⟩ :: os) l :=
  wq_value rfl hw hN (fun w' hkq c hc => by
    have h1 : a.toNat &&& b.toNat ≤ a.toNat := Nat.and_le_left
    have h2 : (BitVec.ofInt IntKind.i64.bits a &&& BitVec.ofInt IntKind.i64.bits b).toNat = a.toNat &&& b.toNat := by
      rw [BitVec.toNat_and]; exact congr (congrArg _ (bits_nat h)) (bits_nat h')
    simp only [execOp, hc.ev hx, hc.ev hy, eqGuard, binOp, Op.intBits, h2, IntWalk.i64_in ((a.toNat &&& b.toNat : Nat) : Int) (by omega)]
    simp) k
theorem q_or {a b : Int} (hw : want ops l ⟨some d, .binOp .or t x y t', ty, pos, af, g⟩ = some true) (hN : Nat.blt d N = true)
    (hx : ev l x = some (.int .i64 a)) (hy : ev l y = some (.int .i64 b)) (h : 0 ≤ a ∧ a < 4294967296) (h' : 0 ≤ b ∧ b < 4294967296)
    (k : WQ P N ds ops w K os ((d, .int .i64 ((a.toNat ||| b.toNat : Nat) : Int)) :: l)) : WQ P N ds ops w K (⟨some d, .binOp .or t x y t', ty, pos, af, g⟩ :: os) l :=
  wq_value rfl hw hN (fun w' hkq c hc => by
    have h1 : a.toNat ||| b.toNat < 2 ^ 32 := Nat.or_lt_two_pow (by omega) (by omega)
    have h2 : (BitVec.ofInt IntKind.i64.bits a ||| BitVec.ofInt IntKind.i64.bits b).toNat = a.toNat ||| b.toNat := by
      rw [BitVec.toNat_or]; exact congr (congrArg _ (bits_nat (by omega))) (bits_nat (by omega))
    simp only [execOp, hc.ev hx, hc.ev hy, eqGuard, binOp, Op.intBits, h2, IntWalk.i64_in ((a.toNat ||| b.toNat : Nat) : Int) (by omega)]
    simp) k
theorem q_andNot {a b : Int} (hw : want ops l ⟨some d, .binOp .andNot t x y t', ty, pos, af, g⟩ = some true) (hN : Nat.blt d N = true)
    (hx : ev l x = some (.int .i64 a)) (hy : ev l y = some (.int .i64 b)) (h : 0 ≤ a ∧ a ≤ 9223372036854775807) (h' : 0 ≤ b ∧ b ≤ 9223372036854775807)
    (k : WQ P N ds ops w K os ((d, .int .i64 ((a.toNat &&& (2 ^ 64 - 1 - b.toNat) : Nat) : Int)) :: l)) : WQ P N ds ops w K (⟨some d, .binOp .andNot t x y t', ty, pos, af, g⟩ :: os) l :=
  wq_value rfl hw hN (fun w' hkq c hc => by
    have h1 : a.toNat &&& (2 ^ 64 - 1 - b.toNat) ≤ a.toNat := Nat.and_le_left
    have h2 : (BitVec.ofInt IntKind.i64.bits a &&& ~~~ BitVec.ofInt IntKind.i64.bits b).toNat = a.toNat &&& (2 ^ 64 - 1 - b.toNat) := by
      rw [BitVec.toNat_and, BitVec.toNat_not]
      exact congr (congrArg _ (bits_nat h)) (congrArg (2 ^ 64 - 1 - ·) (bits_nat h'))
    simp only [execOp, hc.ev hx, hc.ev hy, eqGuard, binOp, Op.intBits, h2, IntWalk.i64_in ((a.toNat &&& (2 ^ 64 - 1 - b.toNat) : Nat) : Int) (by omega)]
    simp) k
theorem q_shl {a b : Int} {yk : IntKind} (hw : want ops l ⟨some d, .binOp .shl t x y t', ty, pos, af, g⟩ = some true) (hN : Nat.blt d N = true)
    (hx : ev l x = some (.int .i64 a)) (hy : ev l y = some (.int yk b)) (h : 0 ≤ b ∧ b ≤ 62) (h' : 0 ≤ a * 2 ^ b.toNat ∧ a * 2 ^ b.toNat ≤ 9223372036854775807)
    (k : WQ P N ds ops w K os ((d, .int .i64 (a * 2 ^ b.toNat)) :: l)) : WQ P N ds ops w K (⟨some d, .binOp .shl t x y t', ty, pos, af, g⟩ :: os) l :=
  wq_value rfl hw hN (fun w' hkq c hc => by
    have h1 : min b.toNat IntKind.i64.bits = b.toNat := by simp [IntKind.bits]; omega
    have h2 : ¬ b < 0 := by omega
    simp only [execOp, hc.ev hx, hc.ev hy, eqGuard, binOp, Op.shift, h1, if_neg h2, IntWalk.i64_in (a * 2 ^ b.toNat) (by omega)]
    simp) k
theorem q_shr {a b : Int} {yk : IntKind} (hw : want ops l ⟨some d, .binOp .shr t x y t', ty, pos, af, g⟩ = some true) (hN : Nat.blt d N = true)
    (hx : ev l x = some (.int .i64 a)) (hy : ev l y = some (.int yk b)) (h : 0 ≤ b ∧ b ≤ 62)
    (k : WQ P N ds ops w K os ((d, .int .i64 (a.fdiv (2 ^ b.toNat))) :: l)) : WQ P N ds ops w K (⟨some d, .binOp .shr t x y t', ty, pos, af, g⟩ :: os) l :=
  wq_value rfl hw hN (fun w' hkq c hc => by
    have h1 : min b.toNat IntKind.i64.bits = b.toNat := by simp [IntKind.bits]; omega
    have h2 : ¬ b < 0 := by omega
    simp only [execOp, hc.ev hx, hc.ev hy, eqGuard, binOp, Op.shift, h1, if_neg h2]
    simp) k
theorem q_convert {ik' ik2 : IntKind} [TyInt P t ik2] [TyInt P t' ik'] {a : Int} (hw : want ops l ⟨some d, .convert t t' x, ty, pos, af, g⟩ = some true) (hN : Nat.blt d N = true)
    (hx : ev l x = some (.int ik a)) (k : WQ P N ds ops w K os ((d, .int ik' (ik'.wrap a)) :: l)) :
    WQ P N ds ops w K (⟨some d, .convert t t' x, ty, pos, af, g⟩ :: os) l :=
  wq_value rfl hw hN (fun w' hkq c hc => by
    have h1 := run_underlying (P := P) (w := w') (TyInt.out (P := P) (t := t))
    have h2 := run_underlying (P := P) (w := w') (TyInt.out (P := P) (t := t'))
    simp [execOp, hc.ev hx, convert, Conv.intToInt, h1, h2]) k
theorem q_indexAddr_arr {e : TypeId} {sz by_ n : Nat} [TyArr P t n e] [Elem P e sz by_] {b o' : Nat} {i : Int} (hw : want ops l ⟨some d, .indexAddr t x y, ty, pos, af, g⟩ = some true) (hN : Nat.blt d N = true)
    (hx : ev l x = some (.pointer (some ⟨b, o', none⟩))) (hy : ev l y = some (.int .i64 i)) (h0 : 0 ≤ i) (h1 : i < n)
    (k : WQ P N ds ops w K os ((d, .pointer (some ⟨b, o' + i.toNat * sz, none⟩)) :: l)) :
    WQ P N ds ops w K (⟨some d, .indexAddr t x y, ty, pos, af, g⟩ :: os) l :=
  wq_value rfl hw hN (fun w' hkq a ha => by
    obtain ⟨inf, z, hi, _, hs, _, _, _⟩ := Elem.out (P := P) (e := e)
    have h6 := run_underlying (P := P) (w := w') (TyArr.out (P := P) (t := t))
    simp [execOp, Instr.indexAt, Instr.sureAddr, asIntOf, ha.ev hx, ha.ev hy, h6, h0, h1, sizeOf, typeInfo, hi, hs, Addr.add_lit]) k

theorem q_call {f : FuncId} [Own P f] {xs : List Operand} {tys : Array TypeId} {vs : List Value} {v : Value}
    (hw : want ops l ⟨some d, .call ⟨.value (.func f), xs.toArray, tys⟩, ty, pos, af, g⟩ = some true) (hN : Nat.blt d N = true)
    (hx : evs l xs = some vs) (hc : ∀ w', Kept [] w w' → Cal P f vs.toArray w' (fun u w'' => u = v ∧ Kept [] w' w'')) (k : WQ P N ds ops w K os ((d, v) :: l)) :
    WQ P N ds ops w K (⟨some d, .call ⟨.value (.func f), xs.toArray, tys⟩, ty, pos, af, g⟩ :: os) l :=
  wq_enter rfl hw hN (fun w' a ha => by
    have := ha.evs hx
    simp [execOp, resolve, invoke, Act.eval, Deferred.ofValue, this, run_callFunc]) hc k
theorem q_callv {c : Operand} {f : FuncId} [Own P f] {xs : List Operand} {tys : Array TypeId} {vs ca : List Value} {v : Value}
    (hw : want ops l ⟨some d, .call ⟨.value c, xs.toArray, tys⟩, ty, pos, af, g⟩ = some true) (hN : Nat.blt d N = true)
    (hf : ev l c = some (.func (.func f) #[] ca.toArray)) (hx : evs l xs = some vs) (hc : ∀ w', Kept [] w w' → Cal P f (vs ++ ca).toArray w' (fun u w'' => u = v ∧ Kept [] w' w'')) (k : WQ P N ds ops w K os ((d, v) :: l)) :
    WQ P N ds ops w K (⟨some d, .call ⟨.value c, xs.toArray, tys⟩, ty, pos, af, g⟩ :: os) l :=
  wq_enter rfl hw hN (fun w' a ha => by
    have := ha.evs hx
    simp [execOp, resolve, invoke, ha.ev hf, Deferred.ofValue, this, run_callFunc]) hc k
end
end Go.Fw
