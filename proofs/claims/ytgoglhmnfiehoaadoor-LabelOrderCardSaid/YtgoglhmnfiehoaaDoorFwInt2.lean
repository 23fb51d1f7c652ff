/- Own work: the executor's rules: integers of 64 bits without a sign; bytes as a text; an array's part. -/
import Derived.Test.YtgoglhmnfiehoaaDoorFwMem4
import Derived.Test.YtgoglhmnfiehoaaDoorFwInt
import Derived.Laws.BytesString
namespace Go.Fw
open Go
section
variable {P : Program} {N : Nat} {ds : List Deferred} {Q : Exit → Act → World → Prop} {l l' : Log} {w w' : World} {ops : Array Oper} {os : List Oper} {o : Oper}
variable {d : Nat} {ty : TypeId} {pos : String} {af : Array Edge} {g : Option (Nat × Bool)} {t t' : TypeId} {x y : Operand} {ik : IntKind}

theorem op_shr_u64 {a : Nat} {b : Int} {yk : IntKind} (hw : want ops l ⟨some d, .binOp .shr t x y t', ty, pos, af, g⟩ = some true) (hN : Nat.blt d N = true)
    (hx : ev l x = some (.int .u64 (a : Int))) (hy : ev l y = some (.int yk b)) (h : 0 ≤ b ∧ b ≤ 62)
    (k : WL P N ds ops Q os ((d, .int .u64 ((a / 2 ^ b.toNat : Nat) : Int)) :: l) w) : WL P N ds ops Q (⟨some d, .binOp .shr t x y t', ty, pos, af, g⟩ :: os) l w :=
  wl_value rfl hw hN (fun c hc => by
    have h1 : min b.toNat IntKind.u64.bits = b.toNat := by simp [IntKind.bits]; omega
    have h2 : ¬ b < 0 := by omega
    have h3 : (a : Int).fdiv (2 ^ b.toNat) = ((a / 2 ^ b.toNat : Nat) : Int) := by
      rw [Int.fdiv_eq_ediv_of_nonneg _ (Int.le_of_lt (Int.pow_pos (by decide))), Int.natCast_ediv]; rfl
    simp only [execOp, hc.ev hx, hc.ev hy, eqGuard, binOp, Op.shift, h1, if_neg h2, h3]
    simp) k
theorem op_and_u64 {a b : Nat} (hw : want ops l ⟨some d, .binOp .and t x y t', ty, pos, af, g⟩ = some true) (hN : Nat.blt d N = true)
    (hx : ev l x = some (.int .u64 (a : Int))) (hy : ev l y = some (.int .u64 (b : Int))) (h : a < 18446744073709551616) (h' : b < 18446744073709551616)
    (k : WL P N ds ops Q os ((d, .int .u64 ((a &&& b : Nat) : Int)) :: l) w) : WL P N ds ops Q (⟨some d, .binOp .and t x y t', ty, pos, af, g⟩ :: os) l w :=
  wl_value rfl hw hN (fun c hc => by
    have h1 : a &&& b ≤ a := Nat.and_le_left
    have e : ∀ n : Nat, n < 18446744073709551616 → (BitVec.ofInt 64 (n : Int)).toNat = n := fun n hn => by
      rw [BitVec.toNat_ofInt, Int.emod_eq_of_lt (by omega) (by have : ((2 ^ 64 : Nat) : Int) = 18446744073709551616 := by decide
                                                               omega)]
      rfl
    have h2 : (BitVec.ofInt IntKind.u64.bits (a : Int) &&& BitVec.ofInt IntKind.u64.bits (b : Int)).toNat = a &&& b := by
      rw [BitVec.toNat_and]; exact congr (congrArg _ (e a h)) (e b h')
    simp only [execOp, hc.ev hx, hc.ev hy, eqGuard, binOp, Op.intBits, h2, IntWalk.u64_in ((a &&& b : Nat) : Int) (by omega)]
    simp) k
theorem op_add_u64 {a b : Nat} (hw : want ops l ⟨some d, .binOp .add t x y t', ty, pos, af, g⟩ = some true) (hN : Nat.blt d N = true)
    (hx : ev l x = some (.int .u64 (a : Int))) (hy : ev l y = some (.int .u64 (b : Int))) (h : a + b < 18446744073709551616)
    (k : WL P N ds ops Q os ((d, .int .u64 ((a + b : Nat) : Int)) :: l) w) : WL P N ds ops Q (⟨some d, .binOp .add t x y t', ty, pos, af, g⟩ :: os) l w :=
  wl_value rfl hw hN (fun c hc => by
    have := IntWalk.u64_in ((a : Int) + b) (by omega)
    simp [execOp, hc.ev hx, hc.ev hy, eqGuard, binOp, Op.intArith, this]) k

theorem op_shr_nat {a b : Nat} {yk : IntKind} (hw : want ops l ⟨some d, .binOp .shr t x y t', ty, pos, af, g⟩ = some true) (hN : Nat.blt d N = true)
    (hx : ev l x = some (.int .i64 (a : Int))) (hy : ev l y = some (.int yk (b : Int))) (h : b ≤ 62)
    (k : WL P N ds ops Q os ((d, .int .i64 ((a / 2 ^ b : Nat) : Int)) :: l) w) : WL P N ds ops Q (⟨some d, .binOp .shr t x y t', ty, pos, af, g⟩ :: os) l w :=
  op_shr hw hN hx hy (by omega) (by
    have h3 : (a : Int).fdiv (2 ^ (b : Int).toNat) = ((a / 2 ^ b : Nat) : Int) := by
      rw [Int.toNat_natCast, Int.fdiv_eq_ediv_of_nonneg _ (Int.le_of_lt (Int.pow_pos (by decide))), Int.natCast_ediv]; rfl
    rw [h3]; exact k)
theorem op_shl_nat {a b : Nat} {yk : IntKind} (hw : want ops l ⟨some d, .binOp .shl t x y t', ty, pos, af, g⟩ = some true) (hN : Nat.blt d N = true)
    (hx : ev l x = some (.int .i64 (a : Int))) (hy : ev l y = some (.int yk (b : Int))) (h : b ≤ 62) (h' : a * 2 ^ b ≤ 9223372036854775807)
    (k : WL P N ds ops Q os ((d, .int .i64 ((a * 2 ^ b : Nat) : Int)) :: l) w) : WL P N ds ops Q (⟨some d, .binOp .shl t x y t', ty, pos, af, g⟩ :: os) l w := by
  have h3 : (a : Int) * (2 ^ (b : Int).toNat) = ((a * 2 ^ b : Nat) : Int) := by
    rw [Int.toNat_natCast, Int.natCast_mul, Int.natCast_pow]; rfl
  exact op_shl hw hN hx hy (by omega) (by rw [h3]; omega) (by rw [h3]; exact k)
theorem Kept.of_below {w w' : World} (h : RowKit.Below w.heap.size w w') : Kept [] w w' := ⟨h.os, h.tape, h.output, h.size, fun k hk _ => h.block k hk⟩
theorem cal_of {f : FuncId} {args : Array Value} {v : Value} {R : World → Prop} (h : Calls P f args w (fun e w' => e = .returned v ∧ R w')) : Cal P f args w (fun u w' => u = v ∧ R w') :=
  ⟨h.mono (fun e w' ⟨he, hr⟩ => by subst he; exact ⟨rfl, hr⟩)⟩

/-- 'string(b)' of bytes. -/
theorem op_bytes_str {e : TypeId} [TySlice P t e] [TyInt P e .u8] [TyStr P t'] {b off n cp : Nat} {c : Array Value} {e' : TypeId} {fr : Nat × Nat} {s : List UInt8}
    (hw : want ops l ⟨some d, .convert t t' x, ty, pos, af, g⟩ = some true) (hN : Nat.blt d N = true)
    (hx : ev l x = some (.slice (some ⟨b, off, none⟩) n cp)) (hb : w.heap[b]? = some (.cells c e' fr)) (hl : s.length = n)
    (hc : ∀ j, j < n → c[off + j]? = some (.int .u8 ((s.getD j 0).toNat : Int)))
    (k : WL P N ds ops Q os ((d, str s) :: l) w) : WL P N ds ops Q (⟨some d, .convert t t' x, ty, pos, af, g⟩ :: os) l w :=
  wl_value rfl hw hN (fun a ha => by
    have h1 := run_underlying (P := P) (w := w) (TySlice.out (P := P) (t := t))
    have h2 := run_underlying (P := P) (w := w) (TyStr.out (P := P) (t := t'))
    have h3 := run_underlying (P := P) (w := w) (TyInt.out (P := P) (t := e))
    have h4 := run_loadCells_list (P := P) w ⟨b, off, none⟩ (s.map (fun c => Value.int .u8 (c.toNat : Int))) (fun j z hj => by
      rw [List.getElem?_map] at hj
      cases hs : s[j]? with
      | none => rw [hs] at hj; cases hj
      | some u =>
        rw [hs] at hj
        simp only [Option.map_some, Option.some.injEq] at hj
        have hlt := (List.getElem?_eq_some_iff.1 hs).1
        rw [Addr.add_lit]
        refine cell_of hb ((hc j (by omega)).trans ?_)
        rw [List.getD_eq_getElem?_getD, hs]
        simp [hj])
    have h5 := run_bytesToString (P := P) w ⟨b, off, none⟩ n cp (s.map (fun c => (c.toNat : Int))) (by
      rw [← hl]
      have e1 : (s.map (fun c => (c.toNat : Int))).map (Value.int .u8) = s.map (fun c => Value.int .u8 (c.toNat : Int)) := by simp [Function.comp_def]
      rw [e1, ← h4]; simp)
    have h6 : ∀ (u : List UInt8) (r : List UInt8), (u.map (fun c => (c.toNat : Int))).foldl (fun (r : ByteArray) n => r.push (UInt8.ofNat n.toNat)) ⟨r.toArray⟩ = ⟨(r ++ u).toArray⟩ := by
      intro u
      induction u with
      | nil => intro r; simp
      | cons a u ih =>
        intro r
        have := ih (r ++ [a])
        simp only [List.map_cons, List.foldl_cons, List.append_assoc, List.singleton_append] at this ⊢
        rw [← this]
        congr 1
        apply ByteArray.ext
        simp [ByteArray.push]
    have h7 := h6 s []
    simp only [List.nil_append] at h7
    have h8 : (ByteArray.empty) = ⟨([] : List UInt8).toArray⟩ := rfl
    rw [h8, h7] at h5
    simp only [execOp, ha.ev hx, run_convert_bytes_string (P := P) w t t' e _ _ _ (TySlice.out (P := P) (t := t)) (TyInt.out (P := P) (t := e)) (TyStr.out (P := P) (t := t')), Sem.run_bind, h5]
    simp) k
/-- an array's part. -/
theorem op_index_arr {e : TypeId} {n by_ : Nat} [TyArr P t n e] [Elem P e 1 by_] [TyOne P e] {vs : List Value} {v : Value} {i : Int} (hw : want ops l ⟨some d, .index t x y, ty, pos, af, g⟩ = some true) (hN : Nat.blt d N = true)
    (hx : ev l x = some (.agg vs.toArray)) (hy : ev l y = some (.int .i64 i)) (h0 : 0 ≤ i) (h1 : i < n) (hv : vs[i.toNat]? = some v)
    (k : WL P N ds ops Q os ((d, v) :: l) w) : WL P N ds ops Q (⟨some d, .index t x y, ty, pos, af, g⟩ :: os) l w :=
  wl_value rfl hw hN (fun a ha => by
    obtain ⟨inf, z, hi, _, hs, _, _, _⟩ := Elem.out (P := P) (e := e)
    obtain ⟨dd, h2, h3⟩ := TyOne.out (P := P) (t := e)
    have h6 := run_underlying (P := P) (w := w) (TyArr.out (P := P) (t := t))
    have h7 := run_part1 (P := P) (w := w) h2 h3 (cs := vs.toArray) (i := i.toNat) (v := v) (by simpa using hv)
    simp [execOp, Instr.index, asIntOf, ha.ev hx, ha.ev hy, h6, h0, h1, sizeOf, typeInfo, hi, hs, h7]) k
end
end Go.Fw
