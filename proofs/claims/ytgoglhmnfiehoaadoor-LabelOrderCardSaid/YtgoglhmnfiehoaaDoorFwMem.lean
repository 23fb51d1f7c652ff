/- Own work: the executor's rules for strings, integers, memory and calls. -/
import Derived.Test.YtgoglhmnfiehoaaDoorFwOps
import Derived.Lib.Strings
namespace Go.Fw
open Go

/-! what a world keeps -/
structure Kept (X : List Nat) (w w' : World) : Prop where
  os : w'.os = w.os
  tape : w'.tape = w.tape
  output : w'.output = w.output
  size : w.heap.size ≤ w'.heap.size
  blk : ∀ k, k < w.heap.size → k ∉ X → w'.heap[k]? = w.heap[k]?

theorem lt_of_heap {w : World} {b : Nat} {o : Obj} (h : w.heap[b]? = some o) : b < w.heap.size := (Array.getElem?_eq_some_iff.1 h).1

theorem Kept.refl (X : List Nat) (w : World) : Kept X w w := ⟨rfl, rfl, rfl, Nat.le_refl _, fun _ _ _ => rfl⟩
theorem Kept.trans {X : List Nat} {a b c : World} (h : Kept X a b) (k : Kept X b c) : Kept X a c :=
  ⟨k.os.trans h.os, k.tape.trans h.tape, k.output.trans h.output, Nat.le_trans h.size k.size,
    fun i hi hx => (k.blk i (Nat.lt_of_lt_of_le hi h.size) hx).trans (h.blk i hi hx)⟩
theorem Kept.mono {X Y : List Nat} {a b : World} (h : Kept X a b) (hs : ∀ x, x ∈ X → x ∈ Y ∨ a.heap.size ≤ x) : Kept Y a b :=
  ⟨h.os, h.tape, h.output, h.size, fun i hi hy => h.blk i hi (fun hx => (hs i hx).elim hy (fun h2 => absurd hi (Nat.not_lt.2 h2)))⟩
/-- what is written behind the beginning alone does not count. -/
theorem Kept.step {X Y : List Nat} {a b c : World} (h : Kept X a b) (k : Kept Y b c) (hs : ∀ x, x ∈ Y → x ∈ X ∨ a.heap.size ≤ x) : Kept X a c :=
  ⟨k.os.trans h.os, k.tape.trans h.tape, k.output.trans h.output, Nat.le_trans h.size k.size,
    fun i hi hx => (k.blk i (Nat.lt_of_lt_of_le hi h.size) (fun hy => (hs i hy).elim hx (fun h2 => absurd hi (Nat.not_lt.2 h2)))).trans (h.blk i hi hx)⟩
theorem Kept.step0 {X : List Nat} {a b c : World} (h : Kept X a b) (k : Kept [] b c) : Kept X a c := h.step k (fun _ hx => by cases hx)
theorem Kept.get {X : List Nat} {w w' : World} (h : Kept X w w') {b : Nat} {o : Obj} (hb : w.heap[b]? = some o) (hx : b ∉ X) : w'.heap[b]? = some o :=
  (h.blk b (lt_of_heap hb) hx).trans hb
theorem Kept.get0 {w w' : World} (h : Kept [] w w') {b : Nat} {o : Obj} (hb : w.heap[b]? = some o) : w'.heap[b]? = some o := h.get hb (by simp)
theorem Kept.alloc (w : World) (o : Obj) : Kept [] w (w.alloc o) := ⟨rfl, rfl, rfl, by simp, fun k hk _ => heap_alloc_old w o hk⟩
theorem Kept.drew (w : World) : Kept [] w w.drew := ⟨rfl, rfl, rfl, Nat.le_refl _, fun _ _ _ => rfl⟩
theorem Kept.of_grown {w w' : World} {r : Option Nat} (h : w.grownBy w' r) : Kept r.toList w w' :=
  ⟨h.os, h.tape, h.output, h.size, fun k hk hx => h.block k hk (fun e => hx (by rw [← e]; simp))⟩
theorem Kept.own {w w' : World} {X : List Nat} (h : Kept X w w') {base e size n : Nat} {v : Value} {xs : List Value} (ho : w.ownsRow base e size v n xs)
    (hx : ∀ g, v.ownBlock = some g → g ∉ X) : w'.ownsRow base e size v n xs := by
  refine ⟨ho.1, ?_⟩
  rcases ho.2 with hn | ⟨g, cap, cur, rfl, hb, hg, rest⟩
  · exact .inl hn
  · exact .inr ⟨g, cap, cur, rfl, hb, h.get hg (hx g rfl), rest⟩
theorem ownsRow_base {w : World} {base base' e size n : Nat} {v : Value} {xs : List Value} (ho : w.ownsRow base e size v n xs) (h : base' ≤ base) : w.ownsRow base' e size v n xs := by
  refine ⟨ho.1, ?_⟩
  rcases ho.2 with hn | ⟨g, cap, cur, rfl, hb, hg, rest⟩
  · exact .inl hn
  · exact .inr ⟨g, cap, cur, rfl, by omega, hg, rest⟩

/-! what does not turn any more -/
abbrev Imm := Nat → Option Obj
def Inv (I : Imm) (w : World) : Prop := ∀ b o, I b = some o → w.heap[b]? = some o
def Le (I I' : Imm) : Prop := ∀ b o, I b = some o → I' b = some o
def Imm.add (I : Imm) (b : Nat) (o : Obj) : Imm := fun k => if k = b then some o else I k
theorem Le.refl (I : Imm) : Le I I := fun _ _ h => h
theorem Le.trans {a b c : Imm} (h : Le a b) (k : Le b c) : Le a c := fun _ _ x => k _ _ (h _ _ x)
theorem Inv.fresh {I : Imm} {w : World} (h : Inv I w) {b : Nat} (hb : w.heap.size ≤ b) : I b = none := by
  cases hi : I b with
  | none => rfl
  | some o => exact absurd (lt_of_heap (h b o hi)) (by omega)
theorem Inv.kept {I : Imm} {w w' : World} {X : List Nat} (h : Inv I w) (k : Kept X w w') (hx : ∀ x, x ∈ X → I x = none) : Inv I w' := fun b o hb =>
  k.get (h b o hb) (fun hm => by rw [hx b hm] at hb; cases hb)
theorem Inv.kept0 {I : Imm} {w w' : World} (h : Inv I w) (k : Kept [] w w') : Inv I w' := h.kept k (fun _ hx => by cases hx)
theorem Inv.add {I : Imm} {w : World} (h : Inv I w) {b : Nat} {o : Obj} (hb : w.heap[b]? = some o) : Inv (I.add b o) w := fun k u hk => by
  unfold Imm.add at hk
  split at hk
  · rename_i e; subst e; simp at hk; subst hk; exact hb
  · exact h k u hk
theorem Le.add {I : Imm} {b : Nat} {o : Obj} (h : I b = none) : Le I (I.add b o) := fun k u hk => by
  unfold Imm.add
  split
  · rename_i e; subst e; rw [h] at hk; cases hk
  · exact hk
theorem Imm.add_self (I : Imm) (b : Nat) (o : Obj) : (I.add b o) b = some o := by simp [Imm.add]

/-! facts on types, found by instance -/
def isAggD : TypeDesc → Bool
  | .struct _ | .array _ _ => true
  | _ => false
class TyStr (P : Program) (t : TypeId) : Prop where out : P.underlying t = some .string
class TySlice (P : Program) (t : TypeId) (e : outParam TypeId) : Prop where out : P.underlying t = some (.slice e)
/-- an element's cells, its bytes, its zero value. -/
class Elem (P : Program) (e : TypeId) (size bytes : outParam Nat) : Prop where
  out : ∃ i z, P.info? e = some i ∧ i.zero = some z ∧ i.size = size ∧ i.bytes = bytes ∧ z.cells.size = size ∧ 0 < size
/-- a function of the program's own. -/
class Own (P : Program) (f : FuncId) : Prop where out : ∃ fn, P.funcs[f]? = some fn ∧ (fn.name == "runtime.NumGoroutine") = false ∧ fn.body.isNone = false
/-- the type is none of many cells. -/
class TyOne (P : Program) (t : TypeId) : Prop where out : ∃ d, P.underlying t = some d ∧ isAggD d = false
class TyAgg (P : Program) (t : TypeId) (size : outParam Nat) : Prop where out : ∃ d i, P.underlying t = some d ∧ isAggD d = true ∧ P.info? t = some i ∧ i.size = size

/-- a text's value. -/
abbrev str (s : List UInt8) : Value := .string ⟨s.toArray⟩
theorem str_size (s : List UInt8) : ByteArray.size ⟨s.toArray⟩ = s.length := List.size_toArray
theorem str_get (s : List UInt8) (i : Nat) (h : i < s.length) : (⟨s.toArray⟩ : ByteArray)[i]? = some (s.getD i 0) := by
  have h1 : i < (⟨s.toArray⟩ : ByteArray).size := by rw [str_size]; exact h
  rw [getElem?_pos (⟨s.toArray⟩ : ByteArray) i h1]
  simp [List.getD_eq_getElem?_getD, List.getElem?_eq_getElem h]
  rfl
theorem str_of (s : ByteArray) : Value.string s = str s.data.toList := rfl

section
variable {P : Program} {N : Nat} {ds : List Deferred} {Q : Exit → Act → World → Prop} {l l' : Log} {w w' : World} {ops : Array Oper} {os : List Oper} {o : Oper}
variable {d : Nat} {ty : TypeId} {pos : String} {af : Array Edge} {g : Option (Nat × Bool)} {t t' : TypeId} {x y : Operand}

/-! texts -/
theorem op_len_str [TyStr P t] {s : List UInt8} (hw : want ops l ⟨some d, .call ⟨.builtin .len, #[x], #[t]⟩, ty, pos, af, g⟩ = some true) (hN : Nat.blt d N = true)
    (hx : ev l x = some (str s)) (k : WL P N ds ops Q os ((d, .int .i64 (s.length : Int)) :: l) w) :
    WL P N ds ops Q (⟨some d, .call ⟨.builtin .len, #[x], #[t]⟩, ty, pos, af, g⟩ :: os) l w :=
  wl_value rfl hw hN (fun a ha => by
    have h1 := run_underlying (P := P) (w := w) (TyStr.out (P := P) (t := t))
    simp [execOp, resolve, invoke, builtin, Builtin.len_, ha.ev hx, h1, goInt, str_size]) k
theorem op_len_slice {e : TypeId} [TySlice P t e] {b : Option Addr} {n c : Nat} (hw : want ops l ⟨some d, .call ⟨.builtin .len, #[x], #[t]⟩, ty, pos, af, g⟩ = some true) (hN : Nat.blt d N = true)
    (hx : ev l x = some (.slice b n c)) (k : WL P N ds ops Q os ((d, .int .i64 (n : Int)) :: l) w) :
    WL P N ds ops Q (⟨some d, .call ⟨.builtin .len, #[x], #[t]⟩, ty, pos, af, g⟩ :: os) l w :=
  wl_value rfl hw hN (fun a ha => by
    have h1 := run_underlying (P := P) (w := w) (TySlice.out (P := P) (t := t))
    simp [execOp, resolve, invoke, builtin, Builtin.len_, ha.ev hx, h1, goInt]) k
theorem op_index_str [TyStr P t] {s : List UInt8} {n : Int} (hw : want ops l ⟨some d, .index t x y, ty, pos, af, g⟩ = some true) (hN : Nat.blt d N = true)
    (hx : ev l x = some (str s)) (hy : ev l y = some (.int .i64 n)) (h0 : 0 ≤ n) (h1 : n < s.length)
    (k : WL P N ds ops Q os ((d, .int .u8 ((s.getD n.toNat 0).toNat : Int)) :: l) w) :
    WL P N ds ops Q (⟨some d, .index t x y, ty, pos, af, g⟩ :: os) l w :=
  wl_value rfl hw hN (fun a ha => by
    have h2 := run_underlying (P := P) (w := w) (TyStr.out (P := P) (t := t))
    have h3 : n.toNat < s.length := by omega
    simp [execOp, Instr.index, ha.ev hx, ha.ev hy, h2, asIntOf, h0, str_get s _ h3]) k
theorem str_extract (s : List UInt8) (a b : Nat) : ByteArray.extract ⟨s.toArray⟩ a b = ⟨((s.drop a).take (b - a)).toArray⟩ := by
  have h := Lib.extract_data ⟨s.toArray⟩ a b
  apply ByteArray.ext
  apply Array.toList_inj.1
  rw [h]
theorem str_append (s u : List UInt8) : (⟨s.toArray⟩ : ByteArray) ++ ⟨u.toArray⟩ = ⟨(s ++ u).toArray⟩ := by
  apply ByteArray.ext
  simp
theorem str_toList (s : List UInt8) : ByteArray.toList ⟨s.toArray⟩ = s := by simp

/-- 's[lo:hi]', 's[lo:]', 's[:hi]'. -/
theorem op_slice_str [TyStr P t] {s : List UInt8} {z : Operand} {a b : Int} (hw : want ops l ⟨some d, .slice t x (some y) (some z) none, ty, pos, af, g⟩ = some true) (hN : Nat.blt d N = true)
    (hx : ev l x = some (str s)) (hy : ev l y = some (.int .i64 a)) (hz : ev l z = some (.int .i64 b)) (h0 : 0 ≤ a ∧ a ≤ b ∧ b ≤ s.length)
    (k : WL P N ds ops Q os ((d, str ((s.drop a.toNat).take (b.toNat - a.toNat))) :: l) w) :
    WL P N ds ops Q (⟨some d, .slice t x (some y) (some z) none, ty, pos, af, g⟩ :: os) l w :=
  wl_value rfl hw hN (fun c hc => by
    obtain ⟨i, rfl⟩ := Int.eq_ofNat_of_zero_le h0.1
    obtain ⟨j, rfl⟩ := Int.eq_ofNat_of_zero_le (Int.le_trans h0.1 h0.2.1)
    have h2 := run_underlying (P := P) (w := w) (TyStr.out (P := P) (t := t))
    have h3 : i ≤ j := by omega
    have h4 : j ≤ s.length := by omega
    simp [execOp, Instr.sliceAt, Instr.slice, Instr.sliceBounds, Instr.sliceBound, hc.ev hx, hc.ev hy, hc.ev hz, h2, asIntOf, str_size, str_extract, h3, h4]) k
theorem op_slice_from [TyStr P t] {s : List UInt8} {a : Int} (hw : want ops l ⟨some d, .slice t x (some y) none none, ty, pos, af, g⟩ = some true) (hN : Nat.blt d N = true)
    (hx : ev l x = some (str s)) (hy : ev l y = some (.int .i64 a)) (h0 : 0 ≤ a ∧ a ≤ s.length)
    (k : WL P N ds ops Q os ((d, str (s.drop a.toNat)) :: l) w) :
    WL P N ds ops Q (⟨some d, .slice t x (some y) none none, ty, pos, af, g⟩ :: os) l w :=
  wl_value rfl hw hN (fun c hc => by
    have h2 := run_underlying (P := P) (w := w) (TyStr.out (P := P) (t := t))
    have h4 : (s.drop a.toNat).take (s.length - a.toNat) = s.drop a.toNat := List.take_of_length_le (by simp)
    simp [execOp, Instr.sliceAt, Instr.slice, Instr.sliceBounds, Instr.sliceBound, hc.ev hx, hc.ev hy, h2, asIntOf, h0, str_size, str_extract, h4]) k
theorem op_slice_to [TyStr P t] {s : List UInt8} {b : Int} (hw : want ops l ⟨some d, .slice t x none (some y) none, ty, pos, af, g⟩ = some true) (hN : Nat.blt d N = true)
    (hx : ev l x = some (str s)) (hy : ev l y = some (.int .i64 b)) (h0 : 0 ≤ b ∧ b ≤ s.length)
    (k : WL P N ds ops Q os ((d, str (s.take b.toNat)) :: l) w) :
    WL P N ds ops Q (⟨some d, .slice t x none (some y) none, ty, pos, af, g⟩ :: os) l w :=
  wl_value rfl hw hN (fun c hc => by
    have h2 := run_underlying (P := P) (w := w) (TyStr.out (P := P) (t := t))
    simp [execOp, Instr.sliceAt, Instr.slice, Instr.sliceBounds, Instr.sliceBound, hc.ev hx, hc.ev hy, h2, asIntOf, h0, str_size, str_extract]) k
theorem op_eql_str {s u : List UInt8} (hw : want ops l ⟨some d, .binOp .eql t x y t', ty, pos, af, g⟩ = some true) (hN : Nat.blt d N = true)
    (hx : ev l x = some (str s)) (hy : ev l y = some (str u)) (k : WL P N ds ops Q os ((d, .bool (decide (s = u))) :: l) w) :
    WL P N ds ops Q (⟨some d, .binOp .eql t x y t', ty, pos, af, g⟩ :: os) l w :=
  wl_value rfl hw hN (fun c hc => by simp [execOp, hc.ev hx, hc.ev hy, eqGuard, binOp, Op.stringOp]; exact beq_dec s u) k
theorem op_neq_str {s u : List UInt8} (hw : want ops l ⟨some d, .binOp .neq t x y t', ty, pos, af, g⟩ = some true) (hN : Nat.blt d N = true)
    (hx : ev l x = some (str s)) (hy : ev l y = some (str u)) (k : WL P N ds ops Q os ((d, .bool (decide (s ≠ u))) :: l) w) :
    WL P N ds ops Q (⟨some d, .binOp .neq t x y t', ty, pos, af, g⟩ :: os) l w :=
  wl_value rfl hw hN (fun c hc => by simp [execOp, hc.ev hx, hc.ev hy, eqGuard, binOp, Op.stringOp]; exact beq_dec s u) k
theorem op_add_str {s u : List UInt8} (hw : want ops l ⟨some d, .binOp .add t x y t', ty, pos, af, g⟩ = some true) (hN : Nat.blt d N = true)
    (hx : ev l x = some (str s)) (hy : ev l y = some (str u)) (h : s.length + u.length ≤ 9223372036854775807) (k : WL P N ds ops Q os ((d, str (s ++ u)) :: l) w) :
    WL P N ds ops Q (⟨some d, .binOp .add t x y t', ty, pos, af, g⟩ :: os) l w :=
  wl_value rfl hw hN (fun c hc => by
    have h1 : ¬ ((s.length + u.length : Nat) : Int) > IntKind.i64.max := by simp [IntKind.max, IntKind.bits, IntKind.signed]; omega
    simp only [execOp, hc.ev hx, hc.ev hy, eqGuard, binOp, Op.stringOp, str_size, str_append, if_neg h1]
    simp) k

/-! ints -/
theorem op_add {a b : Int} (hw : want ops l ⟨some d, .binOp .add t x y t', ty, pos, af, g⟩ = some true) (hN : Nat.blt d N = true)
    (hx : ev l x = some (.int .i64 a)) (hy : ev l y = some (.int .i64 b)) (h : -9223372036854775808 ≤ a + b ∧ a + b ≤ 9223372036854775807)
    (k : WL P N ds ops Q os ((d, .int .i64 (a + b)) :: l) w) : WL P N ds ops Q (⟨some d, .binOp .add t x y t', ty, pos, af, g⟩ :: os) l w :=
  wl_value rfl hw hN (fun c hc => by simp [execOp, hc.ev hx, hc.ev hy, eqGuard, binOp, Op.intArith, IntWalk.i64_in _ h]) k
theorem op_sub {a b : Int} (hw : want ops l ⟨some d, .binOp .sub t x y t', ty, pos, af, g⟩ = some true) (hN : Nat.blt d N = true)
    (hx : ev l x = some (.int .i64 a)) (hy : ev l y = some (.int .i64 b)) (h : -9223372036854775808 ≤ a - b ∧ a - b ≤ 9223372036854775807)
    (k : WL P N ds ops Q os ((d, .int .i64 (a - b)) :: l) w) : WL P N ds ops Q (⟨some d, .binOp .sub t x y t', ty, pos, af, g⟩ :: os) l w :=
  wl_value rfl hw hN (fun c hc => by simp [execOp, hc.ev hx, hc.ev hy, eqGuard, binOp, Op.intArith, IntWalk.i64_in _ h]) k
theorem op_not {b : Bool} (hw : want ops l ⟨some d, .unOp .not t x, ty, pos, af, g⟩ = some true) (hN : Nat.blt d N = true)
    (hx : ev l x = some (.bool b)) (k : WL P N ds ops Q os ((d, .bool (!b)) :: l) w) : WL P N ds ops Q (⟨some d, .unOp .not t x, ty, pos, af, g⟩ :: os) l w :=
  wl_value rfl hw hN (fun c hc => by simp [execOp, hc.ev hx, Op.unary]) k
theorem op_extract {n : Nat} {vs : List Value} {v : Value} (hw : want ops l ⟨some d, .extract x n, ty, pos, af, g⟩ = some true) (hN : Nat.blt d N = true)
    (hx : ev l x = some (.tuple vs.toArray)) (hv : vs[n]? = some v) (k : WL P N ds ops Q os ((d, v) :: l) w) : WL P N ds ops Q (⟨some d, .extract x n, ty, pos, af, g⟩ :: os) l w :=
  wl_value rfl hw hN (fun c hc => by simp [execOp, hc.ev hx, Instr.extract, hv]) k

/-! calls -/
def evs (l : Log) : List Operand → Option (List Value)
  | [] => some []
  | x :: xs => match ev l x, evs l xs with
    | some v, some vs => some (v :: vs)
    | _, _ => none
theorem Fits.evs {a : Act} (h : Fits N ds l a) : ∀ {xs : List Operand} {vs : List Value}, evs l xs = some vs → xs.map a.eval = vs
  | [], vs, hv => by simp [Fw.evs] at hv; simp [← hv]
  | x :: xs, vs, hv => by
    simp only [Fw.evs] at hv
    split at hv
    · rename_i v us h1 h2
      simp only [Option.some.injEq] at hv
      rw [← hv, List.map_cons, h.ev h1, h.evs h2]
    · cases hv

theorem wl_enter {f : FuncId} {args : Array Value} {Post : Value → World → Prop} (hw : want ops l o = some true)
    (hrun : ∀ a, Fits N ds l a → (execOp a.eval o).run P w = .ok (.enter f args) w) (hc : Cal P f args w Post)
    (k : ∀ v w', Post v w' → ∀ a, Fits N ds l a → wpList P ops Q os (a.put o.dst v) w') : WL P N ds ops Q (o :: os) l w :=
  wl_op hw fun a ha => by
    unfold Oper.wp
    rw [hrun a ha, Oper.upon_enter]
    exact Calls.mono hc.run (fun e w' q => by
      cases e with
      | returned v => exact k v w' q a ha
      | panicked c => exact q.elim
      | outgrown => exact q.elim)

theorem run_callFunc {f : FuncId} [Own P f] (args : Array Value) : (callFunc f args).run P w = .ok (.enter f args) w := by
  obtain ⟨fn, h1, h2, h3⟩ := Own.out (P := P) (f := f)
  simp only [beq_eq_false_iff_ne] at h2
  have h4 : ¬ fn.body = none := fun e => by simp [e] at h3
  simp [callFunc, h1, h2, h4]

theorem op_call {f : FuncId} [Own P f] {xs : List Operand} {tys : Array TypeId} {vs : List Value} {Post : Value → World → Prop}
    (hw : want ops l ⟨some d, .call ⟨.value (.func f), xs.toArray, tys⟩, ty, pos, af, g⟩ = some true) (hN : Nat.blt d N = true)
    (hx : evs l xs = some vs) (hc : Cal P f vs.toArray w Post) (k : ∀ v w', Post v w' → WL P N ds ops Q os ((d, v) :: l) w') :
    WL P N ds ops Q (⟨some d, .call ⟨.value (.func f), xs.toArray, tys⟩, ty, pos, af, g⟩ :: os) l w :=
  wl_enter hw (fun a ha => by
    have := ha.evs hx
    simp [execOp, resolve, invoke, Act.eval, Deferred.ofValue, this, run_callFunc]) hc (fun v w' hp a ha => (k v w' hp).run _ (ha.put hN v))
/-- a call of what is a value. -/
theorem op_callv {c : Operand} {f : FuncId} [Own P f] {xs : List Operand} {tys : Array TypeId} {vs ca : List Value} {Post : Value → World → Prop}
    (hw : want ops l ⟨some d, .call ⟨.value c, xs.toArray, tys⟩, ty, pos, af, g⟩ = some true) (hN : Nat.blt d N = true)
    (hf : ev l c = some (.func (.func f) #[] ca.toArray)) (hx : evs l xs = some vs) (hc : Cal P f (vs ++ ca).toArray w Post) (k : ∀ v w', Post v w' → WL P N ds ops Q os ((d, v) :: l) w') :
    WL P N ds ops Q (⟨some d, .call ⟨.value c, xs.toArray, tys⟩, ty, pos, af, g⟩ :: os) l w :=
  wl_enter hw (fun a ha => by
    have := ha.evs hx
    simp [execOp, resolve, invoke, ha.ev hf, Deferred.ofValue, this, run_callFunc]) hc (fun v w' hp a ha => (k v w' hp).run _ (ha.put hN v))
theorem op_makeFunc {f : FuncId} {xs : List Operand} {vs : List Value} (hw : want ops l ⟨some d, .makeFunc (.func f) #[] xs.toArray, ty, pos, af, g⟩ = some true) (hN : Nat.blt d N = true)
    (hx : evs l xs = some vs) (k : WL P N ds ops Q os ((d, .func (.func f) #[] vs.toArray) :: l) w) :
    WL P N ds ops Q (⟨some d, .makeFunc (.func f) #[] xs.toArray, ty, pos, af, g⟩ :: os) l w :=
  wl_value rfl hw hN (fun a ha => by
    have := ha.evs hx
    simp [execOp, Instr.makeFunc, this]) k

/-! memory -/
theorem op_box {v : Value} (hw : want ops l ⟨some d, .box t x, ty, pos, af, g⟩ = some true) (hN : Nat.blt d N = true) (hx : ev l x = some v)
    (k : ∀ b w', b = w.heap.size → w'.heap[b]? = some (.cells v.cells t (0, 0)) → Kept [] w w' → WL P N ds ops Q os ((d, .pointer (some ⟨b, 0, none⟩)) :: l) w') :
    WL P N ds ops Q (⟨some d, .box t x, ty, pos, af, g⟩ :: os) l w :=
  wl_value (w' := w.alloc (.cells v.cells t (0, 0))) rfl hw hN (fun a ha => by
    simp [execOp, Instr.box, newVar, newRow, newObj, ha.ev hx]; rfl) (k w.heap.size _ rfl (heap_alloc_new w _) (Kept.alloc w _))
theorem cell_of {b off : Nat} {c : Array Value} {e : TypeId} {fr : Nat × Nat} {v : Value} (hb : w.heap[b]? = some (.cells c e fr)) (hc : c[off]? = some v) : w.cell? ⟨b, off, none⟩ = some v := by
  simp [World.cell?, hb, hc]
theorem run_isAgg {dd : TypeDesc} (h : P.underlying t = some dd) : (isAgg t).run P w = .ok (isAggD dd) w := by
  have h3 := run_underlying (P := P) (w := w) h
  simp only [isAgg]
  cases dd <;> simp [h3, isAggD]
theorem op_load1 [TyOne P t] {b off : Nat} {c : Array Value} {e : TypeId} {fr : Nat × Nat} {v : Value} (hw : want ops l ⟨some d, .load t x, ty, pos, af, g⟩ = some true) (hN : Nat.blt d N = true)
    (hx : ev l x = some (.pointer (some ⟨b, off, none⟩))) (hb : w.heap[b]? = some (.cells c e fr)) (hc : c[off]? = some v)
    (k : WL P N ds ops Q os ((d, v) :: l) w) : WL P N ds ops Q (⟨some d, .load t x, ty, pos, af, g⟩ :: os) l w :=
  wl_value rfl hw hN (fun a ha => by
    obtain ⟨dd, h1, h2⟩ := TyOne.out (P := P) (t := t)
    have h4 := cell_of hb hc
    simp [execOp, Instr.loadAt, Instr.sureAddr, loadVar, run_isAgg h1, h2, ha.ev hx, load, Sem.run, h4]) k
end
end Go.Fw
