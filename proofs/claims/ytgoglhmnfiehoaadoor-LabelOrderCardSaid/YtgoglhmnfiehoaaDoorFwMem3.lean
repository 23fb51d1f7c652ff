/- Own work: the executor's rules: equality of flat structs. -/
import Derived.Test.YtgoglhmnfiehoaaDoorFwMem2
import Derived.Laws.StructEq
namespace Go.Fw
open Go

inductive FK where
  | int (k : IntKind)
  | str
  | bool
def FK.desc : FK → TypeDesc
  | .int k => .int k
  | .str => .string
  | .bool => .bool
def eqCell : Value → Value → Bool
  | .int _ a, .int _ b => decide (a = b)
  | .string a, .string b => decide (a.toList = b.toList)
  | .bool a, .bool b => decide (a = b)
  | _, _ => false
def eqCells : List Value → List Value → Bool
  | [], [] => true
  | x :: xs, y :: ys => eqCell x y && eqCells xs ys
  | _, _ => false
def fitCell : FK → Value → Bool
  | .int j, .int k _ => decide (j = k)
  | .str, .string _ => true
  | .bool, .bool _ => true
  | _, _ => false
def fitCells : List FK → List Value → Bool
  | [], [] => true
  | k :: ks, x :: xs => fitCell k x && fitCells ks xs
  | _, _ => false
def flatB (P : Program) : Nat → List Field → List FK → Bool
  | _, [], [] => true
  | i, f :: fs, k :: ks => !(f.name == "_") && f.offset == i && (match P.underlying f.type, k with
    | some (.int a), .int b => decide (a = b)
    | some .string, .str => true
    | some .bool, .bool => true
    | _, _ => false) && flatB P (i + 1) fs ks
  | _, _, _ => false
/-- a struct of ints, texts and bools alone. -/
class FlatT (P : Program) (t : TypeId) (ks : outParam (List FK)) : Prop where
  out : ∃ fs, P.underlying t = some (.struct fs) ∧ flatB P 0 fs.toList ks = true ∧ P.stoodInHeld t = false ∧ P.eqGuardType P.depth t = false
def flatTB (P : Program) (t : TypeId) (ks : List FK) : Bool := match P.underlying t with
  | some (.struct fs) => flatB P 0 fs.toList ks && !P.stoodInHeld t && !P.eqGuardType P.depth t
  | _ => false
theorem FlatT.of {P : Program} {t : TypeId} {ks : List FK} (h : flatTB P t ks = true) : FlatT P t ks := by
  unfold flatTB at h
  split at h
  · rename_i fs hd; simp only [Bool.and_eq_true, Bool.not_eq_true'] at h; exact ⟨fs, hd, h.1.1, h.1.2, h.2⟩
  · cases h

section
variable {P : Program} {N : Nat} {ds : List Deferred} {Q : Exit → Act → World → Prop} {l l' : Log} {w w' : World} {ops : Array Oper} {os : List Oper} {o : Oper}
variable {d : Nat} {ty : TypeId} {pos : String} {af : Array Edge} {g : Option (Nat × Bool)} {t t' : TypeId} {x y : Operand}

theorem run_part1 {dd : TypeDesc} (h : P.underlying t = some dd) (h2 : isAggD dd = false) {cs : Array Value} {i : Nat} {v : Value} (hv : cs[i]? = some v) : (part t cs i).run P w = .ok v w := by
  simp [part, run_isAgg h, h2, hv]
theorem run_flat (xs ys : List Value) : ∀ (fs : List Field) (ks : List FK) (i : Nat) (w : World), flatB P i fs ks = true → fitCells ks (xs.drop i) = true → fitCells ks (ys.drop i) = true →
    (Op.eqFields 9999 xs.toArray ys.toArray fs).run P w = .ok (eqCells (xs.drop i) (ys.drop i)) w
  | [], [], i, w, _, h1, h2 => by
    have e1 : xs.drop i = [] := by cases h : xs.drop i with | nil => rfl | cons a l => rw [h] at h1; cases h1
    have e2 : ys.drop i = [] := by cases h : ys.drop i with | nil => rfl | cons a l => rw [h] at h2; cases h2
    simp [Op.eqFields, e1, e2, eqCells]
  | [], _ :: _, _, _, h, _, _ => by cases h
  | _ :: _, [], _, _, h, _, _ => by cases h
  | f :: fs, k :: ks, i, w, h, h1, h2 => by
    simp only [flatB, Bool.and_eq_true, Bool.not_eq_true', beq_iff_eq, beq_eq_false_iff_ne] at h
    obtain ⟨⟨⟨hn, ho⟩, hk⟩, hr⟩ := h
    cases e1 : xs.drop i with
    | nil => rw [e1] at h1; cases h1
    | cons a xs' =>
      cases e2 : ys.drop i with
      | nil => rw [e2] at h2; cases h2
      | cons b ys' =>
        have d1 : xs.drop (i + 1) = xs' := by rw [← List.drop_drop, e1]; rfl
        have d2 : ys.drop (i + 1) = ys' := by rw [← List.drop_drop, e2]; rfl
        have g1 : xs.toArray[i]? = some a := by
          have : (xs.drop i)[0]? = some a := by rw [e1]; rfl
          simpa using this
        have g2 : ys.toArray[i]? = some b := by
          have : (ys.drop i)[0]? = some b := by rw [e2]; rfl
          simpa using this
        rw [e1] at h1
        rw [e2] at h2
        simp only [fitCells, Bool.and_eq_true] at h1 h2
        have ih := run_flat xs ys fs ks (i + 1) w hr (by rw [d1]; exact h1.2) (by rw [d2]; exact h2.2)
        rw [d1, d2] at ih
        simp only [Op.eqFields]
        rw [if_pos hn]
        cases hu : P.underlying f.type with
        | none => rw [hu] at hk; cases hk
        | some dd =>
          rw [hu] at hk
          have hagg : isAggD dd = false := by
            cases dd <;> first | rfl | (cases k <;> simp at hk)
          have p1 := run_part1 (P := P) (w := w) hu hagg (i := f.offset) (by rw [ho]; exact g1)
          have p2 := run_part1 (P := P) (w := w) hu hagg (i := f.offset) (by rw [ho]; exact g2)
          have heq : (Op.equalIn 9999 f.type a b).run P w = .ok (eqCell a b) w := by
            cases k with
            | int kk =>
              cases a <;> simp [fitCell] at h1
              cases b <;> simp [fitCell] at h2
              cases dd <;> simp at hk
              obtain ⟨e3, _⟩ := h1
              obtain ⟨e4, _⟩ := h2
              subst e3
              subst e4
              rw [run_equalIn_int w 9998 f.type _ _ _ _ hu]
              simp [eqCell, beq_dec]
            | str =>
              cases a <;> simp [fitCell] at h1
              cases b <;> simp [fitCell] at h2
              cases dd <;> simp at hk
              rw [run_equalIn_string w 9998 _ _ _ hu]
              simp only [eqCell]
              congr 1
              exact beq_dec _ _
            | bool =>
              cases a <;> simp [fitCell] at h1
              cases b <;> simp [fitCell] at h2
              cases dd <;> simp at hk
              rw [run_equalIn_bool' w 9998 _ _ _ hu]
              simp only [eqCell, beq_dec]
          simp only [Sem.run_bind, p1, p2, Result.andThen_ok, heq, eqCells]
          cases hc : eqCell a b with
          | false => simp
          | true => simpa using ih

class TyBool (P : Program) (t : TypeId) : Prop where out : P.underlying t = some .bool
theorem op_eql_bool [TyBool P t] {a b : Bool} (hw : want ops l ⟨some d, .binOp .eql t x y t', ty, pos, af, g⟩ = some true) (hN : Nat.blt d N = true)
    (hx : ev l x = some (.bool a)) (hy : ev l y = some (.bool b)) (k : WL P N ds ops Q os ((d, .bool (decide (a = b))) :: l) w) :
    WL P N ds ops Q (⟨some d, .binOp .eql t x y t', ty, pos, af, g⟩ :: os) l w :=
  wl_value rfl hw hN (fun c hc => by
    have h1 := run_equalIn_bool' (P := P) w 9999 t a b (TyBool.out (P := P) (t := t))
    simp only [execOp, hc.ev hx, hc.ev hy, eqGuard, binOp, Op.equal, Op.maxDepth]
    simp [h1, beq_dec]) k
theorem op_neq_bool [TyBool P t] {a b : Bool} (hw : want ops l ⟨some d, .binOp .neq t x y t', ty, pos, af, g⟩ = some true) (hN : Nat.blt d N = true)
    (hx : ev l x = some (.bool a)) (hy : ev l y = some (.bool b)) (k : WL P N ds ops Q os ((d, .bool (decide (a ≠ b))) :: l) w) :
    WL P N ds ops Q (⟨some d, .binOp .neq t x y t', ty, pos, af, g⟩ :: os) l w :=
  wl_value rfl hw hN (fun c hc => by
    have h1 := run_equalIn_bool' (P := P) w 9999 t a b (TyBool.out (P := P) (t := t))
    simp only [execOp, hc.ev hx, hc.ev hy, eqGuard, binOp, Op.equal, Op.maxDepth]
    simp [h1, beq_dec]) k
theorem op_eql_flat {ks : List FK} [FlatT P t ks] {xs ys : List Value} (hw : want ops l ⟨some d, .binOp .eql t x y t', ty, pos, af, g⟩ = some true) (hN : Nat.blt d N = true)
    (hx : ev l x = some (.agg xs.toArray)) (hy : ev l y = some (.agg ys.toArray)) (h1 : fitCells ks xs = true) (h2 : fitCells ks ys = true)
    (k : WL P N ds ops Q os ((d, .bool (eqCells xs ys)) :: l) w) : WL P N ds ops Q (⟨some d, .binOp .eql t x y t', ty, pos, af, g⟩ :: os) l w :=
  wl_value rfl hw hN (fun c hc => by
    obtain ⟨fs, a1, a2, a3, a4⟩ := FlatT.out (P := P) (t := t)
    have hf : P.fieldsOf t = fs := by simp [Program.fieldsOf, a1]
    have r1 := run_eqGuard_agg (P := P) w .eql t x y xs.toArray ys.toArray a4
    have r2 := run_equalIn_agg (P := P) w 9999 t xs.toArray ys.toArray (by rw [hf]; exact a1) a3
    rw [hf, run_flat xs ys _ _ 0 _ a2 h1 h2] at r2
    simp only [execOp, hc.ev hx, hc.ev hy, Sem.run_bind, r1, Result.andThen_ok, run_eql_struct, r2, Sem.run_pure, List.drop_zero]) k
theorem op_neq_flat {ks : List FK} [FlatT P t ks] {xs ys : List Value} (hw : want ops l ⟨some d, .binOp .neq t x y t', ty, pos, af, g⟩ = some true) (hN : Nat.blt d N = true)
    (hx : ev l x = some (.agg xs.toArray)) (hy : ev l y = some (.agg ys.toArray)) (h1 : fitCells ks xs = true) (h2 : fitCells ks ys = true)
    (k : WL P N ds ops Q os ((d, .bool (!(eqCells xs ys))) :: l) w) : WL P N ds ops Q (⟨some d, .binOp .neq t x y t', ty, pos, af, g⟩ :: os) l w :=
  wl_value rfl hw hN (fun c hc => by
    obtain ⟨fs, a1, a2, a3, a4⟩ := FlatT.out (P := P) (t := t)
    have hf : P.fieldsOf t = fs := by simp [Program.fieldsOf, a1]
    have r1 := run_eqGuard_agg (P := P) w .neq t x y xs.toArray ys.toArray a4
    have r2 := run_equalIn_agg (P := P) w 9999 t xs.toArray ys.toArray (by rw [hf]; exact a1) a3
    rw [hf, run_flat xs ys _ _ 0 _ a2 h1 h2] at r2
    simp only [execOp, hc.ev hx, hc.ev hy, Sem.run_bind, r1, Result.andThen_ok, run_neq_struct, r2, Sem.run_pure, List.drop_zero]) k
end
end Go.Fw
