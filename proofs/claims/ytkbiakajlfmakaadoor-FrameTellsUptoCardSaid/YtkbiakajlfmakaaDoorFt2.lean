/- Own work: texts FwMem3, FwMem4, Post, FwQuiet, FwInt, FwQ, one behind the other. -/
import Derived.Test.YtkbiakajlfmakaaDoorFt1
import Derived.Laws.StructEq
import Derived.Test.YtkbiakajlfmakaaDoorRows
import Derived.WalkKit
import Derived.ProofKit
import Derived.OpenShut
import Derived.ShutString
import Derived.JoinedCond
import Derived.Deep.Quiet
import Derived.StillTail
section
namespace Go.Fw
open Go

inductive FK where
  | int (k : IntKind)
  | str
  | bool
def eqCell : Value → Value → Bool
  | .int _ a, .int _ b => decide (a = b)
  | .string a, .string b => decide (a.toList = b.toList)
  | .bool a, .bool b => decide (a = b)
  | _, _ => false
def eqCells : List Value → List Value → Bool
  | [], [] => true
  | x :: xs, y :: ys => eqCell x y && eqCells xs ys
  | _, _ => false
def fitCell : FK → Value → Bool
  | .int j, .int k _ => decide (j = k)
  | .str, .string _ => true
  | .bool, .bool _ => true
  | _, _ => false
def fitCells : List FK → List Value → Bool
  | [], [] => true
  | k :: ks, x :: xs => fitCell k x && fitCells ks xs
  | _, _ => false
def flatB (P : Program) : Nat → List Field → List FK → Bool
  | _, [], [] => true
  | i, f :: fs, k :: ks => !(f.name == "_") && f.offset == i && (match P.underlying f.type, k with
    | some (.int a), .int b => decide (a = b)
    | some .string, .str => true
    | some .bool, .bool => true
    | _, _ => false) && flatB P (i + 1) fs ks
  | _, _, _ => false
/-- a struct of ints, texts and bools alone. -/
class FlatT (P : Program) (t : TypeId) (ks : outParam (List FK)) : Prop where
  out : ∃ fs, P.underlying t = some (.struct fs) ∧ flatB P 0 fs.toList ks = true ∧ P.stoodInHeld t = false ∧ P.eqGuardType P.depth t = false
def flatTB (P : Program) (t : TypeId) (ks : List FK) : Bool := match P.underlying t with
  | some (.struct fs) => flatB P 0 fs.toList ks && !P.stoodInHeld t && !P.eqGuardType P.depth t
  | _ => false
theorem FlatT.of {P : Program} {t : TypeId} {ks : List FK} (h : flatTB P t ks = true) : FlatT P t ks := by
  unfold flatTB at h
  split at h
  · rename_i fs hd; simp only [Bool.and_eq_true, Bool.not_eq_true'] at h; exact ⟨fs, hd, h.1.1, h.1.2, h.2⟩
  · cases h

section
variable {P : Program} {N : Nat} {ds : List Deferred} {Q : Exit → Act → World → Prop} {l l' : Log} {w w' : World} {ops : Array Oper} {os : List Oper} {o : Oper}
variable {d : Nat} {ty : TypeId} {pos : String} {af : Array Edge} {g : Option (Nat × Bool)} {t t' : TypeId} {x y : Operand}

theorem run_part1 {dd : TypeDesc} (h : P.underlying t = some dd) (h2 : isAggD dd = false) {cs : Array Value} {i : Nat} {v : Value} (hv : cs[i]? = some v) : (part t cs i).run P w = .ok v w := by
  simp [part, run_isAgg h, h2, hv]
theorem run_flat (xs ys : List Value) : ∀ (fs : List Field) (ks : List FK) (i : Nat) (w : World), flatB P i fs ks = true → fitCells ks (xs.drop i) = true → fitCells ks (ys.drop i) = true →
    (Op.eqFields 9999 xs.toArray ys.toArray fs).run P w = .ok (eqCells (xs.drop i) (ys.drop i)) w
  | [], [], i, w, _, h1, h2 => by
    have e1 : xs.drop i = [] := by cases h : xs.drop i with | nil => rfl | cons a l => rw [h] at h1; cases h1
    have e2 : ys.drop i = [] := by cases h : ys.drop i with | nil => rfl | cons a l => rw [h] at h2; cases h2
    simp [Op.eqFields, e1, e2, eqCells]
  | [], _ :: _, _, _, h, _, _ => by cases h
  | _ :: _, [], _, _, h, _, _ => by cases h
  | f :: fs, k :: ks, i, w, h, h1, h2 => by
    simp only [flatB, Bool.and_eq_true, Bool.not_eq_true', beq_iff_eq, beq_eq_false_iff_ne] at h
    obtain ⟨⟨⟨hn, ho⟩, hk⟩, hr⟩ := h
    cases e1 : xs.drop i with
    | nil => rw [e1] at h1; cases h1
    | cons a xs' =>
      cases e2 : ys.drop i with
      | nil => rw [e2] at h2; cases h2
      | cons b ys' =>
        have d1 : xs.drop (i + 1) = xs' := by rw [← List.drop_drop, e1]; rfl
        have d2 : ys.drop (i + 1) = ys' := by rw [← List.drop_drop, e2]; rfl
        have g1 : xs.toArray[i]? = some a := by
          have : (xs.drop i)[0]? = some a := by rw [e1]; rfl
          simpa using this
        have g2 : ys.toArray[i]? = some b := by
          have : (ys.drop i)[0]? = some b := by rw [e2]; rfl
          simpa using this
        rw [e1] at h1
        rw [e2] at h2
        simp only [fitCells, Bool.and_eq_true] at h1 h2
        have ih := run_flat xs ys fs ks (i + 1) w hr (by rw [d1]; exact h1.2) (by rw [d2]; exact h2.2)
        rw [d1, d2] at ih
        simp only [Op.eqFields]
        rw [if_pos hn]
        cases hu : P.underlying f.type with
        | none => rw [hu] at hk; cases hk
        | some dd =>
          rw [hu] at hk
          have hagg : isAggD dd = false := by
            cases dd <;> first | rfl | (cases k <;> simp at hk)
          have p1 := run_part1 (P := P) (w := w) hu hagg (i := f.offset) (by rw [ho]; exact g1)
          have p2 := run_part1 (P := P) (w := w) hu hagg (i := f.offset) (by rw [ho]; exact g2)
          have heq : (Op.equalIn 9999 f.type a b).run P w = .ok (eqCell a b) w := by
            cases k with
            | int kk =>
              cases a <;> simp [fitCell] at h1
              cases b <;> simp [fitCell] at h2
              cases dd <;> simp at hk
              obtain ⟨e3, _⟩ := h1
              obtain ⟨e4, _⟩ := h2
              subst e3
              subst e4
              rw [run_equalIn_int w 9998 f.type _ _ _ _ hu]
              simp [eqCell, beq_dec]
            | str =>
              cases a <;> simp [fitCell] at h1
              cases b <;> simp [fitCell] at h2
              cases dd <;> simp at hk
              rw [run_equalIn_string w 9998 _ _ _ hu]
              simp only [eqCell]
              congr 1
              exact beq_dec _ _
            | bool =>
              cases a <;> simp [fitCell] at h1
              cases b <;> simp [fitCell] at h2
              cases dd <;> simp at hk
              rw [run_equalIn_bool' w 9998 _ _ _ hu]
              simp only [eqCell, beq_dec]
          simp only [Sem.run_bind, p1, p2, Result.andThen_ok, heq, eqCells]
          cases hc : eqCell a b with
          | false => simp
          | true => simpa using ih

class TyBool (P : Program) (t : TypeId) : Prop where out : P.underlying t = some .bool
theorem op_eql_flat {ks : List FK} [FlatT P t ks] {xs ys : List Value} (hw : want ops l ⟨some d, .binOp .eql t x y t', ty, pos, af, g⟩ = some true) (hN : Nat.blt d N = true)
    (hx : ev l x = some (.agg xs.toArray)) (hy : ev l y = some (.agg ys.toArray)) (h1 : fitCells ks xs = true) (h2 : fitCells ks ys = true)
    (k : WL P N ds ops Q os ((d, .bool (eqCells xs ys)) :: l) w) : WL P N ds ops Q (⟨some d, .binOp .eql t x y t', ty, pos, af, g⟩ :: os) l w :=
  wl_value rfl hw hN (fun c hc => by
    obtain ⟨fs, a1, a2, a3, a4⟩ := FlatT.out (P := P) (t := t)
    have hf : P.fieldsOf t = fs := by simp [Program.fieldsOf, a1]
    have r1 := run_eqGuard_agg (P := P) w .eql t x y xs.toArray ys.toArray a4
    have r2 := run_equalIn_agg (P := P) w 9999 t xs.toArray ys.toArray (by rw [hf]; exact a1) a3
    rw [hf, run_flat xs ys _ _ 0 _ a2 h1 h2] at r2
    simp only [execOp, hc.ev hx, hc.ev hy, Sem.run_bind, r1, Result.andThen_ok, run_eql_struct, r2, Sem.run_pure, List.drop_zero]) k
theorem op_neq_flat {ks : List FK} [FlatT P t ks] {xs ys : List Value} (hw : want ops l ⟨some d, .binOp .neq t x y t', ty, pos, af, g⟩ = some true) (hN : Nat.blt d N = true)
    (hx : ev l x = some (.agg xs.toArray)) (hy : ev l y = some (.agg ys.toArray)) (h1 : fitCells ks xs = true) (h2 : fitCells ks ys = true)
    (k : WL P N ds ops Q os ((d, .bool (!(eqCells xs ys))) :: l) w) : WL P N ds ops Q (⟨some d, .binOp .neq t x y t', ty, pos, af, g⟩ :: os) l w :=
  wl_value rfl hw hN (fun c hc => by
    obtain ⟨fs, a1, a2, a3, a4⟩ := FlatT.out (P := P) (t := t)
    have hf : P.fieldsOf t = fs := by simp [Program.fieldsOf, a1]
    have r1 := run_eqGuard_agg (P := P) w .neq t x y xs.toArray ys.toArray a4
    have r2 := run_equalIn_agg (P := P) w 9999 t xs.toArray ys.toArray (by rw [hf]; exact a1) a3
    rw [hf, run_flat xs ys _ _ 0 _ a2 h1 h2] at r2
    simp only [execOp, hc.ev hx, hc.ev hy, Sem.run_bind, r1, Result.andThen_ok, run_neq_struct, r2, Sem.run_pure, List.drop_zero]) k
end
end Go.Fw
end
section
namespace Go.Fw
open Go
section
variable {P : Program} {N : Nat} {ds : List Deferred} {Q : Exit → Act → World → Prop} {l l' : Log} {w w' : World} {ops : Array Oper} {os : List Oper} {o : Oper}
variable {d : Nat} {ty : TypeId} {pos : String} {af : Array Edge} {g : Option (Nat × Bool)} {t t' : TypeId} {x y : Operand}

theorem fill_all (sz : Nat) : ∀ (vs : List (Nat × Value)) (k : Nat) (cs : List Value), vs.map (·.1) = List.range' k vs.length → cs.length = (k + vs.length) * sz →
    (∀ p ∈ vs, p.2.cells.toList.length = sz) → Instr.fill (fun i => some (i * sz, sz)) cs.toArray vs = some (cs.take (k * sz) ++ vs.flatMap (·.2.cells.toList)).toArray
  | [], k, cs, _, hl, _ => by
    simp only [Instr.fill, List.flatMap_nil, List.append_nil]
    rw [List.take_of_length_le (by simp only [List.length_nil, Nat.add_zero] at hl; omega)]
  | (i, v) :: vs, k, cs, hi, hl, hs => by
    simp only [List.map_cons, List.length_cons, List.range'_succ, List.cons.injEq] at hi
    obtain ⟨rfl, hi⟩ := hi
    have hv : v.cells.toList.length = sz := hs (i, v) (by simp)
    have hv' : v.cells.size = sz := by simpa using hv
    have hl' : cs.length = i * sz + sz + vs.length * sz := by rw [hl]; simp only [List.length_cons, Nat.add_mul, Nat.one_mul]; omega
    rw [Instr.fill]
    simp only
    rw [if_neg (by simp [hv', hl'])]
    have e : (v.cells.zipIdx.foldl (fun cs (x : Value × Nat) => cs.setIfInBounds (i * sz + x.2) x.1) cs.toArray) = (cs.take (i * sz) ++ (v.cells.toList ++ cs.drop (i * sz + sz))).toArray := by
      apply Array.ext_getElem?
      intro j
      rw [← Array.foldl_toList, Array.toList_zipIdx, fold_set]
      simp only [List.getElem?_toArray, List.size_toArray, Array.length_toList, Nat.add_zero, hv']
      by_cases h1 : j < i * sz
      · rw [if_neg (by omega), List.getElem?_append_left (by simp; omega)]
        simp [h1]
      · by_cases h2 : j < i * sz + sz
        · rw [if_pos (by omega), List.getElem?_append_right (by simp; omega), List.getElem?_append_left (by simp; omega)]
          congr 1
          simp; omega
        · rw [if_neg (by omega), List.getElem?_append_right (by simp; omega), List.getElem?_append_right (by simp; omega), List.getElem?_drop]
          congr 1
          simp; omega
    have ih := fill_all sz vs (i + 1) (cs.take (i * sz) ++ (v.cells.toList ++ cs.drop (i * sz + sz))) hi (by simp [hv', hl', Nat.add_mul]; omega) (fun p hp => hs p (by simp [hp]))
    have e3 : List.take ((i + 1) * sz) (cs.take (i * sz) ++ (v.cells.toList ++ cs.drop (i * sz + sz))) = cs.take (i * sz) ++ v.cells.toList := by
      rw [← List.append_assoc, List.take_append_of_le_length (by simp [hv', hl', Nat.add_mul]; omega), List.take_of_length_le (by simp [hv', hl', Nat.add_mul]; omega)]
    refine Eq.trans (congrArg (fun c => Instr.fill _ c vs) e) (ih.trans ?_)
    rw [e3, List.append_assoc]
    rfl

theorem op_buildSlice {e : TypeId} {sz by_ n : Nat} [TySlice P t e] [Elem P e sz by_] {ps : List (Nat × Operand)} {vs : List (Nat × Value)}
    (hw : want ops l ⟨some d, .buildSlice t n ps.toArray, ty, pos, af, g⟩ = some true) (hN : Nat.blt d N = true) (hx : evp l ps = some vs)
    (hi : vs.map (·.1) = List.range' 0 n) (hs : vs.all (fun p => Nat.beq p.2.cells.toList.length sz) = true) (hn : n * sz ≤ 16777216)
    (k : ∀ b w', b = w.heap.size → w'.heap[b]? = some (.cells (vs.flatMap (·.2.cells.toList)).toArray e (0, 0)) → Kept [] w w' → WL P N ds ops Q os ((d, .slice (some ⟨b, 0, none⟩) n n) :: l) w') :
    WL P N ds ops Q (⟨some d, .buildSlice t n ps.toArray, ty, pos, af, g⟩ :: os) l w := by
  obtain ⟨i, z, hi', hz, hs', hby, hzc, hpos⟩ := Elem.out (P := P) (e := e)
  have h6 := fun w => run_underlying (P := P) (w := w) (TySlice.out (P := P) (t := t))
  have hlen : vs.length = n := by have := congrArg List.length hi; simpa using this
  have hf := fill_all sz vs 0 ((List.range (n * sz)).map (fun j => z.cells[j % z.cells.size]!)) (by rw [hlen]; exact hi) (by simp [hlen]) (fun p hp => by
    have := List.all_eq_true.1 hs p hp
    exact Nat.eq_of_beq_eq_true this)
  simp only [Nat.zero_mul, List.take_zero, List.nil_append] at hf
  refine wl_value (w' := w.alloc (.cells (vs.flatMap (·.2.cells.toList)).toArray e (0, 0))) (v := .slice (some ⟨w.heap.size, 0, none⟩) n n) rfl hw hN (fun a ha => ?_) (k w.heap.size _ rfl (heap_alloc_new w _) (Kept.alloc w _))
  have e1 := ha.evp hx
  have hz0 : ¬ (2 ^ 24 < n * sz) := by omega
  have e2 : (Array.range (n * sz)).map (fun j => z.cells[j % z.cells.size]!) = ((List.range (n * sz)).map (fun j => z.cells[j % z.cells.size]!)).toArray := by
    apply Array.ext'; simp
  simp only [execOp, Instr.buildSlice]
  by_cases hz1 : n * sz = 0
  · have hn0 : n = 0 := by
      rcases Nat.mul_eq_zero.1 hz1 with h | h
      · exact h
      · omega
    subst hn0
    have : vs = [] := List.eq_nil_of_length_eq_zero hlen
    subst this
    have e4 : Array.range 0 = #[] := rfl
    simp [e1, h6, sizeOf, typeInfo, hi', Instr.fill, newRow, newObj, e4]
    rfl
  · simp [e1, h6, sizeOf, typeInfo, hi', hs', zeroValue, hz, hz0, newRow, newObj, e2, hf]
    rw [if_neg hz1]
    rfl

/-- an owned row's value is a slice of so many. -/
theorem own_val {base e sz n : Nat} {v : Value} {xs : List Value} (h : w.ownsRow base e sz v n xs) : ∃ a cap, v = .slice a n cap := by
  rcases h.2 with ⟨rfl, h0⟩ | ⟨g, cap, cur, rfl, _⟩
  · exact ⟨none, 0, by rw [h0]⟩
  · exact ⟨_, _, rfl⟩

/-- a slice's value reads so, cell by cell. -/
structure Reads (w : World) (sz : Nat) (v : Value) (n : Nat) (xs : List Value) : Prop where
  len : xs.length = n * sz
  out : ∃ a cap, v = .slice a n cap ∧ n ≤ cap ∧ (0 < n → ∃ b off c e fr, a = some ⟨b, off, none⟩ ∧ w.heap[b]? = some (.cells c e fr) ∧ ∀ (j : Nat) (u : Value), xs[j]? = some u → c[off + j]? = some u)
theorem Reads.kept {sz n : Nat} {v : Value} {xs : List Value} (h : Reads w sz v n xs) (k : Kept [] w w') : Reads w' sz v n xs := by
  obtain ⟨hl, a, cap, hv, hc, hr⟩ := h
  exact ⟨hl, a, cap, hv, hc, fun h0 => let ⟨b, off, c, e, fr, h1, h2, h3⟩ := hr h0; ⟨b, off, c, e, fr, h1, k.get0 h2, h3⟩⟩
end
end Go.Fw
end
section
namespace Go.Proofs.YtkbiakajlfmakaaDoor
open Go.ChangeShapes Go.WideShapes Go.ChangeAt Go.RowKit
open Go.Fw (Kept Cal str Ret)
open Go.ChangeMaps (open_string shut_string)

theorem ownKnobNone : ownKnob Tryd.prog.godebug = none := by kernel_rfl

theorem kept_but {W W' : World} (h : Kept [] W W') (may : MemPlace → Prop) : W.keptBut W' may := by
  refine ⟨h.os, h.output, fun i hi => ?_⟩
  rw [h.blk i hi (by simp)]
  rcases hh : W.heap[i]? with _ | o
  · trivial
  · cases o
    case cells c t fr => exact ⟨rfl, rfl, rfl, fun _ _ => rfl⟩
    case map es clock => exact Or.inr ⟨rfl, rfl⟩
    all_goals rfl

theorem bulk_one {H : Type} (d : DataW H) : 1 ≤ Rows.uptoBulk d := by
  cases d with
  | lit l => cases l <;> simp [Rows.uptoBulk]
  | nil => simp [Rows.uptoBulk]
  | ptr d => simp [Rows.uptoBulk]
  | slice elems spare => simp [Rows.uptoBulk]
  | agg parts => simp [Rows.uptoBulk]
  | iface t d => simp [Rows.uptoBulk]
  | map entries => simp [Rows.uptoBulk]
  | held h => simp [Rows.uptoBulk]

theorem bulk_part {H : Type} {d : DataW H} {l : List (DataW H)} (h : d ∈ l) : Rows.uptoBulk d ≤ Rows.uptoBulkAll l := by
  induction l with
  | nil => cases h
  | cons x r ih =>
    simp only [Rows.uptoBulkAll]
    cases List.mem_cons.1 h with
    | inl e => subst e; omega
    | inr e => have := ih e; omega

end Go.Proofs.YtkbiakajlfmakaaDoor
end
section
namespace Go.Fw
open Go
section
variable {P : Program} {ops : Array Oper} {md : Region.Mode} {C : World → Prop}

def anyHead (P : Program) (md : Region.Mode) (ops : Array Oper) (C : World → Prop) (n : Nat) (L : Array Bool → Act → Prop) : Nat → Array Bool → Act → Prop
  | 0, listed, a => L listed a
  | f + 1, listed, a => Region.ready md ops listed ≠ [] ∧ ∀ i ∈ Region.ready md ops listed, i < n ∧ qOp P ops C i (anyHead P md ops C n L f (listed.setIfInBounds i true)) a

theorem any_of_head {n g : Nat} {L : Array Bool → Act → Prop} {Q' : Exit → Act → World → Prop} (hL : ∀ listed a w, C w → L listed a → wpAny P md ops Q' g listed a w) :
    ∀ (f : Nat) (listed : Array Bool) (a : Act) (w : World), C w → anyHead P md ops C n L f listed a → wpAny P md ops Q' (f + g) listed a w
  | 0, listed, a, w, hw, h => by rw [Nat.zero_add]; exact hL _ _ _ hw h
  | f + 1, listed, a, w, hw, h => by
    rw [show f + 1 + g = (f + g) + 1 by omega]
    exact ⟨fun h0 => absurd h0 h.1, fun i hi => wpOp_of_qOp hw (fun a' w' hw' h' => any_of_head hL f _ a' w' hw' h') (h.2 i hi).2⟩

theorem anyHead_first {n i : Nat} {oi : Oper} {v : Value} {L : Array Bool → Act → Prop} (hi : ops[i]? = some oi) (hsel : ∀ (j : Nat) (o : Oper) cs b, ops[j]? = some o → o.op ≠ .select cs b)
    (hs : Region.sinkB md ops n = true) (hc : Region.chainB md ops n = true) (hn : n < ops.size) (hin : i < n)
    (hdone : ∀ listed a, L listed a → ∀ j ∈ Region.ready md ops listed, n ≤ j) :
    ∀ (f : Nat) (listed : Array Bool) (a : Act), HeadInv md ops n listed →
      (∀ j oj, ops[j]? = some oj → j ≠ i → listed.getD j true = false → (∀ e ∈ oj.after, Region.binds md e = true → e.on ≠ i) → oi.apart ops oj = true) →
      i ∈ Region.ready md ops listed → YieldsIn P ops C oi v a →
      anyHead P md ops C n L f (listed.setIfInBounds i true) (a.put oi.dst v) → anyHead P md ops C n L (f + 1) listed a := by
  intro f
  induction f with
  | zero =>
    intro listed a inv _ hr hy H
    have hun := (mem_ready.1 hr).1
    refine ⟨fun h => (by rw [h] at hr; cases hr), fun j hj => ?_⟩
    have hjn : j < n := by
      rcases Nat.lt_or_ge j n with h | h
      · exact h
      · exact absurd hj (tail_waits hs hc hn inv _ i rfl hin hun j h)
    refine ⟨hjn, ?_⟩
    by_cases hji : j = i
    · subst hji; exact hy.qOp hi H
    · have := hdone _ _ H j (ready_mono hj hji)
      omega
  | succ f ih =>
    intro listed a inv hfree hr hy H
    have hun := (mem_ready.1 hr).1
    refine ⟨fun h => (by rw [h] at hr; cases hr), fun j hj => ?_⟩
    have hjn : j < n := by
      rcases Nat.lt_or_ge j n with h | h
      · exact h
      · exact absurd hj (tail_waits hs hc hn inv _ i rfl hin hun j h)
    refine ⟨hjn, ?_⟩
    by_cases hji : j = i
    · subst hji; exact hy.qOp hi H
    · have h1 := (H.2 j (ready_mono hj hji)).2
      obtain ⟨hjun, oj, hoj, hall⟩ := mem_ready.1 hj
      have hnot : ∀ e ∈ oj.after, Region.binds md e = true → e.on ≠ i := fun e he hb heq => by
        have h1 := hall e he hb
        rw [heq, getD_both hun] at h1
        cases h1
      have h2 := qOp_put hoj (hfree j oj hoj hji hjun hnot) (fun cs b => hsel i oi cs b hi) (fun cs b => hsel j oj cs b hoj) hy h1
      have hfree' : ∀ k ok, ops[k]? = some ok → k ≠ i → (listed.setIfInBounds j true).getD k true = false →
          (∀ e ∈ ok.after, Region.binds md e = true → e.on ≠ i) → oi.apart ops ok = true := fun k ok hk hki hun hno => by
        refine hfree k ok hk hki ?_ hno
        by_cases hjk : j = k
        · subst hjk; exact hjun
        · rw [getD_set_ne true hjk] at hun; exact hun
      refine qOp_mono (fun a' h3 => ih (listed.setIfInBounds j true) a' (inv.set hj hjn) hfree' (ready_mono hr (Ne.symm hji)) h3.1 ?_) h2
      rw [Array.setIfInBounds_comm _ _ hji]
      exact h3.2

theorem anyHead_lex {n g : Nat} {Lq : Act → Prop} (hsel : Region.noSelect ops = true) (hs : Region.sinkB md ops n = true) (hc : Region.chainB md ops n = true) (hn : n < ops.size) :
    ∀ (l : List Oper) (k : Nat) (listed : Array Bool) (a : Act), (∀ j, j < l.length → l[j]? = ops[k + j]?) → k + l.length = n → HeadInv md ops n listed →
    Region.lexHead md ops g l.length k listed = true → wpQuiet P ops C Lq l a →
    anyHead P md ops C n (fun listed' a' => Region.seqB md ops g n listed' = true ∧ Lq a') l.length listed a
  | [], k, listed, a, _, hk, _, hB, h => by
    have : k = n := by simpa using hk
    subst this
    exact ⟨by simpa [Region.lexHead] using hB, h⟩
  | o :: l, k, listed, a, hl, hk, inv, hB, h => by
    have h0 : ops[k]? = some o := by simpa using (hl 0 (by simp)).symm
    simp only [List.length_cons, Region.lexHead, Bool.and_eq_true] at hB
    obtain ⟨⟨hr, hf⟩, hB'⟩ := hB
    have hkn : k < n := by simp only [List.length_cons] at hk; omega
    have hr' : k ∈ Region.ready md ops listed := by simpa using hr
    have hst : qOp P ops C k (wpQuiet P ops C Lq l) a := by unfold qOp; simp only [h0]; exact h
    obtain ⟨v, hy, hK⟩ := yieldsIn_of_qOp h0 hst
    exact anyHead_first h0 (Region.noSelect_spec hsel) hs hc hn hkn (fun listed' a' hL => seqB_ready hL.1) l.length listed a inv (Region.free_spec h0 hf) hr' hy
      (anyHead_lex hsel hs hc hn l (k + 1) _ _ (fun j hj => by have := hl (j + 1) (by simp; omega); simpa [Nat.add_assoc, Nat.add_comm 1 j] using this) (by simp only [List.length_cons] at hk; omega) (inv.set hr' hkn) hB' hK)

theorem wp_region_quiet_tail {id : Nat} {Q : Exit → Act → World → Prop} {a : Act} {w : World} {l : List Oper} (n : Nat) (hm : P.follows .mixedOrders = true) (hB : Region.lexTailB .any l.toArray n = true)
    (hC : C { w with drawn := w.drawn + 1 })
    (h : wpQuiet P l.toArray C (fun a' => ∀ w', C w' → wpList P l.toArray Q (l.drop n) a' w') (l.take n) a) : (Code.region id l.toArray true).wp P Q a w := by
  simp only [Region.lexTailB, Bool.and_eq_true, decide_eq_true_eq] at hB
  obtain ⟨⟨⟨⟨hsel, hn⟩, hs⟩, hc⟩, hlex⟩ := hB
  have hn' : n < l.length := by simpa using hn
  have htl : (l.take n).length = n := by simp; omega
  have hdl : (l.drop n).length = l.toArray.size - n := by simp
  have inv0 : HeadInv .any l.toArray n (Array.replicate l.toArray.size false) :=
    ⟨by simp, fun j oj _ hl => (by rw [getD_replicate_false] at hl; cases hl), fun t _ ht => getD_in (by simpa using ht) (getD_replicate_false _ _)⟩
  have H := anyHead_lex (md := .any) (g := l.toArray.size - n) hsel hs hc hn (l.take n) 0 _ a (fun j hj => by
    have hj' : j < n := by rw [htl] at hj; exact hj
    simp [hj']) (by simpa using htl) inv0 (by rw [htl]; exact hlex) h
  refine wp_region_any hm ?_
  have := any_of_head (Q' := Q) (g := l.toArray.size - n) (fun listed a' w' hw' hL => by
    have := wpAny_of_seq (md := .any) (Q' := Q) (l.drop n) n listed a' w' (fun j => by simp [List.getElem?_drop]) (by rw [hdl]; exact hL.1) (hL.2 w' hw')
    rwa [hdl] at this) _ _ _ _ hC H
  rw [htl, show n + (l.toArray.size - n) = l.toArray.size by omega] at this
  exact this
end

/-! The executor's own form: quiet operations, from frames of which 'l' is known, in whatever world keeps what 'w' has. -/
section
variable {P : Program} {N : Nat} {ds : List Deferred} {K : Act → World → Prop} {Q : Exit → Act → World → Prop} {l l' : Log} {w w' : World} {ops : Array Oper} {os : List Oper} {o : Oper}

structure WQ (P : Program) (N : Nat) (ds : List Deferred) (ops : Array Oper) (w : World) (K : Act → World → Prop) (os : List Oper) (l : Log) : Prop where
  run : ∀ a, Fits N ds l a → wpQuiet P ops (fun w' => Kept [] w w') (fun a' => ∀ w', Kept [] w w' → K a' w') os a

class Mixed (P : Program) : Prop where out : P.follows .mixedOrders = true

/-- a region that draws, all of it quiet. -/
theorem wc_quiet [Mixed P] {id : Nat} {os : List Oper} (hB : Region.lexB .any os.toArray = true)
    (h : WQ P N ds os.toArray w (fun a' w' => Q .normal a' w') os l) : WC P N ds (.region id os.toArray true) Q l w :=
  ⟨fun a ha => wp_region_quiet (C := fun w' => Kept [] w w') Mixed.out hB (Kept.drew w) (by simpa using h.run a ha)⟩
/-- a region that draws, of which the first 'n' are quiet, and the others come in turn. -/
theorem wc_quiet_tail [Mixed P] {id : Nat} {os : List Oper} (n : Nat) (hB : Region.lexTailB .any os.toArray n = true)
    (h : WQ P N ds os.toArray w (fun a' w' => wpList P os.toArray Q (os.drop n) a' w') (os.take n) l) : WC P N ds (.region id os.toArray true) Q l w :=
  ⟨fun a ha => wp_region_quiet_tail n Mixed.out hB (Kept.drew w) (h.run a ha)⟩

theorem wq_nil_tail {os' : List Oper} (h : ∀ w', Kept [] w w' → WL P N ds ops Q os' l w') : WQ P N ds ops w (fun a' w' => wpList P ops Q os' a' w') [] l :=
  ⟨fun a ha => wpQuiet_nil (fun w' hw => (h w' hw).run a ha)⟩
theorem wq_nil (h : ∀ w', Kept [] w w' → At N ds Q .normal l w') : WQ P N ds ops w (fun a' w' => Q .normal a' w') [] l :=
  ⟨fun a ha => wpQuiet_nil (fun w' hw => (h w' hw).run a ha)⟩

theorem wq_value {d : Nat} {v : Value} (hd : o.dst = some d) (hw : want ops l o = some true) (hN : Nat.blt d N = true)
    (hrun : ∀ w', Kept [] w w' → ∀ a, Fits N ds l a → (execOp a.eval o).run P w' = .ok (.value v) w')
    (k : WQ P N ds ops w K os ((d, v) :: l)) : WQ P N ds ops w K (o :: os) l :=
  ⟨fun a ha => by
    unfold wpQuiet
    rw [want_spec ha hw]
    refine ⟨v, fun w' hw' => ?_, by rw [hd]; exact k.run _ (ha.put hN v)⟩
    unfold Oper.quietAt
    rw [hrun w' hw' a ha]
    exact ⟨rfl, rfl⟩⟩
theorem wq_skip {d : Nat} (hd : o.dst = some d) (hw : want ops l o = some false) (hN : Nat.blt d N = true)
    (k : WQ P N ds ops w K os ((d, undef) :: l)) : WQ P N ds ops w K (o :: os) l := ⟨fun a ha => by
  unfold wpQuiet
  rw [want_spec ha hw, hd]
  exact k.run _ (ha.put hN _)⟩
/-- a call that hands back one value, and keeps what was there. -/
theorem wq_enter {d : Nat} {v : Value} {f : FuncId} {args : Array Value} (hd : o.dst = some d) (hw : want ops l o = some true) (hN : Nat.blt d N = true)
    (hrun : ∀ w' a, Fits N ds l a → (execOp a.eval o).run P w' = .ok (.enter f args) w')
    (hc : ∀ w', Kept [] w w' → Cal P f args w' (fun u w'' => u = v ∧ Kept [] w' w''))
    (k : WQ P N ds ops w K os ((d, v) :: l)) : WQ P N ds ops w K (o :: os) l :=
  ⟨fun a ha => by
    unfold wpQuiet
    rw [want_spec ha hw]
    refine ⟨v, fun w' hw' => ?_, by rw [hd]; exact k.run _ (ha.put hN v)⟩
    unfold Oper.quietAt
    rw [hrun w' a ha]
    refine ⟨rfl, Calls.mono (hc w' hw').run (fun e w2 q => ?_)⟩
    cases e with
    | returned u => exact ⟨by rw [q.1], hw'.trans q.2⟩
    | panicked c => exact q.elim
    | outgrown => exact q.elim⟩
end
end Go.Fw
end
section
namespace Go.Fw
open Go
class TyInt (P : Program) (t : TypeId) (k : outParam IntKind) : Prop where out : P.underlying t = some (.int k)
class TyArr (P : Program) (t : TypeId) (n : outParam Nat) (e : outParam TypeId) : Prop where out : P.underlying t = some (.array n e)
section
variable {P : Program} {N : Nat} {ds : List Deferred} {Q : Exit → Act → World → Prop} {l l' : Log} {w w' : World} {ops : Array Oper} {os : List Oper} {o : Oper}
variable {d : Nat} {ty : TypeId} {pos : String} {af : Array Edge} {g : Option (Nat × Bool)} {t t' : TypeId} {x y : Operand} {ik : IntKind}

/-- field 'i' of a struct type: one cell, so many cells in. -/
class Fld1 (P : Program) (t : TypeId) (i : Nat) (off : outParam Nat) : Prop where
  out : ∃ fs f dd, P.underlying t = some (.struct fs) ∧ fs[i]? = some f ∧ f.offset = off ∧ P.underlying f.type = some dd ∧ isAggD dd = false
def fld1B (P : Program) (t : TypeId) (i off : Nat) : Bool := match P.underlying t with
  | some (.struct fs) => match fs[i]? with
    | some f => f.offset == off && (match P.underlying f.type with | some dd => !isAggD dd | none => false)
    | none => false
  | _ => false
theorem Fld1.of {P : Program} {t : TypeId} {i off : Nat} (h : fld1B P t i off = true) : Fld1 P t i off := by
  unfold fld1B at h
  split at h
  · rename_i fs hd
    split at h
    · rename_i f hf
      simp only [Bool.and_eq_true, beq_iff_eq] at h
      obtain ⟨h1, h2⟩ := h
      split at h2
      · rename_i dd hdd; exact ⟨fs, f, dd, hd, hf, h1, hdd, by simpa using h2⟩
      · cases h2
    · cases h
  · cases h
theorem op_nilCheck {p : Addr} (hw : want ops l ⟨some d, .nilCheck x, ty, pos, af, g⟩ = some true) (hN : Nat.blt d N = true)
    (hx : ev l x = some (.pointer (some p))) (k : WL P N ds ops Q os ((d, .pointer (some p)) :: l) w) : WL P N ds ops Q (⟨some d, .nilCheck x, ty, pos, af, g⟩ :: os) l w :=
  wl_value rfl hw hN (fun c hc => by simp [execOp, hc.ev hx]) k
theorem op_indexAddr_arr {e : TypeId} {sz by_ n : Nat} [TyArr P t n e] [Elem P e sz by_] {b o' : Nat} {i : Int} (hw : want ops l ⟨some d, .indexAddr t x y, ty, pos, af, g⟩ = some true) (hN : Nat.blt d N = true)
    (hx : ev l x = some (.pointer (some ⟨b, o', none⟩))) (hy : ev l y = some (.int .i64 i)) (h0 : 0 ≤ i) (h1 : i < n)
    (k : WL P N ds ops Q os ((d, .pointer (some ⟨b, o' + i.toNat * sz, none⟩)) :: l) w) :
    WL P N ds ops Q (⟨some d, .indexAddr t x y, ty, pos, af, g⟩ :: os) l w :=
  wl_value rfl hw hN (fun a ha => by
    obtain ⟨inf, z, hi, _, hs, _, _, _⟩ := Elem.out (P := P) (e := e)
    have h6 := run_underlying (P := P) (w := w) (TyArr.out (P := P) (t := t))
    simp [execOp, Instr.indexAt, Instr.sureAddr, asIntOf, ha.ev hx, ha.ev hy, h6, h0, h1, sizeOf, typeInfo, hi, hs, Addr.add_lit]) k
theorem run_loadAgg {t n b off : Nat} [TyAgg P t n] {c : Array Value} {e : TypeId} {fr : Nat × Nat} {vs : List Value}
    (hb : w.heap[b]? = some (.cells c e fr)) (hl : vs.length = n) (hc : ∀ j v, vs[j]? = some v → c[off + j]? = some v) : (loadVar t ⟨b, off, none⟩).run P w = .ok (.agg vs.toArray) w := by
  obtain ⟨dd, i, h1, h2, h3, h4⟩ := TyAgg.out (P := P) (t := t)
  have h5 := run_loadCells_list (P := P) w ⟨b, off, none⟩ vs (fun j v hv => by rw [Addr.add_lit]; exact cell_of hb (hc j v hv))
  rw [hl] at h5
  simp [loadVar, run_isAgg h1, h2, sizeOf, typeInfo, h3, h4, h5]
theorem results_cell2 {fn : Func} {t u : Nat} {tc : TypeId} (h : fn.results = #[.cell t tc, .tmp u]) (tmps : Array Value) (w : World) {b off : Nat} {v x : Value} (ht : tmps[t]? = some (.pointer (some ⟨b, off, none⟩)))
    (hu : tmps[u]? = some x) (hv : (loadVar tc ⟨b, off, none⟩).run P w = .ok v w) : (results fn tmps).run P w = .ok (.tuple #[v, x]) w := by
  simp [results, h, ht, hu, asAddr, hv]
/-- the first of two results stands in a cell. -/
theorem at_ret2_agg {fn : Func} {t u n b off : Nat} {tc : TypeId} [TyAgg P tc n] {c : Array Value} {e : TypeId} {fr : Nat × Nat} {vs : List Value} {xv : Value} {Post : Value → World → Prop} (hr : fn.results = #[.cell t tc, .tmp u])
    (hx : lk l t = some (.pointer (some ⟨b, off, none⟩))) (hu : lk l u = some xv) (hb : w.heap[b]? = some (.cells c e fr)) (hl : vs.length = n) (hc : ∀ j v, vs[j]? = some v → c[off + j]? = some v)
    (h : Post (.tuple #[.agg vs.toArray, xv]) w) : At N [] (bodyPost P fn (Ret Post)) .ret l w :=
  ⟨fun a ha => ⟨ha.defs, _, results_cell2 hr a.tmps w (ha.vals t _ hx) (ha.vals u _ hu) (run_loadAgg hb hl hc), h⟩⟩
end
end Go.Fw
end
section
namespace Go.Fw
open Go
section
variable {P : Program} {N : Nat} {ds : List Deferred} {K : Act → World → Prop} {l l' : Log} {w w' : World} {ops : Array Oper} {os : List Oper} {o : Oper}
variable {d : Nat} {ty : TypeId} {pos : String} {af : Array Edge} {g : Option (Nat × Bool)} {t t' : TypeId} {x y : Operand} {ik : IntKind}

theorem q_move {x : Operand} {v : Value} (hw : want ops l ⟨some d, .move x, ty, pos, af, g⟩ = some true) (hN : Nat.blt d N = true) (hx : ev l x = some v)
    (k : WQ P N ds ops w K os ((d, v) :: l)) : WQ P N ds ops w K (⟨some d, .move x, ty, pos, af, g⟩ :: os) l :=
  wq_value rfl hw hN (fun w' hkq a ha => by simp [execOp, ha.ev hx]) k
theorem q_assign {x : Operand} {v : Value} (hw : want ops l ⟨some d, .assign x, ty, pos, af, g⟩ = some true) (hN : Nat.blt d N = true) (hx : ev l x = some v)
    (k : WQ P N ds ops w K os ((d, v) :: l)) : WQ P N ds ops w K (⟨some d, .assign x, ty, pos, af, g⟩ :: os) l :=
  wq_value rfl hw hN (fun w' hkq a ha => by simp [execOp, ha.ev hx]) k
theorem q_pick_true {c x y : Operand} {v : Value} (hw : want ops l ⟨some d, .pick c x y, ty, pos, af, g⟩ = some true) (hN : Nat.blt d N = true)
    (hc : ev l c = some (.bool true)) (hx : ev l x = some v) (k : WQ P N ds ops w K os ((d, v) :: l)) : WQ P N ds ops w K (⟨some d, .pick c x y, ty, pos, af, g⟩ :: os) l :=
  wq_value rfl hw hN (fun w' hkq a ha => by simp [execOp, ha.ev hc, ha.ev hx, asBool]) k
theorem q_pick_false {c x y : Operand} {v : Value} (hw : want ops l ⟨some d, .pick c x y, ty, pos, af, g⟩ = some true) (hN : Nat.blt d N = true)
    (hc : ev l c = some (.bool false)) (hy : ev l y = some v) (k : WQ P N ds ops w K os ((d, v) :: l)) : WQ P N ds ops w K (⟨some d, .pick c x y, ty, pos, af, g⟩ :: os) l :=
  wq_value rfl hw hN (fun w' hkq a ha => by simp [execOp, ha.ev hc, ha.ev hy, asBool]) k
theorem q_gtr {a b : Int} (hw : want ops l ⟨some d, .binOp .gtr t x y t', ty, pos, af, g⟩ = some true) (hN : Nat.blt d N = true) (hx : ev l x = some (.int ik a)) (hy : ev l y = some (.int ik b))
    (k : WQ P N ds ops w K os ((d, .bool (decide (b < a))) :: l)) : WQ P N ds ops w K (⟨some d, .binOp .gtr t x y t', ty, pos, af, g⟩ :: os) l :=
  wq_value rfl hw hN (fun w' hkq c hc => by simp [execOp, hc.ev hx, hc.ev hy, eqGuard, binOp, Op.intCmp]) k
theorem q_neq {a b : Int} (hw : want ops l ⟨some d, .binOp .neq t x y t', ty, pos, af, g⟩ = some true) (hN : Nat.blt d N = true) (hx : ev l x = some (.int ik a)) (hy : ev l y = some (.int ik b))
    (k : WQ P N ds ops w K os ((d, .bool (decide (a ≠ b))) :: l)) : WQ P N ds ops w K (⟨some d, .binOp .neq t x y t', ty, pos, af, g⟩ :: os) l :=
  wq_value rfl hw hN (fun w' hkq c hc => by simp [execOp, hc.ev hx, hc.ev hy, eqGuard, binOp, Op.intCmp, beq_dec, bne]) k
theorem q_len_slice {e : TypeId} [TySlice P t e] {b : Option Addr} {n c : Nat} (hw : want ops l ⟨some d, .call ⟨.builtin .len, #[x], #[t]⟩, ty, pos, af, g⟩ = some true) (hN : Nat.blt d N = true)
    (hx : ev l x = some (.slice b n c)) (k : WQ P N ds ops w K os ((d, .int .i64 (n : Int)) :: l)) :
    WQ P N ds ops w K (⟨some d, .call ⟨.builtin .len, #[x], #[t]⟩, ty, pos, af, g⟩ :: os) l :=
  wq_value rfl hw hN (fun w' hkq a ha => by
    have h1 := run_underlying (P := P) (w := w') (TySlice.out (P := P) (t := t))
    simp [execOp, resolve, invoke, builtin, Builtin.len_, ha.ev hx, h1, goInt]) k
theorem q_add {a b : Int} (hw : want ops l ⟨some d, .binOp .add t x y t', ty, pos, af, g⟩ = some true) (hN : Nat.blt d N = true)
    (hx : ev l x = some (.int .i64 a)) (hy : ev l y = some (.int .i64 b)) (h : -9223372036854775808 ≤ a + b ∧ a + b ≤ 9223372036854775807)
    (k : WQ P N ds ops w K os ((d, .int .i64 (a + b)) :: l)) : WQ P N ds ops w K (⟨some d, .binOp .add t x y t', ty, pos, af, g⟩ :: os) l :=
  wq_value rfl hw hN (fun w' hkq c hc => by simp [execOp, hc.ev hx, hc.ev hy, eqGuard, binOp, Op.intArith, IntWalk.i64_in _ h]) k
theorem q_sub {a b : Int} (hw : want ops l ⟨some d, .binOp .sub t x y t', ty, pos, af, g⟩ = some true) (hN : Nat.blt d N = true)
    (hx : ev l x = some (.int .i64 a)) (hy : ev l y = some (.int .i64 b)) (h : -9223372036854775808 ≤ a - b ∧ a - b ≤ 9223372036854775807)
    (k : WQ P N ds ops w K os ((d, .int .i64 (a - b)) :: l)) : WQ P N ds ops w K (⟨some d, .binOp .sub t x y t', ty, pos, af, g⟩ :: os) l :=
  wq_value rfl hw hN (fun w' hkq c hc => by simp [execOp, hc.ev hx, hc.ev hy, eqGuard, binOp, Op.intArith, IntWalk.i64_in _ h]) k
theorem q_not {b : Bool} (hw : want ops l ⟨some d, .unOp .not t x, ty, pos, af, g⟩ = some true) (hN : Nat.blt d N = true)
    (hx : ev l x = some (.bool b)) (k : WQ P N ds ops w K os ((d, .bool (!b)) :: l)) : WQ P N ds ops w K (⟨some d, .unOp .not t x, ty, pos, af, g⟩ :: os) l :=
  wq_value rfl hw hN (fun w' hkq c hc => by simp [execOp, hc.ev hx, Op.unary]) k
theorem q_load1 [TyOne P t] {b off : Nat} {c : Array Value} {e : TypeId} {fr : Nat × Nat} {v : Value} (hw : want ops l ⟨some d, .load t x, ty, pos, af, g⟩ = some true) (hN : Nat.blt d N = true)
    (hx : ev l x = some (.pointer (some ⟨b, off, none⟩))) (hb : w.heap[b]? = some (.cells c e fr)) (hc : c[off]? = some v)
    (k : WQ P N ds ops w K os ((d, v) :: l)) : WQ P N ds ops w K (⟨some d, .load t x, ty, pos, af, g⟩ :: os) l :=
  wq_value rfl hw hN (fun w' hkq a ha => by
    obtain ⟨dd, h1, h2⟩ := TyOne.out (P := P) (t := t)
    have h4 := cell_of (hkq.get0 hb) hc
    simp [execOp, Instr.loadAt, Instr.sureAddr, loadVar, run_isAgg h1, h2, ha.ev hx, load, Sem.run, h4]) k
theorem q_fieldAddr {i off : Nat} [Fld P t i off] {b o' : Nat} (hw : want ops l ⟨some d, .fieldAddr t x i, ty, pos, af, g⟩ = some true) (hN : Nat.blt d N = true)
    (hx : ev l x = some (.pointer (some ⟨b, o', none⟩))) (k : WQ P N ds ops w K os ((d, .pointer (some ⟨b, o' + off, none⟩)) :: l)) :
    WQ P N ds ops w K (⟨some d, .fieldAddr t x i, ty, pos, af, g⟩ :: os) l :=
  wq_value rfl hw hN (fun w' hkq a ha => by
    obtain ⟨fs, f, inf, h1, h2, h3, h4, h5⟩ := Fld.out (P := P) (t := t) (i := i)
    have h6 := run_underlying (P := P) (w := w') h1
    simp [execOp, Instr.fieldAt, Instr.sureAddr, ha.ev hx, h6, h2, fieldPlace, sizeOf, typeInfo, h4, h5, h3, Addr.add_lit]) k
theorem q_indexAddr {e : TypeId} {sz by_ : Nat} [TySlice P t e] [Elem P e sz by_] {b o' n cp : Nat} {i : Int} (hw : want ops l ⟨some d, .indexAddr t x y, ty, pos, af, g⟩ = some true) (hN : Nat.blt d N = true)
    (hx : ev l x = some (.slice (some ⟨b, o', none⟩) n cp)) (hy : ev l y = some (.int .i64 i)) (h0 : 0 ≤ i) (h1 : i < n)
    (k : WQ P N ds ops w K os ((d, .pointer (some ⟨b, o' + i.toNat * sz, none⟩)) :: l)) :
    WQ P N ds ops w K (⟨some d, .indexAddr t x y, ty, pos, af, g⟩ :: os) l :=
  wq_value rfl hw hN (fun w' hkq a ha => by
    obtain ⟨inf, z, hi, _, hs, _, _, _⟩ := Elem.out (P := P) (e := e)
    have h6 := run_underlying (P := P) (w := w') (TySlice.out (P := P) (t := t))
    simp [execOp, Instr.indexAt, asIntOf, ha.ev hx, ha.ev hy, h6, h0, h1, sizeOf, typeInfo, hi, hs, Addr.add_lit]) k
theorem q_loadN {n : Nat} [TyAgg P t n] {b off : Nat} {c : Array Value} {e : TypeId} {fr : Nat × Nat} {vs : List Value} (hw : want ops l ⟨some d, .load t x, ty, pos, af, g⟩ = some true) (hN : Nat.blt d N = true)
    (hx : ev l x = some (.pointer (some ⟨b, off, none⟩))) (hb : w.heap[b]? = some (.cells c e fr)) (hl : vs.length = n) (hc : ∀ j v, vs[j]? = some v → c[off + j]? = some v)
    (k : WQ P N ds ops w K os ((d, .agg vs.toArray) :: l)) : WQ P N ds ops w K (⟨some d, .load t x, ty, pos, af, g⟩ :: os) l :=
  wq_value rfl hw hN (fun w' hkq a ha => by
    obtain ⟨dd, i, h1, h2, h3, h4⟩ := TyAgg.out (P := P) (t := t)
    have h5 := run_loadCells_list (P := P) w' ⟨b, off, none⟩ vs (fun j v hv => by rw [Addr.add_lit]; exact cell_of (hkq.get0 hb) (hc j v hv))
    rw [hl] at h5
    simp [execOp, Instr.loadAt, Instr.sureAddr, loadVar, run_isAgg h1, h2, ha.ev hx, sizeOf, typeInfo, h3, h4, h5]) k
theorem q_struct {places : List (Nat × Nat)} {zero : List Value} [StructT P t places zero] {ps : List (Nat × Operand)} {vs : List (Nat × Value)} {r : List Value}
    (hw : want ops l ⟨some d, .build t ps.toArray, ty, pos, af, g⟩ = some true) (hN : Nat.blt d N = true)
    (hx : evp l ps = some vs) (hr : bld places zero vs = some r) (k : WQ P N ds ops w K os ((d, .agg r.toArray) :: l)) :
    WQ P N ds ops w K (⟨some d, .build t ps.toArray, ty, pos, af, g⟩ :: os) l :=
  wq_value rfl hw hN (fun w' hkq a ha => by
    have e1 := ha.evp hx
    obtain ⟨fs, h1, h2, h3⟩ := StructT.out (P := P) (t := t)
    have h4 := run_underlying (P := P) (w := w') h1
    have h5 := run_places (P := P) w' _ _ h2
    have h6 := fill_bld places vs zero r hr
    simp only [bind_pure_comp] at h5
    simp only [List.getElem?_toArray] at h6
    cases hi : P.info? t with
    | none => simp [hi] at h3
    | some i =>
      simp only [hi, Option.bind_some] at h3
      simp [execOp, Instr.build, e1, zeroValue, typeInfo, hi, h3, h4, Array.mapM_eq_mapM_toList, h5, Value.cells, h6]) k
theorem q_nilCheck {p : Addr} (hw : want ops l ⟨some d, .nilCheck x, ty, pos, af, g⟩ = some true) (hN : Nat.blt d N = true)
    (hx : ev l x = some (.pointer (some p))) (k : WQ P N ds ops w K os ((d, .pointer (some p)) :: l)) : WQ P N ds ops w K (⟨some d, .nilCheck x, ty, pos, af, g⟩ :: os) l :=
  wq_value rfl hw hN (fun w' hkq c hc => by simp [execOp, hc.ev hx]) k
end
end Go.Fw
end
