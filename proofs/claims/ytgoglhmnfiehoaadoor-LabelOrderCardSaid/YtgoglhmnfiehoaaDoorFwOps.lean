/- Own work: the executor's rules, operation by operation. -/
import Derived.Test.YtgoglhmnfiehoaaDoorFw
namespace Go.Fw
open Go

/-- is the operation carried out? none: that is not known. -/
def want (ops : Array Oper) (l : Log) (o : Oper) : Option Bool :=
  match o.guard with
  | none => some true
  | some (j, b) => match (ops[j]?).bind (·.dst) with
    | none => some false
    | some t => match lk l t with
      | some (.bool x) => some (x == b)
      | some (.tuple _) => some false
      | _ => none

section
variable {P : Program} {N : Nat} {ds : List Deferred} {Q : Exit → Act → World → Prop} {l l' : Log} {w w' : World} {ops : Array Oper} {os : List Oper} {o : Oper}

theorem want_spec {a : Act} (h : Fits N ds l a) {b : Bool} (hw : want ops l o = some b) : Region.wanted o (yielded ops a.tmps) = b := by
  unfold want at hw
  unfold Region.wanted yielded
  split at hw
  · rename_i hg; simp only [Option.some.injEq] at hw; simp [hg, ← hw]
  · rename_i j c hg
    simp only [hg]
    split at hw
    · rename_i hj; simp only [Option.some.injEq] at hw; simp [hj, ← hw]
    · rename_i t hj
      simp only [hj, Option.bind_some]
      split at hw
      · rename_i x hx
        simp only [Option.some.injEq] at hw
        simp [h.vals _ _ hx, ← hw]
      · rename_i x hx
        simp only [Option.some.injEq] at hw
        simp [h.vals _ _ hx, ← hw]
      · cases hw

theorem wl_op (hw : want ops l o = some true) (h : ∀ a, Fits N ds l a → o.wp P a w (fun a' w' => wpList P ops Q os a' w') Q) : WL P N ds ops Q (o :: os) l w :=
  ⟨fun a ha => by
    unfold wpList
    rw [want_spec ha hw]
    exact .inl (h a ha)⟩

theorem wl_value {d : Nat} {v : Value} (hd : o.dst = some d) (hw : want ops l o = some true) (hN : Nat.blt d N = true)
    (hrun : ∀ a, Fits N ds l a → (execOp a.eval o).run P w = .ok (.value v) w')
    (k : WL P N ds ops Q os ((d, v) :: l) w') : WL P N ds ops Q (o :: os) l w :=
  wl_op hw fun a ha => by
    unfold Oper.wp
    rw [hrun a ha, Oper.upon_value, hd]
    exact k.run _ (ha.put hN v)

theorem wl_skip {d : Nat} (hd : o.dst = some d) (hw : want ops l o = some false) (hN : Nat.blt d N = true)
    (k : WL P N ds ops Q os ((d, undef) :: l) w) : WL P N ds ops Q (o :: os) l w := ⟨fun a ha => by
  unfold wpList
  rw [want_spec ha hw, hd]
  exact k.run _ (ha.put hN _)⟩

/-- the guard's bool is parted. -/
theorem wl_split {j : Nat} {b : Bool} {c : Bool} {t : Nat} (_hg : o.guard = some (j, c)) (_ht : (ops[j]?).bind (·.dst) = some t) (hb : lk l t = some (.bool b))
    (h1 : b = true → WL P N ds ops Q (o :: os) ((t, .bool true) :: l) w) (h0 : b = false → WL P N ds ops Q (o :: os) ((t, .bool false) :: l) w) :
    WL P N ds ops Q (o :: os) l w := by
  have key : ∀ c, b = c → WL P N ds ops Q (o :: os) ((t, .bool c) :: l) w → WL P N ds ops Q (o :: os) l w := fun c e h => ⟨fun a ha => by
    subst e
    refine h.run a ⟨ha.size, ha.defs, fun s v hv => ?_⟩
    simp only [lk] at hv
    cases hs : Nat.beq s t with
    | true => rw [hs] at hv; have := Nat.eq_of_beq_eq_true hs; subst this; simp at hv; subst hv; exact ha.vals _ _ hb
    | false => rw [hs] at hv; exact ha.vals _ _ (by simpa using hv)⟩
  cases hb' : b with
  | true => exact key true hb' (h1 hb')
  | false => exact key false hb' (h0 hb')

theorem wl_split_dec {j : Nat} {p : Prop} [Decidable p] {c : Bool} {t : Nat} (hg : o.guard = some (j, c)) (ht : (ops[j]?).bind (·.dst) = some t) (hb : lk l t = some (.bool (decide p)))
    (h1 : p → WL P N ds ops Q (o :: os) ((t, .bool true) :: l) w) (h0 : ¬ p → WL P N ds ops Q (o :: os) ((t, .bool false) :: l) w) :
    WL P N ds ops Q (o :: os) l w :=
  wl_split hg ht hb (fun h => h1 (of_decide_eq_true h)) (fun h => h0 (of_decide_eq_false h))
theorem wc_cond_dec {c : Operand} {x y : Code} {p : Prop} [Decidable p] (hc : ev l c = some (.bool (decide p))) (ht : p → WC P N ds x Q l w) (hf : ¬ p → WC P N ds y Q l w) :
    WC P N ds (.cond c x y) Q l w := wc_cond hc (fun h => ht (of_decide_eq_true h)) (fun h => hf (of_decide_eq_false h))

variable {d : Nat} {ty : TypeId} {pos : String} {af : Array Edge} {g : Option (Nat × Bool)}

theorem op_move {x : Operand} {v : Value} (hw : want ops l ⟨some d, .move x, ty, pos, af, g⟩ = some true) (hN : Nat.blt d N = true) (hx : ev l x = some v)
    (k : WL P N ds ops Q os ((d, v) :: l) w) : WL P N ds ops Q (⟨some d, .move x, ty, pos, af, g⟩ :: os) l w :=
  wl_value rfl hw hN (fun a ha => by simp [execOp, ha.ev hx]) k
theorem op_assign {x : Operand} {v : Value} (hw : want ops l ⟨some d, .assign x, ty, pos, af, g⟩ = some true) (hN : Nat.blt d N = true) (hx : ev l x = some v)
    (k : WL P N ds ops Q os ((d, v) :: l) w) : WL P N ds ops Q (⟨some d, .assign x, ty, pos, af, g⟩ :: os) l w :=
  wl_value rfl hw hN (fun a ha => by simp [execOp, ha.ev hx]) k
theorem op_pick_true {c x y : Operand} {v : Value} (hw : want ops l ⟨some d, .pick c x y, ty, pos, af, g⟩ = some true) (hN : Nat.blt d N = true)
    (hc : ev l c = some (.bool true)) (hx : ev l x = some v) (k : WL P N ds ops Q os ((d, v) :: l) w) : WL P N ds ops Q (⟨some d, .pick c x y, ty, pos, af, g⟩ :: os) l w :=
  wl_value rfl hw hN (fun a ha => by simp [execOp, ha.ev hc, ha.ev hx, asBool]) k
theorem op_pick_false {c x y : Operand} {v : Value} (hw : want ops l ⟨some d, .pick c x y, ty, pos, af, g⟩ = some true) (hN : Nat.blt d N = true)
    (hc : ev l c = some (.bool false)) (hy : ev l y = some v) (k : WL P N ds ops Q os ((d, v) :: l) w) : WL P N ds ops Q (⟨some d, .pick c x y, ty, pos, af, g⟩ :: os) l w :=
  wl_value rfl hw hN (fun a ha => by simp [execOp, ha.ev hc, ha.ev hy, asBool]) k

theorem beq_dec {α : Type} [BEq α] [LawfulBEq α] [DecidableEq α] (a b : α) : (a == b) = decide (a = b) := by rw [Bool.eq_iff_iff]; simp
/-! ints: comparisons -/
section
variable {t t' : TypeId} {x y : Operand} {ik : IntKind}
theorem op_lss {a b : Int} (hw : want ops l ⟨some d, .binOp .lss t x y t', ty, pos, af, g⟩ = some true) (hN : Nat.blt d N = true) (hx : ev l x = some (.int ik a)) (hy : ev l y = some (.int ik b))
    (k : WL P N ds ops Q os ((d, .bool (decide (a < b))) :: l) w) : WL P N ds ops Q (⟨some d, .binOp .lss t x y t', ty, pos, af, g⟩ :: os) l w :=
  wl_value rfl hw hN (fun c hc => by simp [execOp, hc.ev hx, hc.ev hy, eqGuard, binOp, Op.intCmp]) k
theorem op_leq {a b : Int} (hw : want ops l ⟨some d, .binOp .leq t x y t', ty, pos, af, g⟩ = some true) (hN : Nat.blt d N = true) (hx : ev l x = some (.int ik a)) (hy : ev l y = some (.int ik b))
    (k : WL P N ds ops Q os ((d, .bool (decide (a ≤ b))) :: l) w) : WL P N ds ops Q (⟨some d, .binOp .leq t x y t', ty, pos, af, g⟩ :: os) l w :=
  wl_value rfl hw hN (fun c hc => by simp [execOp, hc.ev hx, hc.ev hy, eqGuard, binOp, Op.intCmp]) k
theorem op_gtr {a b : Int} (hw : want ops l ⟨some d, .binOp .gtr t x y t', ty, pos, af, g⟩ = some true) (hN : Nat.blt d N = true) (hx : ev l x = some (.int ik a)) (hy : ev l y = some (.int ik b))
    (k : WL P N ds ops Q os ((d, .bool (decide (b < a))) :: l) w) : WL P N ds ops Q (⟨some d, .binOp .gtr t x y t', ty, pos, af, g⟩ :: os) l w :=
  wl_value rfl hw hN (fun c hc => by simp [execOp, hc.ev hx, hc.ev hy, eqGuard, binOp, Op.intCmp]) k
theorem op_geq {a b : Int} (hw : want ops l ⟨some d, .binOp .geq t x y t', ty, pos, af, g⟩ = some true) (hN : Nat.blt d N = true) (hx : ev l x = some (.int ik a)) (hy : ev l y = some (.int ik b))
    (k : WL P N ds ops Q os ((d, .bool (decide (b ≤ a))) :: l) w) : WL P N ds ops Q (⟨some d, .binOp .geq t x y t', ty, pos, af, g⟩ :: os) l w :=
  wl_value rfl hw hN (fun c hc => by simp [execOp, hc.ev hx, hc.ev hy, eqGuard, binOp, Op.intCmp]) k
theorem op_eql {a b : Int} (hw : want ops l ⟨some d, .binOp .eql t x y t', ty, pos, af, g⟩ = some true) (hN : Nat.blt d N = true) (hx : ev l x = some (.int ik a)) (hy : ev l y = some (.int ik b))
    (k : WL P N ds ops Q os ((d, .bool (decide (a = b))) :: l) w) : WL P N ds ops Q (⟨some d, .binOp .eql t x y t', ty, pos, af, g⟩ :: os) l w :=
  wl_value rfl hw hN (fun c hc => by simp [execOp, hc.ev hx, hc.ev hy, eqGuard, binOp, Op.intCmp, beq_dec]) k
theorem op_neq {a b : Int} (hw : want ops l ⟨some d, .binOp .neq t x y t', ty, pos, af, g⟩ = some true) (hN : Nat.blt d N = true) (hx : ev l x = some (.int ik a)) (hy : ev l y = some (.int ik b))
    (k : WL P N ds ops Q os ((d, .bool (decide (a ≠ b))) :: l) w) : WL P N ds ops Q (⟨some d, .binOp .neq t x y t', ty, pos, af, g⟩ :: os) l w :=
  wl_value rfl hw hN (fun c hc => by simp [execOp, hc.ev hx, hc.ev hy, eqGuard, binOp, Op.intCmp, beq_dec, bne]) k
end
end
end Go.Fw
