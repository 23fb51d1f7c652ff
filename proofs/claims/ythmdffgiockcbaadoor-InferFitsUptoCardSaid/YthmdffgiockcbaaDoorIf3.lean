/- Own work: texts FwQuiet, FwInt, FwQ, one behind the other. -/
import Derived.Test.YthmdffgiockcbaaDoorIf2
import Derived.Deep.Quiet
import Derived.StillTail
section
namespace Go.Fw
open Go
section
variable {P : Program} {ops : Array Oper} {md : Region.Mode} {C : World → Prop}

def anyHead (P : Program) (md : Region.Mode) (ops : Array Oper) (C : World → Prop) (n : Nat) (L : Array Bool → Act → Prop) : Nat → Array Bool → Act → Prop
  | 0, listed, a => L listed a
  | f + 1, listed, a => Region.ready md ops listed ≠ [] ∧ ∀ i ∈ Region.ready md ops listed, i < n ∧ qOp P ops C i (anyHead P md ops C n L f (listed.setIfInBounds i true)) a

theorem any_of_head {n g : Nat} {L : Array Bool → Act → Prop} {Q' : Exit → Act → World → Prop} (hL : ∀ listed a w, C w → L listed a → wpAny P md ops Q' g listed a w) :
    ∀ (f : Nat) (listed : Array Bool) (a : Act) (w : World), C w → anyHead P md ops C n L f listed a → wpAny P md ops Q' (f + g) listed a w
  | 0, listed, a, w, hw, h => by rw [Nat.zero_add]; exact hL _ _ _ hw h
  | f + 1, listed, a, w, hw, h => by
    rw [show f + 1 + g = (f + g) + 1 by omega]
    exact ⟨fun h0 => absurd h0 h.1, fun i hi => wpOp_of_qOp hw (fun a' w' hw' h' => any_of_head hL f _ a' w' hw' h') (h.2 i hi).2⟩

theorem anyHead_first {n i : Nat} {oi : Oper} {v : Value} {L : Array Bool → Act → Prop} (hi : ops[i]? = some oi) (hsel : ∀ (j : Nat) (o : Oper) cs b, ops[j]? = some o → o.op ≠ .select cs b)
    (hs : Region.sinkB md ops n = true) (hc : Region.chainB md ops n = true) (hn : n < ops.size) (hin : i < n)
    (hdone : ∀ listed a, L listed a → ∀ j ∈ Region.ready md ops listed, n ≤ j) :
    ∀ (f : Nat) (listed : Array Bool) (a : Act), HeadInv md ops n listed →
      (∀ j oj, ops[j]? = some oj → j ≠ i → listed.getD j true = false → (∀ e ∈ oj.after, Region.binds md e = true → e.on ≠ i) → oi.apart ops oj = true) →
      i ∈ Region.ready md ops listed → YieldsIn P ops C oi v a →
      anyHead P md ops C n L f (listed.setIfInBounds i true) (a.put oi.dst v) → anyHead P md ops C n L (f + 1) listed a := by
  intro f
  induction f with
  | zero =>
    intro listed a inv _ hr hy H
    have hun := (mem_ready.1 hr).1
    refine ⟨fun h => (by rw [h] at hr; cases hr), fun j hj => ?_⟩
    have hjn : j < n := by
      rcases Nat.lt_or_ge j n with h | h
      · exact h
      · exact absurd hj (tail_waits hs hc hn inv _ i rfl hin hun j h)
    refine ⟨hjn, ?_⟩
    by_cases hji : j = i
    · subst hji; exact hy.qOp hi H
    · have := hdone _ _ H j (ready_mono hj hji)
      omega
  | succ f ih =>
    intro listed a inv hfree hr hy H
    have hun := (mem_ready.1 hr).1
    refine ⟨fun h => (by rw [h] at hr; cases hr), fun j hj => ?_⟩
    have hjn : j < n := by
      rcases Nat.lt_or_ge j n with h | h
      · exact h
      · exact absurd hj (tail_waits hs hc hn inv _ i rfl hin hun j h)
    refine ⟨hjn, ?_⟩
    by_cases hji : j = i
    · subst hji; exact hy.qOp hi H
    · have h1 := (H.2 j (ready_mono hj hji)).2
      obtain ⟨hjun, oj, hoj, hall⟩ := mem_ready.1 hj
      have hnot : ∀ e ∈ oj.after, Region.binds md e = true → e.on ≠ i := fun e he hb heq => by
        have h1 := hall e he hb
        rw [heq, getD_both hun] at h1
        cases h1
      have h2 := qOp_put hoj (hfree j oj hoj hji hjun hnot) (fun cs b => hsel i oi cs b hi) (fun cs b => hsel j oj cs b hoj) hy h1
      have hfree' : ∀ k ok, ops[k]? = some ok → k ≠ i → (listed.setIfInBounds j true).getD k true = false →
          (∀ e ∈ ok.after, Region.binds md e = true → e.on ≠ i) → oi.apart ops ok = true := fun k ok hk hki hun hno => by
        refine hfree k ok hk hki ?_ hno
        by_cases hjk : j = k
        · subst hjk; exact hjun
        · rw [getD_set_ne true hjk] at hun; exact hun
      refine qOp_mono (fun a' h3 => ih (listed.setIfInBounds j true) a' (inv.set hj hjn) hfree' (ready_mono hr (Ne.symm hji)) h3.1 ?_) h2
      rw [Array.setIfInBounds_comm _ _ hji]
      exact h3.2

theorem anyHead_lex {n g : Nat} {Lq : Act → Prop} (hsel : Region.noSelect ops = true) (hs : Region.sinkB md ops n = true) (hc : Region.chainB md ops n = true) (hn : n < ops.size) :
    ∀ (l : List Oper) (k : Nat) (listed : Array Bool) (a : Act), (∀ j, j < l.length → l[j]? = ops[k + j]?) → k + l.length = n → HeadInv md ops n listed →
    Region.lexHead md ops g l.length k listed = true → wpQuiet P ops C Lq l a →
    anyHead P md ops C n (fun listed' a' => Region.seqB md ops g n listed' = true ∧ Lq a') l.length listed a
  | [], k, listed, a, _, hk, _, hB, h => by
    have : k = n := by simpa using hk
    subst this
    exact ⟨by simpa [Region.lexHead] using hB, h⟩
  | o :: l, k, listed, a, hl, hk, inv, hB, h => by
    have h0 : ops[k]? = some o := by simpa using (hl 0 (by simp)).symm
    simp only [List.length_cons, Region.lexHead, Bool.and_eq_true] at hB
    obtain ⟨⟨hr, hf⟩, hB'⟩ := hB
    have hkn : k < n := by simp only [List.length_cons] at hk; omega
    have hr' : k ∈ Region.ready md ops listed := by simpa using hr
    have hst : qOp P ops C k (wpQuiet P ops C Lq l) a := by unfold qOp; simp only [h0]; exact h
    obtain ⟨v, hy, hK⟩ := yieldsIn_of_qOp h0 hst
    exact anyHead_first h0 (Region.noSelect_spec hsel) hs hc hn hkn (fun listed' a' hL => seqB_ready hL.1) l.length listed a inv (Region.free_spec h0 hf) hr' hy
      (anyHead_lex hsel hs hc hn l (k + 1) _ _ (fun j hj => by have := hl (j + 1) (by simp; omega); simpa [Nat.add_assoc, Nat.add_comm 1 j] using this) (by simp only [List.length_cons] at hk; omega) (inv.set hr' hkn) hB' hK)

theorem wp_region_quiet_tail {id : Nat} {Q : Exit → Act → World → Prop} {a : Act} {w : World} {l : List Oper} (n : Nat) (hm : P.follows .mixedOrders = true) (hB : Region.lexTailB .any l.toArray n = true)
    (hC : C { w with drawn := w.drawn + 1 })
    (h : wpQuiet P l.toArray C (fun a' => ∀ w', C w' → wpList P l.toArray Q (l.drop n) a' w') (l.take n) a) : (Code.region id l.toArray true).wp P Q a w := by
  simp only [Region.lexTailB, Bool.and_eq_true, decide_eq_true_eq] at hB
  obtain ⟨⟨⟨⟨hsel, hn⟩, hs⟩, hc⟩, hlex⟩ := hB
  have hn' : n < l.length := by simpa using hn
  have htl : (l.take n).length = n := by simp; omega
  have hdl : (l.drop n).length = l.toArray.size - n := by simp
  have inv0 : HeadInv .any l.toArray n (Array.replicate l.toArray.size false) :=
    ⟨by simp, fun j oj _ hl => (by rw [getD_replicate_false] at hl; cases hl), fun t _ ht => getD_in (by simpa using ht) (getD_replicate_false _ _)⟩
  have H := anyHead_lex (md := .any) (g := l.toArray.size - n) hsel hs hc hn (l.take n) 0 _ a (fun j hj => by
    have hj' : j < n := by rw [htl] at hj; exact hj
    simp [hj']) (by simpa using htl) inv0 (by rw [htl]; exact hlex) h
  refine wp_region_any hm ?_
  have := any_of_head (Q' := Q) (g := l.toArray.size - n) (fun listed a' w' hw' hL => by
    have := wpAny_of_seq (md := .any) (Q' := Q) (l.drop n) n listed a' w' (fun j => by simp [List.getElem?_drop]) (by rw [hdl]; exact hL.1) (hL.2 w' hw')
    rwa [hdl] at this) _ _ _ _ hC H
  rw [htl, show n + (l.toArray.size - n) = l.toArray.size by omega] at this
  exact this
end

/-! The executor's own form: quiet operations, from frames of which 'l' is known, in whatever world keeps what 'w' has. -/
section
variable {P : Program} {N : Nat} {ds : List Deferred} {K : Act → World → Prop} {Q : Exit → Act → World → Prop} {l l' : Log} {w w' : World} {ops : Array Oper} {os : List Oper} {o : Oper}

structure WQ (P : Program) (N : Nat) (ds : List Deferred) (ops : Array Oper) (w : World) (K : Act → World → Prop) (os : List Oper) (l : Log) : Prop where
  run : ∀ a, Fits N ds l a → wpQuiet P ops (fun w' => Kept [] w w') (fun a' => ∀ w', Kept [] w w' → K a' w') os a

class Mixed (P : Program) : Prop where out : P.follows .mixedOrders = true

/-- a region that draws, all of it quiet. -/
theorem wc_quiet [Mixed P] {id : Nat} {os : List Oper} (hB : Region.lexB .any os.toArray = true := by kernel_rfl)
    (h : WQ P N ds os.toArray w (fun a' w' => Q .normal a' w') os l) : WC P N ds (.region id os.toArray true) Q l w :=
  ⟨fun a ha => wp_region_quiet (C := fun w' => Kept [] w w') Mixed.out hB (Kept.drew w) (by simpa using h.run a ha)⟩
/-- a region that draws, of which the first 'n' are quiet, and the others come in turn. -/
theorem wc_quiet_tail [Mixed P] {id : Nat} {os : List Oper} (n : Nat) (hB : Region.lexTailB .any os.toArray n = true := by kernel_rfl)
    (h : WQ P N ds os.toArray w (fun a' w' => wpList P os.toArray Q (os.drop n) a' w') (os.take n) l) : WC P N ds (.region id os.toArray true) Q l w :=
  ⟨fun a ha => wp_region_quiet_tail n Mixed.out hB (Kept.drew w) (h.run a ha)⟩

theorem wq_nil_tail {os' : List Oper} (h : ∀ w', Kept [] w w' → WL P N ds ops Q os' l w') : WQ P N ds ops w (fun a' w' => wpList P ops Q os' a' w') [] l :=
  ⟨fun a ha => wpQuiet_nil (fun w' hw => (h w' hw).run a ha)⟩
theorem wq_nil (h : ∀ w', Kept [] w w' → At N ds Q .normal l w') : WQ P N ds ops w (fun a' w' => Q .normal a' w') [] l :=
  ⟨fun a ha => wpQuiet_nil (fun w' hw => (h w' hw).run a ha)⟩

theorem wq_value {d : Nat} {v : Value} (hd : o.dst = some d) (hw : want ops l o = some true) (hN : Nat.blt d N = true)
    (hrun : ∀ w', Kept [] w w' → ∀ a, Fits N ds l a → (execOp a.eval o).run P w' = .ok (.value v) w')
    (k : WQ P N ds ops w K os ((d, v) :: l)) : WQ P N ds ops w K (o :: os) l :=
  ⟨fun a ha => by
    unfold wpQuiet
    rw [want_spec ha hw]
    refine ⟨v, fun w' hw' => ?_, by rw [hd]; exact k.run _ (ha.put hN v)⟩
    unfold Oper.quietAt
    rw [hrun w' hw' a ha]
    exact ⟨rfl, rfl⟩⟩
theorem wq_skip {d : Nat} (hd : o.dst = some d := by rfl) (hw : want ops l o = some false := by rfl) (hN : Nat.blt d N = true := by rfl)
    (k : WQ P N ds ops w K os ((d, undef) :: l)) : WQ P N ds ops w K (o :: os) l := ⟨fun a ha => by
  unfold wpQuiet
  rw [want_spec ha hw, hd]
  exact k.run _ (ha.put hN _)⟩
theorem wq_split {j : Nat} {b : Bool} {c : Bool} {t : Nat} (_hg : o.guard = some (j, c) := by rfl) (_ht : (ops[j]?).bind (·.dst) = some t := by rfl) (hb : lk l t = some (.bool b) := by rfl)
    (h1 : b = true → WQ P N ds ops w K (o :: os) ((t, .bool true) :: l)) (h0 : b = false → WQ P N ds ops w K (o :: os) ((t, .bool false) :: l)) :
    WQ P N ds ops w K (o :: os) l := by
  have key : ∀ c, b = c → WQ P N ds ops w K (o :: os) ((t, .bool c) :: l) → WQ P N ds ops w K (o :: os) l := fun c e h => ⟨fun a ha => by
    subst e
    refine h.run a ⟨ha.size, ha.defs, fun s v hv => ?_⟩
    simp only [lk] at hv
    cases hs : Nat.beq s t with
    | true => rw [hs] at hv; have := Nat.eq_of_beq_eq_true hs; subst this; simp at hv; subst hv; exact ha.vals _ _ hb
    | false => rw [hs] at hv; exact ha.vals _ _ (by simpa using hv)⟩
  cases hb' : b with
  | true => exact key true hb' (h1 hb')
  | false => exact key false hb' (h0 hb')
theorem wq_split_dec {j : Nat} {p : Prop} [Decidable p] {c : Bool} {t : Nat} (hg : o.guard = some (j, c) := by rfl) (ht : (ops[j]?).bind (·.dst) = some t := by rfl) (hb : lk l t = some (.bool (decide p)) := by rfl)
    (h1 : p → WQ P N ds ops w K (o :: os) ((t, .bool true) :: l)) (h0 : ¬ p → WQ P N ds ops w K (o :: os) ((t, .bool false) :: l)) :
    WQ P N ds ops w K (o :: os) l :=
  wq_split hg ht hb (fun h => h1 (of_decide_eq_true h)) (fun h => h0 (of_decide_eq_false h))
/-- a call that hands back one value, and keeps what was there. -/
theorem wq_enter {d : Nat} {v : Value} {f : FuncId} {args : Array Value} (hd : o.dst = some d) (hw : want ops l o = some true) (hN : Nat.blt d N = true)
    (hrun : ∀ w' a, Fits N ds l a → (execOp a.eval o).run P w' = .ok (.enter f args) w')
    (hc : ∀ w', Kept [] w w' → Cal P f args w' (fun u w'' => u = v ∧ Kept [] w' w''))
    (k : WQ P N ds ops w K os ((d, v) :: l)) : WQ P N ds ops w K (o :: os) l :=
  ⟨fun a ha => by
    unfold wpQuiet
    rw [want_spec ha hw]
    refine ⟨v, fun w' hw' => ?_, by rw [hd]; exact k.run _ (ha.put hN v)⟩
    unfold Oper.quietAt
    rw [hrun w' a ha]
    refine ⟨rfl, Calls.mono (hc w' hw').run (fun e w2 q => ?_)⟩
    cases e with
    | returned u => exact ⟨by rw [q.1], hw'.trans q.2⟩
    | panicked c => exact q.elim
    | outgrown => exact q.elim⟩
end
end Go.Fw
end
section
namespace Go.Fw
open Go
class TyInt (P : Program) (t : TypeId) (k : outParam IntKind) : Prop where out : P.underlying t = some (.int k)
class TyArr (P : Program) (t : TypeId) (n : outParam Nat) (e : outParam TypeId) : Prop where out : P.underlying t = some (.array n e)
section
variable {P : Program} {N : Nat} {ds : List Deferred} {Q : Exit → Act → World → Prop} {l l' : Log} {w w' : World} {ops : Array Oper} {os : List Oper} {o : Oper}
variable {d : Nat} {ty : TypeId} {pos : String} {af : Array Edge} {g : Option (Nat × Bool)} {t t' : TypeId} {x y : Operand} {ik : IntKind}

/-- field 'i' of a struct type: one cell, so many cells in. -/
class Fld1 (P : Program) (t : TypeId) (i : Nat) (off : outParam Nat) : Prop where
  out : ∃ fs f dd, P.underlying t = some (.struct fs) ∧ fs[i]? = some f ∧ f.offset = off ∧ P.underlying f.type = some dd ∧ isAggD dd = false
def fld1B (P : Program) (t : TypeId) (i off : Nat) : Bool := match P.underlying t with
  | some (.struct fs) => match fs[i]? with
    | some f => f.offset == off && (match P.underlying f.type with | some dd => !isAggD dd | none => false)
    | none => false
  | _ => false
theorem Fld1.of {P : Program} {t : TypeId} {i off : Nat} (h : fld1B P t i off = true) : Fld1 P t i off := by
  unfold fld1B at h
  split at h
  · rename_i fs hd
    split at h
    · rename_i f hf
      simp only [Bool.and_eq_true, beq_iff_eq] at h
      obtain ⟨h1, h2⟩ := h
      split at h2
      · rename_i dd hdd; exact ⟨fs, f, dd, hd, hf, h1, hdd, by simpa using h2⟩
      · cases h2
    · cases h
  · cases h
theorem op_nilCheck {p : Addr} (hw : want ops l ⟨some d, .nilCheck x, ty, pos, af, g⟩ = some true := by rfl) (hN : Nat.blt d N = true := by rfl)
    (hx : ev l x = some (.pointer (some p)) := by rfl) (k : WL P N ds ops Q os ((d, .pointer (some p)) :: l) w) : WL P N ds ops Q (⟨some d, .nilCheck x, ty, pos, af, g⟩ :: os) l w :=
  wl_value rfl hw hN (fun c hc => by simp [execOp, hc.ev hx]) k
theorem op_sub_u8 {a b : Int} (hw : want ops l ⟨some d, .binOp .sub t x y t', ty, pos, af, g⟩ = some true := by rfl) (hN : Nat.blt d N = true := by rfl)
    (hx : ev l x = some (.int .u8 a) := by rfl) (hy : ev l y = some (.int .u8 b) := by rfl) (h : 0 ≤ a - b ∧ a - b ≤ 255 := by omega)
    (k : WL P N ds ops Q os ((d, .int .u8 (a - b)) :: l) w) : WL P N ds ops Q (⟨some d, .binOp .sub t x y t', ty, pos, af, g⟩ :: os) l w :=
  wl_value rfl hw hN (fun c hc => by simp [execOp, hc.ev hx, hc.ev hy, eqGuard, binOp, Op.intArith, IntWalk.u8_in _ h]) k

theorem bits_nat {a : Int} (h : 0 ≤ a ∧ a ≤ 9223372036854775807) : (BitVec.ofInt 64 a).toNat = a.toNat := by
  rw [BitVec.toNat_ofInt, Int.emod_eq_of_lt h.1 (by have : ((2 ^ 64 : Nat) : Int) = 18446744073709551616 := by decide
                                                    omega)]
theorem op_and {a b : Int} (hw : want ops l ⟨some d, .binOp .and t x y t', ty, pos, af, g⟩ = some true := by rfl) (hN : Nat.blt d N = true := by rfl)
    (hx : ev l x = some (.int .i64 a) := by rfl) (hy : ev l y = some (.int .i64 b) := by rfl) (h : 0 ≤ a ∧ a ≤ 9223372036854775807 := by omega) (h' : 0 ≤ b ∧ b ≤ 9223372036854775807 := by omega)
    (k : WL P N ds ops Q os ((d, .int .i64 ((a.toNat &&& b.toNat : Nat) : Int)) :: l) w) : WL P N ds ops Q (⟨some d, .binOp .and t x y t', ty, pos, af, g⟩ :: os) l w :=
  wl_value rfl hw hN (fun c hc => by
    have h1 : a.toNat &&& b.toNat ≤ a.toNat := Nat.and_le_left
    have h2 : (BitVec.ofInt IntKind.i64.bits a &&& BitVec.ofInt IntKind.i64.bits b).toNat = a.toNat &&& b.toNat := by
      rw [BitVec.toNat_and]; exact congr (congrArg _ (bits_nat h)) (bits_nat h')
    simp only [execOp, hc.ev hx, hc.ev hy, eqGuard, binOp, Op.intBits, h2, IntWalk.i64_in ((a.toNat &&& b.toNat : Nat) : Int) (by omega)]
    simp) k
theorem op_or {a b : Int} (hw : want ops l ⟨some d, .binOp .or t x y t', ty, pos, af, g⟩ = some true := by rfl) (hN : Nat.blt d N = true := by rfl)
    (hx : ev l x = some (.int .i64 a) := by rfl) (hy : ev l y = some (.int .i64 b) := by rfl) (h : 0 ≤ a ∧ a < 4294967296 := by omega) (h' : 0 ≤ b ∧ b < 4294967296 := by omega)
    (k : WL P N ds ops Q os ((d, .int .i64 ((a.toNat ||| b.toNat : Nat) : Int)) :: l) w) : WL P N ds ops Q (⟨some d, .binOp .or t x y t', ty, pos, af, g⟩ :: os) l w :=
  wl_value rfl hw hN (fun c hc => by
    have h1 : a.toNat ||| b.toNat < 2 ^ 32 := Nat.or_lt_two_pow (by omega) (by omega)
    have h2 : (BitVec.ofInt IntKind.i64.bits a ||| BitVec.ofInt IntKind.i64.bits b).toNat = a.toNat ||| b.toNat := by
      rw [BitVec.toNat_or]; exact congr (congrArg _ (bits_nat (by omega))) (bits_nat (by omega))
    simp only [execOp, hc.ev hx, hc.ev hy, eqGuard, binOp, Op.intBits, h2, IntWalk.i64_in ((a.toNat ||| b.toNat : Nat) : Int) (by omega)]
    simp) k
theorem op_andNot {a b : Int} (hw : want ops l ⟨some d, .binOp .andNot t x y t', ty, pos, af, g⟩ = some true := by rfl) (hN : Nat.blt d N = true := by rfl)
    (hx : ev l x = some (.int .i64 a) := by rfl) (hy : ev l y = some (.int .i64 b) := by rfl) (h : 0 ≤ a ∧ a ≤ 9223372036854775807 := by omega) (h' : 0 ≤ b ∧ b ≤ 9223372036854775807 := by omega)
    (k : WL P N ds ops Q os ((d, .int .i64 ((a.toNat &&& (2 ^ 64 - 1 - b.toNat) : Nat) : Int)) :: l) w) : WL P N ds ops Q (⟨some d, .binOp .andNot t x y t', ty, pos, af, g⟩ :: os) l w :=
  wl_value rfl hw hN (fun c hc => by
    have h1 : a.toNat &&& (2 ^ 64 - 1 - b.toNat) ≤ a.toNat := Nat.and_le_left
    have h2 : (BitVec.ofInt IntKind.i64.bits a &&& ~~~ BitVec.ofInt IntKind.i64.bits b).toNat = a.toNat &&& (2 ^ 64 - 1 - b.toNat) := by
      rw [BitVec.toNat_and, BitVec.toNat_not]
      exact congr (congrArg _ (bits_nat h)) (congrArg (2 ^ 64 - 1 - ·) (bits_nat h'))
    simp only [execOp, hc.ev hx, hc.ev hy, eqGuard, binOp, Op.intBits, h2, IntWalk.i64_in ((a.toNat &&& (2 ^ 64 - 1 - b.toNat) : Nat) : Int) (by omega)]
    simp) k
theorem op_shl {a b : Int} {yk : IntKind} (hw : want ops l ⟨some d, .binOp .shl t x y t', ty, pos, af, g⟩ = some true := by rfl) (hN : Nat.blt d N = true := by rfl)
    (hx : ev l x = some (.int .i64 a) := by rfl) (hy : ev l y = some (.int yk b) := by rfl) (h : 0 ≤ b ∧ b ≤ 62 := by omega) (h' : 0 ≤ a * 2 ^ b.toNat ∧ a * 2 ^ b.toNat ≤ 9223372036854775807)
    (k : WL P N ds ops Q os ((d, .int .i64 (a * 2 ^ b.toNat)) :: l) w) : WL P N ds ops Q (⟨some d, .binOp .shl t x y t', ty, pos, af, g⟩ :: os) l w :=
  wl_value rfl hw hN (fun c hc => by
    have h1 : min b.toNat IntKind.i64.bits = b.toNat := by simp [IntKind.bits]; omega
    have h2 : ¬ b < 0 := by omega
    simp only [execOp, hc.ev hx, hc.ev hy, eqGuard, binOp, Op.shift, h1, if_neg h2, IntWalk.i64_in (a * 2 ^ b.toNat) (by omega)]
    simp) k
theorem op_shr {a b : Int} {yk : IntKind} (hw : want ops l ⟨some d, .binOp .shr t x y t', ty, pos, af, g⟩ = some true := by rfl) (hN : Nat.blt d N = true := by rfl)
    (hx : ev l x = some (.int .i64 a) := by rfl) (hy : ev l y = some (.int yk b) := by rfl) (h : 0 ≤ b ∧ b ≤ 62 := by omega)
    (k : WL P N ds ops Q os ((d, .int .i64 (a.fdiv (2 ^ b.toNat))) :: l) w) : WL P N ds ops Q (⟨some d, .binOp .shr t x y t', ty, pos, af, g⟩ :: os) l w :=
  wl_value rfl hw hN (fun c hc => by
    have h1 : min b.toNat IntKind.i64.bits = b.toNat := by simp [IntKind.bits]; omega
    have h2 : ¬ b < 0 := by omega
    simp only [execOp, hc.ev hx, hc.ev hy, eqGuard, binOp, Op.shift, h1, if_neg h2]
    simp) k
theorem results_cell {fn : Func} {t : Nat} {tc : TypeId} (h : fn.results = #[.cell t tc]) (tmps : Array Value) (w : World) {b off : Nat} {v : Value} (ht : tmps[t]? = some (.pointer (some ⟨b, off, none⟩)))
    (hv : (loadVar tc ⟨b, off, none⟩).run P w = .ok v w) : (results fn tmps).run P w = .ok v w := by
  simp [results, h, ht, asAddr, hv]
theorem run_loadAgg {t n b off : Nat} [TyAgg P t n] {c : Array Value} {e : TypeId} {fr : Nat × Nat} {vs : List Value}
    (hb : w.heap[b]? = some (.cells c e fr)) (hl : vs.length = n) (hc : ∀ j v, vs[j]? = some v → c[off + j]? = some v) : (loadVar t ⟨b, off, none⟩).run P w = .ok (.agg vs.toArray) w := by
  obtain ⟨dd, i, h1, h2, h3, h4⟩ := TyAgg.out (P := P) (t := t)
  have h5 := run_loadCells_list (P := P) w ⟨b, off, none⟩ vs (fun j v hv => by rw [Addr.add_lit]; exact cell_of hb (hc j v hv))
  rw [hl] at h5
  simp [loadVar, run_isAgg h1, h2, sizeOf, typeInfo, h3, h4, h5]
theorem results_cell2 {fn : Func} {t u : Nat} {tc : TypeId} (h : fn.results = #[.cell t tc, .tmp u]) (tmps : Array Value) (w : World) {b off : Nat} {v x : Value} (ht : tmps[t]? = some (.pointer (some ⟨b, off, none⟩)))
    (hu : tmps[u]? = some x) (hv : (loadVar tc ⟨b, off, none⟩).run P w = .ok v w) : (results fn tmps).run P w = .ok (.tuple #[v, x]) w := by
  simp [results, h, ht, hu, asAddr, hv]
/-- the first of two results stands in a cell. -/
theorem at_ret2_agg {fn : Func} {t u n b off : Nat} {tc : TypeId} [TyAgg P tc n] {c : Array Value} {e : TypeId} {fr : Nat × Nat} {vs : List Value} {xv : Value} {Post : Value → World → Prop} (hr : fn.results = #[.cell t tc, .tmp u])
    (hx : lk l t = some (.pointer (some ⟨b, off, none⟩))) (hu : lk l u = some xv) (hb : w.heap[b]? = some (.cells c e fr)) (hl : vs.length = n) (hc : ∀ j v, vs[j]? = some v → c[off + j]? = some v)
    (h : Post (.tuple #[.agg vs.toArray, xv]) w) : At N [] (bodyPost P fn (Ret Post)) .ret l w :=
  ⟨fun a ha => ⟨ha.defs, _, results_cell2 hr a.tmps w (ha.vals t _ hx) (ha.vals u _ hu) (run_loadAgg hb hl hc), h⟩⟩
/-- the one result stands in a cell: a struct or an array. -/
theorem at_ret_agg {fn : Func} {t n b off : Nat} {tc : TypeId} [TyAgg P tc n] {c : Array Value} {e : TypeId} {fr : Nat × Nat} {vs : List Value} {Post : Value → World → Prop} (hr : fn.results = #[.cell t tc])
    (hx : lk l t = some (.pointer (some ⟨b, off, none⟩))) (hb : w.heap[b]? = some (.cells c e fr)) (hl : vs.length = n) (hc : ∀ j v, vs[j]? = some v → c[off + j]? = some v)
    (h : Post (.agg vs.toArray) w) : At N [] (bodyPost P fn (Ret Post)) .ret l w :=
  ⟨fun a ha => ⟨ha.defs, _, results_cell hr a.tmps w (ha.vals t _ hx) (run_loadAgg hb hl hc), h⟩⟩
end
end Go.Fw
end
section
namespace Go.Fw
open Go
section
variable {P : Program} {N : Nat} {ds : List Deferred} {K : Act → World → Prop} {l l' : Log} {w w' : World} {ops : Array Oper} {os : List Oper} {o : Oper}
variable {d : Nat} {ty : TypeId} {pos : String} {af : Array Edge} {g : Option (Nat × Bool)} {t t' : TypeId} {x y : Operand} {ik : IntKind}

theorem q_move {x : Operand} {v : Value} (hw : want ops l ⟨some d, .move x, ty, pos, af, g⟩ = some true := by rfl) (hN : Nat.blt d N = true := by rfl) (hx : ev l x = some v := by rfl)
    (k : WQ P N ds ops w K os ((d, v) :: l)) : WQ P N ds ops w K (⟨some d, .move x, ty, pos, af, g⟩ :: os) l :=
  wq_value rfl hw hN (fun w' hkq a ha => by simp [execOp, ha.ev hx]) k
theorem q_assign {x : Operand} {v : Value} (hw : want ops l ⟨some d, .assign x, ty, pos, af, g⟩ = some true := by rfl) (hN : Nat.blt d N = true := by rfl) (hx : ev l x = some v := by rfl)
    (k : WQ P N ds ops w K os ((d, v) :: l)) : WQ P N ds ops w K (⟨some d, .assign x, ty, pos, af, g⟩ :: os) l :=
  wq_value rfl hw hN (fun w' hkq a ha => by simp [execOp, ha.ev hx]) k
theorem q_pick_true {c x y : Operand} {v : Value} (hw : want ops l ⟨some d, .pick c x y, ty, pos, af, g⟩ = some true := by rfl) (hN : Nat.blt d N = true := by rfl)
    (hc : ev l c = some (.bool true) := by rfl) (hx : ev l x = some v := by rfl) (k : WQ P N ds ops w K os ((d, v) :: l)) : WQ P N ds ops w K (⟨some d, .pick c x y, ty, pos, af, g⟩ :: os) l :=
  wq_value rfl hw hN (fun w' hkq a ha => by simp [execOp, ha.ev hc, ha.ev hx, asBool]) k
theorem q_pick_false {c x y : Operand} {v : Value} (hw : want ops l ⟨some d, .pick c x y, ty, pos, af, g⟩ = some true := by rfl) (hN : Nat.blt d N = true := by rfl)
    (hc : ev l c = some (.bool false) := by rfl) (hy : ev l y = some v := by rfl) (k : WQ P N ds ops w K os ((d, v) :: l)) : WQ P N ds ops w K (⟨some d, .pick c x y, ty, pos, af, g⟩ :: os) l :=
  wq_value rfl hw hN (fun w' hkq a ha => by simp [execOp, ha.ev hc, ha.ev hy, asBool]) k
theorem q_lss {a b : Int} (hw : want ops l ⟨some d, .binOp .lss t x y t', ty, pos, af, g⟩ = some true := by rfl) (hN : Nat.blt d N = true := by rfl) (hx : ev l x = some (.int ik a) := by rfl) (hy : ev l y = some (.int ik b) := by rfl)
    (k : WQ P N ds ops w K os ((d, .bool (decide (a < b))) :: l)) : WQ P N ds ops w K (⟨some d, .binOp .lss t x y t', ty, pos, af, g⟩ :: os) l :=
  wq_value rfl hw hN (fun w' hkq c hc => by simp [execOp, hc.ev hx, hc.ev hy, eqGuard, binOp, Op.intCmp]) k
theorem q_leq {a b : Int} (hw : want ops l ⟨some d, .binOp .leq t x y t', ty, pos, af, g⟩ = some true := by rfl) (hN : Nat.blt d N = true := by rfl) (hx : ev l x = some (.int ik a) := by rfl) (hy : ev l y = some (.int ik b) := by rfl)
    (k : WQ P N ds ops w K os ((d, .bool (decide (a ≤ b))) :: l)) : WQ P N ds ops w K (⟨some d, .binOp .leq t x y t', ty, pos, af, g⟩ :: os) l :=
  wq_value rfl hw hN (fun w' hkq c hc => by simp [execOp, hc.ev hx, hc.ev hy, eqGuard, binOp, Op.intCmp]) k
theorem q_eql {a b : Int} (hw : want ops l ⟨some d, .binOp .eql t x y t', ty, pos, af, g⟩ = some true := by rfl) (hN : Nat.blt d N = true := by rfl) (hx : ev l x = some (.int ik a) := by rfl) (hy : ev l y = some (.int ik b) := by rfl)
    (k : WQ P N ds ops w K os ((d, .bool (decide (a = b))) :: l)) : WQ P N ds ops w K (⟨some d, .binOp .eql t x y t', ty, pos, af, g⟩ :: os) l :=
  wq_value rfl hw hN (fun w' hkq c hc => by simp [execOp, hc.ev hx, hc.ev hy, eqGuard, binOp, Op.intCmp, beq_dec]) k
theorem q_len_str [TyStr P t] {s : List UInt8} (hw : want ops l ⟨some d, .call ⟨.builtin .len, #[x], #[t]⟩, ty, pos, af, g⟩ = some true := by rfl) (hN : Nat.blt d N = true := by rfl)
    (hx : ev l x = some (str s) := by rfl) (k : WQ P N ds ops w K os ((d, .int .i64 (s.length : Int)) :: l)) :
    WQ P N ds ops w K (⟨some d, .call ⟨.builtin .len, #[x], #[t]⟩, ty, pos, af, g⟩ :: os) l :=
  wq_value rfl hw hN (fun w' hkq a ha => by
    have h1 := run_underlying (P := P) (w := w') (TyStr.out (P := P) (t := t))
    simp [execOp, resolve, invoke, builtin, Builtin.len_, ha.ev hx, h1, goInt, str_size]) k
theorem q_len_slice {e : TypeId} [TySlice P t e] {b : Option Addr} {n c : Nat} (hw : want ops l ⟨some d, .call ⟨.builtin .len, #[x], #[t]⟩, ty, pos, af, g⟩ = some true := by rfl) (hN : Nat.blt d N = true := by rfl)
    (hx : ev l x = some (.slice b n c) := by rfl) (k : WQ P N ds ops w K os ((d, .int .i64 (n : Int)) :: l)) :
    WQ P N ds ops w K (⟨some d, .call ⟨.builtin .len, #[x], #[t]⟩, ty, pos, af, g⟩ :: os) l :=
  wq_value rfl hw hN (fun w' hkq a ha => by
    have h1 := run_underlying (P := P) (w := w') (TySlice.out (P := P) (t := t))
    simp [execOp, resolve, invoke, builtin, Builtin.len_, ha.ev hx, h1, goInt]) k
theorem q_slice_str [TyStr P t] {s : List UInt8} {z : Operand} {a b : Int} (hw : want ops l ⟨some d, .slice t x (some y) (some z) none, ty, pos, af, g⟩ = some true := by rfl) (hN : Nat.blt d N = true := by rfl)
    (hx : ev l x = some (str s) := by rfl) (hy : ev l y = some (.int .i64 a) := by rfl) (hz : ev l z = some (.int .i64 b) := by rfl) (h0 : 0 ≤ a ∧ a ≤ b ∧ b ≤ s.length := by omega)
    (k : WQ P N ds ops w K os ((d, str ((s.drop a.toNat).take (b.toNat - a.toNat))) :: l)) :
    WQ P N ds ops w K (⟨some d, .slice t x (some y) (some z) none, ty, pos, af, g⟩ :: os) l :=
  wq_value rfl hw hN (fun w' hkq c hc => by
    obtain ⟨i, rfl⟩ := Int.eq_ofNat_of_zero_le h0.1
    obtain ⟨j, rfl⟩ := Int.eq_ofNat_of_zero_le (Int.le_trans h0.1 h0.2.1)
    have h2 := run_underlying (P := P) (w := w') (TyStr.out (P := P) (t := t))
    have h3 : i ≤ j := by omega
    have h4 : j ≤ s.length := by omega
    simp [execOp, Instr.sliceAt, Instr.slice, Instr.sliceBounds, Instr.sliceBound, hc.ev hx, hc.ev hy, hc.ev hz, h2, asIntOf, str_size, str_extract, h3, h4]) k
theorem q_eql_str {s u : List UInt8} (hw : want ops l ⟨some d, .binOp .eql t x y t', ty, pos, af, g⟩ = some true := by rfl) (hN : Nat.blt d N = true := by rfl)
    (hx : ev l x = some (str s) := by rfl) (hy : ev l y = some (str u) := by rfl) (k : WQ P N ds ops w K os ((d, .bool (decide (s = u))) :: l)) :
    WQ P N ds ops w K (⟨some d, .binOp .eql t x y t', ty, pos, af, g⟩ :: os) l :=
  wq_value rfl hw hN (fun w' hkq c hc => by simp [execOp, hc.ev hx, hc.ev hy, eqGuard, binOp, Op.stringOp]; exact beq_dec s u) k
theorem q_neq_str {s u : List UInt8} (hw : want ops l ⟨some d, .binOp .neq t x y t', ty, pos, af, g⟩ = some true := by rfl) (hN : Nat.blt d N = true := by rfl)
    (hx : ev l x = some (str s) := by rfl) (hy : ev l y = some (str u) := by rfl) (k : WQ P N ds ops w K os ((d, .bool (decide (s ≠ u))) :: l)) :
    WQ P N ds ops w K (⟨some d, .binOp .neq t x y t', ty, pos, af, g⟩ :: os) l :=
  wq_value rfl hw hN (fun w' hkq c hc => by simp [execOp, hc.ev hx, hc.ev hy, eqGuard, binOp, Op.stringOp]; exact beq_dec s u) k
theorem q_add {a b : Int} (hw : want ops l ⟨some d, .binOp .add t x y t', ty, pos, af, g⟩ = some true := by rfl) (hN : Nat.blt d N = true := by rfl)
    (hx : ev l x = some (.int .i64 a) := by rfl) (hy : ev l y = some (.int .i64 b) := by rfl) (h : -9223372036854775808 ≤ a + b ∧ a + b ≤ 9223372036854775807 := by omega)
    (k : WQ P N ds ops w K os ((d, .int .i64 (a + b)) :: l)) : WQ P N ds ops w K (⟨some d, .binOp .add t x y t', ty, pos, af, g⟩ :: os) l :=
  wq_value rfl hw hN (fun w' hkq c hc => by simp [execOp, hc.ev hx, hc.ev hy, eqGuard, binOp, Op.intArith, IntWalk.i64_in _ h]) k
theorem q_not {b : Bool} (hw : want ops l ⟨some d, .unOp .not t x, ty, pos, af, g⟩ = some true := by rfl) (hN : Nat.blt d N = true := by rfl)
    (hx : ev l x = some (.bool b) := by rfl) (k : WQ P N ds ops w K os ((d, .bool (!b)) :: l)) : WQ P N ds ops w K (⟨some d, .unOp .not t x, ty, pos, af, g⟩ :: os) l :=
  wq_value rfl hw hN (fun w' hkq c hc => by simp [execOp, hc.ev hx, Op.unary]) k
theorem q_load1 [TyOne P t] {b off : Nat} {c : Array Value} {e : TypeId} {fr : Nat × Nat} {v : Value} (hw : want ops l ⟨some d, .load t x, ty, pos, af, g⟩ = some true := by rfl) (hN : Nat.blt d N = true := by rfl)
    (hx : ev l x = some (.pointer (some ⟨b, off, none⟩)) := by rfl) (hb : w.heap[b]? = some (.cells c e fr) := by assumption) (hc : c[off]? = some v := by rfl)
    (k : WQ P N ds ops w K os ((d, v) :: l)) : WQ P N ds ops w K (⟨some d, .load t x, ty, pos, af, g⟩ :: os) l :=
  wq_value rfl hw hN (fun w' hkq a ha => by
    obtain ⟨dd, h1, h2⟩ := TyOne.out (P := P) (t := t)
    have h4 := cell_of (hkq.get0 hb) hc
    simp [execOp, Instr.loadAt, Instr.sureAddr, loadVar, run_isAgg h1, h2, ha.ev hx, load, Sem.run, h4]) k
theorem q_fieldAddr {i off : Nat} [Fld P t i off] {b o' : Nat} (hw : want ops l ⟨some d, .fieldAddr t x i, ty, pos, af, g⟩ = some true := by rfl) (hN : Nat.blt d N = true := by rfl)
    (hx : ev l x = some (.pointer (some ⟨b, o', none⟩)) := by rfl) (k : WQ P N ds ops w K os ((d, .pointer (some ⟨b, o' + off, none⟩)) :: l)) :
    WQ P N ds ops w K (⟨some d, .fieldAddr t x i, ty, pos, af, g⟩ :: os) l :=
  wq_value rfl hw hN (fun w' hkq a ha => by
    obtain ⟨fs, f, inf, h1, h2, h3, h4, h5⟩ := Fld.out (P := P) (t := t) (i := i)
    have h6 := run_underlying (P := P) (w := w') h1
    simp [execOp, Instr.fieldAt, Instr.sureAddr, ha.ev hx, h6, h2, fieldPlace, sizeOf, typeInfo, h4, h5, h3, Addr.add_lit]) k
theorem q_indexAddr {e : TypeId} {sz by_ : Nat} [TySlice P t e] [Elem P e sz by_] {b o' n cp : Nat} {i : Int} (hw : want ops l ⟨some d, .indexAddr t x y, ty, pos, af, g⟩ = some true := by rfl) (hN : Nat.blt d N = true := by rfl)
    (hx : ev l x = some (.slice (some ⟨b, o', none⟩) n cp) := by rfl) (hy : ev l y = some (.int .i64 i) := by rfl) (h0 : 0 ≤ i := by omega) (h1 : i < n := by omega)
    (k : WQ P N ds ops w K os ((d, .pointer (some ⟨b, o' + i.toNat * sz, none⟩)) :: l)) :
    WQ P N ds ops w K (⟨some d, .indexAddr t x y, ty, pos, af, g⟩ :: os) l :=
  wq_value rfl hw hN (fun w' hkq a ha => by
    obtain ⟨inf, z, hi, _, hs, _, _, _⟩ := Elem.out (P := P) (e := e)
    have h6 := run_underlying (P := P) (w := w') (TySlice.out (P := P) (t := t))
    simp [execOp, Instr.indexAt, asIntOf, ha.ev hx, ha.ev hy, h6, h0, h1, sizeOf, typeInfo, hi, hs, Addr.add_lit]) k
theorem q_loadN {n : Nat} [TyAgg P t n] {b off : Nat} {c : Array Value} {e : TypeId} {fr : Nat × Nat} {vs : List Value} (hw : want ops l ⟨some d, .load t x, ty, pos, af, g⟩ = some true) (hN : Nat.blt d N = true)
    (hx : ev l x = some (.pointer (some ⟨b, off, none⟩))) (hb : w.heap[b]? = some (.cells c e fr)) (hl : vs.length = n) (hc : ∀ j v, vs[j]? = some v → c[off + j]? = some v)
    (k : WQ P N ds ops w K os ((d, .agg vs.toArray) :: l)) : WQ P N ds ops w K (⟨some d, .load t x, ty, pos, af, g⟩ :: os) l :=
  wq_value rfl hw hN (fun w' hkq a ha => by
    obtain ⟨dd, i, h1, h2, h3, h4⟩ := TyAgg.out (P := P) (t := t)
    have h5 := run_loadCells_list (P := P) w' ⟨b, off, none⟩ vs (fun j v hv => by rw [Addr.add_lit]; exact cell_of (hkq.get0 hb) (hc j v hv))
    rw [hl] at h5
    simp [execOp, Instr.loadAt, Instr.sureAddr, loadVar, run_isAgg h1, h2, ha.ev hx, sizeOf, typeInfo, h3, h4, h5]) k
theorem q_nilCheck {p : Addr} (hw : want ops l ⟨some d, .nilCheck x, ty, pos, af, g⟩ = some true := by rfl) (hN : Nat.blt d N = true := by rfl)
    (hx : ev l x = some (.pointer (some p)) := by rfl) (k : WQ P N ds ops w K os ((d, .pointer (some p)) :: l)) : WQ P N ds ops w K (⟨some d, .nilCheck x, ty, pos, af, g⟩ :: os) l :=
  wq_value rfl hw hN (fun w' hkq c hc => by simp [execOp, hc.ev hx]) k
end
end Go.Fw
end
