/- Own work: labels, as plain numbers below 256 and their tags. -/
namespace Go.Sp
def bit (n k : Nat) : Bool := decide (n / 2 ^ k % 2 = 1)
theorem bit_test (n k : Nat) : bit n k = n.testBit k := by
  rw [bit, Nat.testBit_eq_decide_div_mod_eq]
/-- the one flows to the other. -/
def flows (a b : Nat) : Bool := (List.range 8).all (fun k => !bit a k || bit b k)
theorem eq_of_bits {a b : Nat} (ha : a < 256) (hb : b < 256) (h : ∀ k, k < 8 → a.testBit k = b.testBit k) : a = b := by
  apply Nat.eq_of_testBit_eq
  intro k
  by_cases hk : k < 8
  · exact h k hk
  · have h1 : 2 ^ 8 ≤ 2 ^ k := Nat.pow_le_pow_right (by omega) (by omega)
    rw [Nat.testBit_lt_two_pow (by omega), Nat.testBit_lt_two_pow (by omega)]
theorem flows_iff (a b : Nat) : flows a b = true ↔ ∀ k, k < 8 → a.testBit k = true → b.testBit k = true := by
  simp only [flows, List.all_eq_true, List.mem_range, bit_test]
  constructor
  · intro h k hk ha; have := h k hk; rw [ha] at this; simpa using this
  · intro h k hk
    cases ha : a.testBit k
    · rfl
    · rw [h k hk ha]; rfl
theorem and_lt {a b : Nat} (ha : a < 256) : a &&& b < 256 := Nat.lt_of_le_of_lt Nat.and_le_left ha
theorem or_lt {a b : Nat} (ha : a < 256) (hb : b < 256) : a ||| b < 256 := Nat.or_lt_two_pow (n := 8) ha hb
theorem andNot_zero {a b : Nat} (ha : a < 256) (hb : b < 256) : (a &&& (2 ^ 64 - 1 - b) = 0) ↔ flows a b = true := by
  have hn : ∀ k, k < 8 → (2 ^ 64 - 1 - b).testBit k = !b.testBit k := by
    intro k hk
    have : 2 ^ 64 - 1 - b = 2 ^ 64 - (b + 1) := by omega
    rw [this, Nat.testBit_two_pow_sub_succ (by omega)]
    simp; omega
  rw [flows_iff]
  constructor
  · intro h k hk h1
    have h2 : (a &&& (2 ^ 64 - 1 - b)).testBit k = false := by rw [h]; simp
    rw [Nat.testBit_and, h1, hn k hk, Bool.true_and] at h2
    simpa using h2
  · intro h
    refine eq_of_bits (and_lt ha) (by omega) (fun k hk => ?_)
    rw [Nat.testBit_and, hn k hk, Nat.zero_testBit]
    cases h1 : a.testBit k
    · rfl
    · rw [h k hk h1]; rfl
/-- the order's laws. -/
theorem flows_refl (a : Nat) : flows a a = true := (flows_iff a a).2 (fun _ _ h => h)
theorem flows_anti {a b : Nat} (ha : a < 256) (hb : b < 256) (h1 : flows a b = true) (h2 : flows b a = true) : a = b :=
  eq_of_bits ha hb (fun k hk => by
    rw [Bool.eq_iff_iff]
    exact ⟨(flows_iff a b).1 h1 k hk, (flows_iff b a).1 h2 k hk⟩)
theorem flows_trans {a b c : Nat} (h1 : flows a b = true) (h2 : flows b c = true) : flows a c = true :=
  (flows_iff a c).2 (fun k hk h => (flows_iff b c).1 h2 k hk ((flows_iff a b).1 h1 k hk h))
theorem flows_or (a b c : Nat) : flows (a ||| b) c = (flows a c && flows b c) := by
  rw [Bool.eq_iff_iff, Bool.and_eq_true, flows_iff, flows_iff, flows_iff]
  constructor
  · intro h
    exact ⟨fun k hk h1 => h k hk (by rw [Nat.testBit_or, h1]; rfl), fun k hk h1 => h k hk (by rw [Nat.testBit_or, h1, Bool.or_true])⟩
  · rintro ⟨h1, h2⟩ k hk h3
    rw [Nat.testBit_or, Bool.or_eq_true] at h3
    exact h3.elim (h1 k hk) (h2 k hk)
theorem flows_and (a b c : Nat) : flows c (a &&& b) = (flows c a && flows c b) := by
  rw [Bool.eq_iff_iff, Bool.and_eq_true, flows_iff, flows_iff, flows_iff]
  constructor
  · intro h
    constructor
    · intro k hk h1; have := h k hk h1; rw [Nat.testBit_and, Bool.and_eq_true] at this; exact this.1
    · intro k hk h1; have := h k hk h1; rw [Nat.testBit_and, Bool.and_eq_true] at this; exact this.2
  · rintro ⟨h1, h2⟩ k hk h3
    rw [Nat.testBit_and, h1 k hk h3, h2 k hk h3]; rfl
theorem or_and_self (a b : Nat) : a ||| (a &&& b) = a := by
  apply Nat.eq_of_testBit_eq
  intro k
  rw [Nat.testBit_or, Nat.testBit_and]
  cases a.testBit k <;> simp
end Go.Sp
