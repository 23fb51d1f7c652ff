/- Own work: what the reference's functions on labels return: flows, both. -/
import Derived.Test.YtgoglhmnfiehoaaDoorLabel2
namespace Go.Sp
/-- the number of bits, the greatest first. -/
def numOf (f : Nat → Bool) : Nat → Nat → Nat
  | 0, acc => acc
  | k + 1, acc => numOf f k (2 * acc + if f k then 1 else 0)
theorem numOf_bits (f : Nat → Bool) : ∀ (k acc : Nat), numOf f k acc < (acc + 1) * 2 ^ k ∧ ∀ j, (numOf f k acc).testBit j = if j < k then f j else acc.testBit (j - k)
  | 0, acc => ⟨by simp [numOf], fun j => by simp [numOf]⟩
  | k + 1, acc => by
    obtain ⟨h1, h2⟩ := numOf_bits f k (2 * acc + if f k then 1 else 0)
    refine ⟨Nat.lt_of_lt_of_le h1 ?_, fun j => ?_⟩
    · rw [Nat.pow_succ, Nat.mul_comm (2 ^ k) 2, ← Nat.mul_assoc]
      refine Nat.mul_le_mul_right _ ?_
      split <;> omega
    · rw [numOf, h2 j]
      by_cases h3 : j < k
      · rw [if_pos h3, if_pos (show j < k + 1 by omega)]
      · rw [if_neg h3]
        by_cases h4 : j = k
        · subst h4
          rw [if_pos (show j < j + 1 by omega), Nat.sub_self, Nat.testBit_zero]
          cases f j <;> simp <;> omega
        · rw [if_neg (show ¬ j < k + 1 by omega), show j - k = (j - (k + 1)) + 1 by omega, Nat.testBit_succ]
          congr 1
          clear h1 h2
          cases f k <;> simp <;> omega
theorem numOf_eq (f : Nat → Bool) (n : Nat) (hn : n < 256) (h : ∀ k, k < 8 → f k = n.testBit k) : numOf f 8 0 = n := by
  obtain ⟨h1, h2⟩ := numOf_bits f 8 0
  refine eq_of_bits (by omega) hn (fun k hk => ?_)
  rw [h2 k, if_pos hk, h k hk]
end Go.Sp
namespace Go.Proofs.YtgoglhmnfiehoaaDoor
open Go.Fw
theorem bitsA_get (n k : Nat) (h : k < 8) : (Value.agg (bitsV n).toArray).cells[0 + (k : Int).toNat * 1]? = some (.bool (Sp.bit n k)) := by
  show (bitsV n).toArray[0 + (k : Int).toNat * 1]? = _
  rw [List.getElem?_toArray, Int.toNat_natCast, Nat.zero_add, Nat.mul_one, bitsV_get n k h]

set_option maxHeartbeats 1000000 in
theorem c_rflows (a b : Nat) (ha : a < 256) (hb : b < 256) (w : World) : Cal Tryd.prog 11 #[.int .i64 a, .int .i64 b] w fun v w' => v = .bool (Sp.flows a b) ∧ Kept [] w w' := by
  refine enter (N := 25) Tryd.func11 rfl [(0, .int .i64 a), (1, .int .i64 b)] args2 rfl ?_
  repeat' (first
    | (refine op_call (by rfl) (by rfl) (by rfl) (by exact c_bits a ha _) ?_; have := w; rintro _ w1 ⟨rfl, hk1⟩)
    | (refine op_call (by rfl) (by rfl) (by rfl) (by exact c_bits b hb _) ?_; rintro _ w2 ⟨rfl, hk2⟩)
    | (refine op_alloc (by rfl) (by rfl) ?_; have := hba; intro b2 w4 zd hbf hzt hbb hkb)
    | (refine op_alloc (by rfl) (by rfl) ?_; intro b1 w3 zc hbe hzs hba hka)
    | (refine op_store_all (by rfl) (by rfl) (by rfl) (by rfl) (hkb.get0 hba) (by rfl) hzs (by rfl) ?_; intro w5 hb5 hk5)
    | (refine op_store_all (by rfl) (by rfl) (by rfl) (by rfl) (hk5.get hbb (by have := lt_of_heap hba; simp; omega)) (by rfl) hzt (by rfl) ?_; intro w6 hb6 hk6)
    | refine op_move (by rfl) (by rfl) (by rfl) ?_
    | refine op_assign (by rfl) (by rfl) (by rfl) ?_
    | refine op_pick_true (by rfl) (by rfl) (by rfl) (by rfl) ?_
    | refine op_pick_false (by rfl) (by rfl) (by rfl) (by rfl) ?_
    | refine op_lss (by rfl) (by rfl) (by rfl) (by rfl) ?_
    | refine op_not (by rfl) (by rfl) (by rfl) ?_
    | refine op_add (by rfl) (by rfl) (by rfl) (by rfl) (by omega) ?_
    | refine op_add_u8 (by rfl) (by rfl) (by rfl) (by rfl) (by omega) ?_
    | refine op_indexAddr_arr (by rfl) (by rfl) (by rfl) (by rfl) (by omega) (by omega) ?_
    | refine op_indexAddr (by rfl) (by rfl) (by rfl) (by rfl) (by omega) (by omega) ?_
    | refine op_load1 (by rfl) (by rfl) (by rfl) (by assumption) (by rfl) ?_
    | refine wl_skip (by rfl) (by rfl) (by rfl) ?_
    | (refine wl_split_dec (by rfl) (by rfl) (by rfl) (fun _ => ?_) (fun _ => ?_) <;> (try first | contradiction | (exfalso; omega)))
    | (refine wl_split (by rfl) (by rfl) (by rfl) (fun _ => ?_) (fun _ => ?_) <;> (fail_if_success contradiction))
    | refine wl_nil ?_
    | refine at_then_normal ?_
    | refine at_then_ret ?_
    | refine at_then_exit ?_
    | refine at_block_normal ?_
    | refine at_block_ret ?_
    | refine at_block_exit ?_
    | refine at_block_other (by rfl) ?_
    | refine wc_seq ?_
    | refine wc_region ?_
    | refine wc_block ?_
    | refine wc_skip ?_
    | refine wc_exit ?_
    | refine wc_ret ?_
    | refine at_ret1 (by rfl) (by rfl) ?_
    | refine wc_cond_true (by rfl) ?_
    | refine wc_cond_false (by rfl) ?_
    | (refine wc_cond_dec (by rfl) (fun _ => ?_) (fun _ => ?_) <;> (try first | contradiction | (exfalso; omega)))
    | refine wc_cond (by rfl) (fun _ => ?_) (fun _ => ?_))
  have hlt1 := lt_of_heap hba
  have h1 := hk6.get hb5 (by simp; omega)
  have hs1 := hk1.size
  have hs2 := hk2.size
  have hs3 := hka.size
  have hs4 := hkb.size
  have hK : Kept [] w w6 := ((((hk1.trans hk2).trans hka).trans hkb).step hk5 (fun x hx => .inr (by simp at hx; omega))).step hk6 (fun x hx => .inr (by simp at hx; omega))
  refine wc_loop (fun k => [(5, .pointer (some ⟨b1, 0, none⟩)), (6, .pointer (some ⟨b2, 0, none⟩)), (12, .int .i64 ((k : Nat) : Int))])
    (fun k w' => k ≤ 8 ∧ w' = w6 ∧ ∀ j, j < k → (!Sp.bit a j || Sp.bit b j) = true) (fun k => 8 - k) 0
    ⟨rfl, rfl, rfl, trivial⟩ ⟨by omega, rfl, fun j hj => by omega⟩ ?_
  rintro k w7 ⟨hk, rfl, hall⟩
  by_cases hlt : k < 8
  · have hg1 := bitsA_get a k hlt
    have hg2 := bitsA_get b k hlt
    repeat' (first
      | (refine op_load1 (by rfl) (by rfl) (by rfl) h1 (by exact hg1) ?_)
      | (refine op_load1 (by rfl) (by rfl) (by rfl) hb6 (by exact hg2) ?_)
      | refine op_move (by rfl) (by rfl) (by rfl) ?_
      | refine op_assign (by rfl) (by rfl) (by rfl) ?_
      | refine op_pick_true (by rfl) (by rfl) (by rfl) (by rfl) ?_
      | refine op_pick_false (by rfl) (by rfl) (by rfl) (by rfl) ?_
      | refine op_lss (by rfl) (by rfl) (by rfl) (by rfl) ?_
      | refine op_not (by rfl) (by rfl) (by rfl) ?_
      | refine op_add (by rfl) (by rfl) (by rfl) (by rfl) (by omega) ?_
      | refine op_add_u8 (by rfl) (by rfl) (by rfl) (by rfl) (by omega) ?_
      | refine op_indexAddr_arr (by rfl) (by rfl) (by rfl) (by rfl) (by omega) (by omega) ?_
      | refine op_indexAddr (by rfl) (by rfl) (by rfl) (by rfl) (by omega) (by omega) ?_
      | refine op_load1 (by rfl) (by rfl) (by rfl) (by assumption) (by rfl) ?_
      | refine wl_skip (by rfl) (by rfl) (by rfl) ?_
      | (refine wl_split_dec (by rfl) (by rfl) (by rfl) (fun _ => ?_) (fun _ => ?_) <;> (try first | contradiction | (exfalso; omega)))
      | (refine wl_split (by rfl) (by rfl) (by rfl) (fun _ => ?_) (fun _ => ?_) <;> (fail_if_success contradiction))
      | refine wl_nil ?_
      | refine at_then_normal ?_
      | refine at_then_ret ?_
      | refine at_then_exit ?_
      | refine at_block_normal ?_
      | refine at_block_ret ?_
      | refine at_block_exit ?_
      | refine at_block_other (by rfl) ?_
      | refine wc_seq ?_
      | refine wc_region ?_
      | refine wc_block ?_
      | refine wc_skip ?_
      | refine wc_exit ?_
      | refine wc_ret ?_
      | refine at_ret1 (by rfl) (by rfl) ?_
      | refine wc_cond_true (by rfl) ?_
      | refine wc_cond_false (by rfl) ?_
      | (refine wc_cond_dec (by rfl) (fun _ => ?_) (fun _ => ?_) <;> (try first | contradiction | (exfalso; omega)))
      | refine wc_cond (by rfl) (fun _ => ?_) (fun _ => ?_))
    · rename_i h2 h3
      refine ⟨congrArg Value.bool ?_, hK⟩
      have h4 : Sp.bit a k = true := decide_eq_true h2
      have h5 : Sp.bit b k = false := by simpa using h3
      rw [Sp.flows, eq_comm, Bool.eq_false_iff]
      intro h
      have := List.all_eq_true.1 h k (List.mem_range.2 hlt)
      rw [h4, h5] at this; cases this
    · rename_i h2 h3
      have h5 : Sp.bit b k = true := by simpa using h3
      refine at_round (k + 1) (by exact ⟨rfl, rfl, rfl, trivial⟩) ?_ (by omega)
      refine ⟨by omega, rfl, fun j hj => ?_⟩
      by_cases h6 : j = k
      · rw [h6, h5]; simp
      · exact hall j (by omega)
    · rename_i h2
      have h4 : Sp.bit a k = false := decide_eq_false h2
      refine at_round (k + 1) (by exact ⟨rfl, rfl, rfl, trivial⟩) ?_ (by omega)
      refine ⟨by omega, rfl, fun j hj => ?_⟩
      by_cases h6 : j = k
      · rw [h6, h4]; rfl
      · exact hall j (by omega)
  · skip
    repeat' (first
      | refine op_move (by rfl) (by rfl) (by rfl) ?_
      | refine op_assign (by rfl) (by rfl) (by rfl) ?_
      | refine op_pick_true (by rfl) (by rfl) (by rfl) (by rfl) ?_
      | refine op_pick_false (by rfl) (by rfl) (by rfl) (by rfl) ?_
      | refine op_lss (by rfl) (by rfl) (by rfl) (by rfl) ?_
      | refine op_not (by rfl) (by rfl) (by rfl) ?_
      | refine op_add (by rfl) (by rfl) (by rfl) (by rfl) (by omega) ?_
      | refine op_add_u8 (by rfl) (by rfl) (by rfl) (by rfl) (by omega) ?_
      | refine op_indexAddr_arr (by rfl) (by rfl) (by rfl) (by rfl) (by omega) (by omega) ?_
      | refine op_indexAddr (by rfl) (by rfl) (by rfl) (by rfl) (by omega) (by omega) ?_
      | refine op_load1 (by rfl) (by rfl) (by rfl) (by assumption) (by rfl) ?_
      | refine wl_skip (by rfl) (by rfl) (by rfl) ?_
      | (refine wl_split_dec (by rfl) (by rfl) (by rfl) (fun _ => ?_) (fun _ => ?_) <;> (try first | contradiction | (exfalso; omega)))
      | (refine wl_split (by rfl) (by rfl) (by rfl) (fun _ => ?_) (fun _ => ?_) <;> (fail_if_success contradiction))
      | refine wl_nil ?_
      | refine at_then_normal ?_
      | refine at_then_ret ?_
      | refine at_then_exit ?_
      | refine at_block_normal ?_
      | refine at_block_ret ?_
      | refine at_block_exit ?_
      | refine at_block_other (by rfl) ?_
      | refine wc_seq ?_
      | refine wc_region ?_
      | refine wc_block ?_
      | refine wc_skip ?_
      | refine wc_exit ?_
      | refine wc_ret ?_
      | refine at_ret1 (by rfl) (by rfl) ?_
      | refine wc_cond_true (by rfl) ?_
      | refine wc_cond_false (by rfl) ?_
      | (refine wc_cond_dec (by rfl) (fun _ => ?_) (fun _ => ?_) <;> (try first | contradiction | (exfalso; omega)))
      | refine wc_cond (by rfl) (fun _ => ?_) (fun _ => ?_))
    refine ⟨congrArg Value.bool ?_, hK⟩
    rw [Sp.flows, eq_comm, List.all_eq_true]
    intro j hj
    exact hall j (by have := List.mem_range.1 hj; omega)
end Go.Proofs.YtgoglhmnfiehoaaDoor
