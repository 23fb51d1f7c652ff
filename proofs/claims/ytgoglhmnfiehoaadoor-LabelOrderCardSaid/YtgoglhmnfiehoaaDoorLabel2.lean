/- Own work: what the reference's functions on labels return: bits, flows, both. -/
import Derived.Test.YtgoglhmnfiehoaaDoorLabel
namespace Go.Proofs.YtgoglhmnfiehoaaDoor
open Go.Fw

theorem put1 {c : Array Value} {k : Nat} {v : Value} (hk : k < c.size) (hv : v.cells.toList = [v]) (j : Nat) :
    ((c.toList.take (0 + (k : Int).toNat * 1) ++ v.cells.toList ++ c.toList.drop (0 + (k : Int).toNat * 1 + 1)).toArray)[j]? = if j = k then some v else c[j]? := by
  rw [hv]
  simp only [Int.toNat_natCast, Nat.zero_add, Nat.mul_one]
  rw [List.getElem?_toArray, List.append_assoc, List.getElem?_append, List.length_take, Array.length_toList, Nat.min_eq_left (by omega)]
  by_cases h2 : j < k
  · rw [if_pos h2, if_neg (by omega), List.getElem?_take, if_pos h2, Array.getElem?_toList]
  · rw [if_neg h2]
    by_cases h3 : j = k
    · subst h3; simp
    · rw [if_neg h3, List.singleton_append, show j - k = (j - k - 1) + 1 by omega, List.getElem?_cons_succ, List.getElem?_drop, show k + 1 + (j - k - 1) = j by omega, Array.getElem?_toList]

/-- a label's tags, as an array of bools. -/
def bitsV (n : Nat) : List Value := (List.range 8).map (fun k => .bool (Sp.bit n k))
theorem bitsV_get (n k : Nat) (h : k < 8) : (bitsV n)[k]? = some (.bool (Sp.bit n k)) := by
  rw [bitsV, List.getElem?_map, List.getElem?_range h]; rfl

set_option maxHeartbeats 1000000 in
theorem c_bits (n : Nat) (hn : n < 256) (w : World) : Cal Tryd.prog 9 #[.int .i64 n] w fun v w' => v = .agg (bitsV n).toArray ∧ Kept [] w w' := by
  refine enter (N := 17) Tryd.func9 rfl [(0, .int .i64 n)] args1 rfl ?_
  repeat' (first
    | (refine op_alloc (by rfl) (by rfl) ?_; have := hba; intro b2 w2 zd hbf hzt hbb hkb)
    | (refine op_alloc (by rfl) (by rfl) ?_; intro b1 w1 zc hbe hzs hba hka)
    | refine op_move (by rfl) (by rfl) (by rfl) ?_
    | refine op_assign (by rfl) (by rfl) (by rfl) ?_
    | refine op_lss (by rfl) (by rfl) (by rfl) (by rfl) ?_
    | refine op_eql (by rfl) (by rfl) (by rfl) (by rfl) ?_
    | refine op_eql_str (by rfl) (by rfl) (by rfl) (by rfl) ?_
    | refine op_eql_bool (by rfl) (by rfl) (by rfl) (by rfl) ?_
    | refine op_eql_flat (by rfl) (by rfl) (by rfl) (by rfl) (by rfl) (by rfl) ?_
    | refine op_add (by rfl) (by rfl) (by rfl) (by rfl) (by omega) ?_
    | refine op_add_u8 (by rfl) (by rfl) (by rfl) (by rfl) (by omega) ?_
    | refine op_quo (by rfl) (by rfl) (by rfl) (by rfl) (by omega) ?_
    | refine op_rem (by rfl) (by rfl) (by rfl) (by rfl) (by omega) ?_
    | refine op_indexAddr_arr (by rfl) (by rfl) (by rfl) (by rfl) (by omega) (by omega) ?_
    | refine op_indexAddr (by rfl) (by rfl) (by rfl) (by rfl) (by omega) (by omega) ?_
    | refine op_load1 (by rfl) (by rfl) (by rfl) (by assumption) (by rfl) ?_
    | refine wl_nil ?_
    | refine at_then_normal ?_
    | refine at_then_ret ?_
    | refine at_then_exit ?_
    | refine at_block_normal ?_
    | refine at_block_ret ?_
    | refine at_block_exit ?_
    | refine at_block_other (by rfl) ?_
    | refine wc_seq ?_
    | refine wc_region ?_
    | refine wc_block ?_
    | refine wc_skip ?_
    | refine wc_exit ?_
    | refine wc_ret ?_
    | refine at_ret1 (by rfl) (by rfl) ?_
    | refine wc_cond_true (by rfl) ?_
    | refine wc_cond_false (by rfl) ?_
    | (refine wc_cond_dec (by rfl) (fun _ => ?_) (fun _ => ?_) <;> (try first | contradiction | (exfalso; omega)))
    | refine wc_cond (by rfl) (fun _ => ?_) (fun _ => ?_))
  have hlt1 := lt_of_heap hba
  refine wc_loop (fun k => [(2, .pointer (some ⟨b1, 0, none⟩)), (3, .pointer (some ⟨b2, 0, none⟩)), (0, .int .i64 ((n / 2 ^ k : Nat) : Int)), (5, .int .i64 ((k : Nat) : Int))])
    (fun k w' => k ≤ 8 ∧ Kept [b2] w2 w' ∧ ∃ c : Array Value, c.size = 8 ∧ w'.heap[b2]? = some (.cells c 26 (0, 0)) ∧ ∀ j, j < k → c[j]? = some (.bool (Sp.bit n j))) (fun k => 8 - k) 0
    ⟨rfl, rfl, by rw [Nat.pow_zero, Nat.div_one]; rfl, rfl, trivial⟩ ⟨by omega, Kept.refl _ _, zd, hzt, hbb, fun j hj => by omega⟩ ?_
  rintro k w3 ⟨hk, hkept, c, hcs, hcb, hcc⟩
  by_cases hlt : k < 8
  · have hq : n / 2 ^ k ≤ n := Nat.div_le_self _ _
    have hm2 : n / 2 ^ (k + 1) = n / 2 ^ k / 2 := by rw [Nat.pow_succ, Nat.div_div_eq_div_mul]
    have hbit : Sp.bit n k = decide (n / 2 ^ k % 2 = 1) := rfl
    generalize n / 2 ^ k = m at hm2 hbit hq
    repeat' (first
      | (refine op_store (by rfl) (by rfl) (by rfl) (by rfl) hcb (by rfl) (by simp; omega) (by rfl) ?_; intro w4 hb4 hk4)
      | refine op_move (by rfl) (by rfl) (by rfl) ?_
      | refine op_assign (by rfl) (by rfl) (by rfl) ?_
      | refine op_lss (by rfl) (by rfl) (by rfl) (by rfl) ?_
      | refine op_eql (by rfl) (by rfl) (by rfl) (by rfl) ?_
      | refine op_eql_str (by rfl) (by rfl) (by rfl) (by rfl) ?_
      | refine op_eql_bool (by rfl) (by rfl) (by rfl) (by rfl) ?_
      | refine op_eql_flat (by rfl) (by rfl) (by rfl) (by rfl) (by rfl) (by rfl) ?_
      | refine op_add (by rfl) (by rfl) (by rfl) (by rfl) (by omega) ?_
      | refine op_add_u8 (by rfl) (by rfl) (by rfl) (by rfl) (by omega) ?_
      | refine op_quo (by rfl) (by rfl) (by rfl) (by rfl) (by omega) ?_
      | refine op_rem (by rfl) (by rfl) (by rfl) (by rfl) (by omega) ?_
      | refine op_indexAddr_arr (by rfl) (by rfl) (by rfl) (by rfl) (by omega) (by omega) ?_
      | refine op_indexAddr (by rfl) (by rfl) (by rfl) (by rfl) (by omega) (by omega) ?_
      | refine op_load1 (by rfl) (by rfl) (by rfl) (by assumption) (by rfl) ?_
      | refine wl_nil ?_
      | refine at_then_normal ?_
      | refine at_then_ret ?_
      | refine at_then_exit ?_
      | refine at_block_normal ?_
      | refine at_block_ret ?_
      | refine at_block_exit ?_
      | refine at_block_other (by rfl) ?_
      | refine wc_seq ?_
      | refine wc_region ?_
      | refine wc_block ?_
      | refine wc_skip ?_
      | refine wc_exit ?_
      | refine wc_ret ?_
      | refine at_ret1 (by rfl) (by rfl) ?_
      | refine wc_cond_true (by rfl) ?_
      | refine wc_cond_false (by rfl) ?_
      | (refine wc_cond_dec (by rfl) (fun _ => ?_) (fun _ => ?_) <;> (try first | contradiction | (exfalso; omega)))
      | refine wc_cond (by rfl) (fun _ => ?_) (fun _ => ?_))
    refine at_round (k + 1) (by exact ⟨rfl, rfl, by rw [hm2]; rfl, rfl, trivial⟩) ?_ (by omega)
    refine ⟨by omega, hkept.trans hk4, _, ?_, hb4, fun j hj => ?_⟩
    · simp [Value.cells]; omega
    · rw [put1 (by omega) rfl]
      by_cases hjk : j = k
      · rw [if_pos hjk, hjk, hbit]
        refine congrArg (fun b => some (Value.bool b)) ?_
        rw [Bool.eq_iff_iff, decide_eq_true_eq, decide_eq_true_eq]; omega
      · rw [if_neg hjk, hcc j (by omega)]
  · skip
    have hk8 : k = 8 := by omega
    subst hk8
    have hget : ∀ (j : Nat) (v : Value), (bitsV n)[j]? = some v → c[0 + j]? = some v := fun j v hv => by
      have hj : j < 8 := by
        have := (List.getElem?_eq_some_iff.1 hv).1
        simpa [bitsV] using this
      rw [bitsV_get n j hj] at hv
      rw [Nat.zero_add, hcc j hj, hv]
    have hb1' := hkept.get (hkb.get0 hba) (by simp; omega)
    repeat' (first
      | (refine op_loadN (vs := bitsV n) (by rfl) (by rfl) (by rfl) hcb (by rfl) hget ?_)
      | (refine op_store_all (by rfl) (by rfl) (by rfl) (by rfl) hb1' (by rfl) hzs (by rfl) ?_; intro w4 hb4 hk4)
      | (refine at_ret_agg (vs := bitsV n) (by rfl) (by rfl) hb4 (by rfl) (fun j v hv => by rw [Nat.zero_add]; show (bitsV n).toArray[j]? = some v; rw [List.getElem?_toArray]; exact hv) ?_)
      | refine op_move (by rfl) (by rfl) (by rfl) ?_
      | refine op_assign (by rfl) (by rfl) (by rfl) ?_
      | refine op_lss (by rfl) (by rfl) (by rfl) (by rfl) ?_
      | refine op_eql (by rfl) (by rfl) (by rfl) (by rfl) ?_
      | refine op_eql_str (by rfl) (by rfl) (by rfl) (by rfl) ?_
      | refine op_eql_bool (by rfl) (by rfl) (by rfl) (by rfl) ?_
      | refine op_eql_flat (by rfl) (by rfl) (by rfl) (by rfl) (by rfl) (by rfl) ?_
      | refine op_add (by rfl) (by rfl) (by rfl) (by rfl) (by omega) ?_
      | refine op_add_u8 (by rfl) (by rfl) (by rfl) (by rfl) (by omega) ?_
      | refine op_quo (by rfl) (by rfl) (by rfl) (by rfl) (by omega) ?_
      | refine op_rem (by rfl) (by rfl) (by rfl) (by rfl) (by omega) ?_
      | refine op_indexAddr_arr (by rfl) (by rfl) (by rfl) (by rfl) (by omega) (by omega) ?_
      | refine op_indexAddr (by rfl) (by rfl) (by rfl) (by rfl) (by omega) (by omega) ?_
      | refine op_load1 (by rfl) (by rfl) (by rfl) (by assumption) (by rfl) ?_
      | refine wl_nil ?_
      | refine at_then_normal ?_
      | refine at_then_ret ?_
      | refine at_then_exit ?_
      | refine at_block_normal ?_
      | refine at_block_ret ?_
      | refine at_block_exit ?_
      | refine at_block_other (by rfl) ?_
      | refine wc_seq ?_
      | refine wc_region ?_
      | refine wc_block ?_
      | refine wc_skip ?_
      | refine wc_exit ?_
      | refine wc_ret ?_
      | refine at_ret1 (by rfl) (by rfl) ?_
      | refine wc_cond_true (by rfl) ?_
      | refine wc_cond_false (by rfl) ?_
      | (refine wc_cond_dec (by rfl) (fun _ => ?_) (fun _ => ?_) <;> (try first | contradiction | (exfalso; omega)))
      | refine wc_cond (by rfl) (fun _ => ?_) (fun _ => ?_))
    exact ⟨rfl, ((hka.trans hkb).step hkept (fun x hx => .inr (by simp at hx; omega))).step hk4 (fun x hx => .inr (by simp at hx; omega))⟩
end Go.Proofs.YtgoglhmnfiehoaaDoor
