/- Own work: texts Label2, Label3, Label4, RfA, one behind the other. -/
import Derived.Test.YtkbiakajlfmakaaGreatDoorFt22
section
namespace Go.Proofs.YtkbiakajlfmakaaGreatDoor
open Go.Fw

theorem put1 {c : Array Value} {k : Nat} {v : Value} (hk : k < c.size) (hv : v.cells.toList = [v]) (j : Nat) :
    ((c.toList.take (0 + (k : Int).toNat * 1) ++ v.cells.toList ++ c.toList.drop (0 + (k : Int).toNat * 1 + 1)).toArray)[j]? = if j = k then some v else c[j]? := by
  rw [hv]
  simp only [Int.toNat_natCast, Nat.zero_add, Nat.mul_one]
  rw [List.getElem?_toArray, List.append_assoc, List.getElem?_append, List.length_take, Array.length_toList, Nat.min_eq_left (by omega)]
  by_cases h2 : j < k
  · rw [if_pos h2, if_neg (by omega), List.getElem?_take, if_pos h2, Array.getElem?_toList]
  · rw [if_neg h2]
    by_cases h3 : j = k
    · subst h3; simp
    · rw [if_neg h3, List.singleton_append, show j - k = (j - k - 1) + 1 by omega, List.getElem?_cons_succ, List.getElem?_drop, show k + 1 + (j - k - 1) = j by omega, Array.getElem?_toList]

/-- a label's tags, as an array of bools. -/
def bitsV (n : Nat) : List Value := (List.range 8).map (fun k => .bool (Sp.bit n k))
theorem bitsV_get (n k : Nat) (h : k < 8) : (bitsV n)[k]? = some (.bool (Sp.bit n k)) := by
  rw [bitsV, List.getElem?_map, List.getElem?_range h]; rfl

set_option maxHeartbeats 1000000 in
theorem c_bits (n : Nat) (hn : n < 256) (w : World) : Cal Tryz.prog 50 #[.int .i64 n] w fun v w' => v = .agg (bitsV n).toArray ∧ Kept [] w w' := by
  refine enter (N := 17) Tryz.func50 rfl [(0, .int .i64 n)] args1 rfl ?_
  repeat' (first
  | (refine op_alloc (k:=?_); have := hba; intro b2 w2 zd hbf hzt hbb hkb)
  | (refine op_alloc (k:=?_); intro b1 w1 zc hbe hzs hba hka)
  | refine op_move (k:=?_)
  | refine op_assign (k:=?_)
  | refine op_lss (k:=?_)
  | refine op_eql (k:=?_)
  | refine op_eql_str (k:=?_)
  | refine op_eql_bool (k:=?_)
  | refine op_eql_flat (k:=?_)
  | refine op_add (k:=?_)
  | refine op_add_u8 (k:=?_)
  | refine op_quo (k:=?_)
  | refine op_rem (k:=?_)
  | refine op_indexAddr_arr (k:=?_)
  | refine op_indexAddr (k:=?_)
  | refine op_load1 (k:=?_)
  | refine wl_nil ?_
  | refine at_then_normal ?_
  | refine at_then_ret ?_
  | refine at_then_exit ?_
  | refine at_block_normal ?_
  | refine at_block_ret ?_
  | refine at_block_exit ?_
  | refine at_block_other (h:=?_)
  | refine wc_seq ?_
  | refine wc_region ?_
  | refine wc_block ?_
  | refine wc_skip ?_
  | refine wc_exit ?_
  | refine wc_ret ?_
  | refine at_ret1 (h:=?_)
  | refine wc_cond_true (ht:=?_)
  | refine wc_cond_false (hf:=?_)
  | (refine wc_cond_dec (ht:=fun _ => ?_) (hf:=fun _ => ?_)<;> (try first | contradiction | (exfalso; omega)))
  | refine wc_cond (ht:=fun _ => ?_) (hf:=fun _ => ?_))
  have hlt1 := lt_of_heap hba
  refine wc_loop (fun k => [(2, .pointer (some ⟨b1, 0, none⟩)), (3, .pointer (some ⟨b2, 0, none⟩)), (0, .int .i64 ((n / 2 ^ k : Nat) : Int)), (5, .int .i64 ((k : Nat) : Int))])
    (fun k w' => k ≤ 8 ∧ Kept [b2] w2 w' ∧ ∃ c : Array Value, c.size = 8 ∧ w'.heap[b2]? = some (.cells c 113 (0, 0)) ∧ ∀ j, j < k → c[j]? = some (.bool (Sp.bit n j))) (fun k => 8 - k) 0
    ⟨rfl, rfl, by rw [Nat.pow_zero, Nat.div_one]; rfl, rfl, trivial⟩ ⟨by omega, Kept.refl _ _, zd, hzt, hbb, fun j hj => by omega⟩ ?_
  rintro k w3 ⟨hk, hkept, c, hcs, hcb, hcc⟩
  by_cases hlt : k < 8
  · have hq : n / 2 ^ k ≤ n := Nat.div_le_self _ _
    have hm2 : n / 2 ^ (k + 1) = n / 2 ^ k / 2 := by rw [Nat.pow_succ, Nat.div_div_eq_div_mul]
    have hbit : Sp.bit n k = decide (n / 2 ^ k % 2 = 1) := rfl
    generalize n / 2 ^ k = m at hm2 hbit hq
    repeat' (first
    | (refine op_store (by rfl) (by rfl) (by rfl) (by rfl) hcb (by rfl) (by simp; omega) (by rfl) ?_; intro w4 hb4 hk4)
    | refine op_move (k:=?_)
    | refine op_assign (k:=?_)
    | refine op_lss (k:=?_)
    | refine op_eql (k:=?_)
    | refine op_eql_str (k:=?_)
    | refine op_eql_bool (k:=?_)
    | refine op_eql_flat (k:=?_)
    | refine op_add (k:=?_)
    | refine op_add_u8 (k:=?_)
    | refine op_quo (k:=?_)
    | refine op_rem (k:=?_)
    | refine op_indexAddr_arr (k:=?_)
    | refine op_indexAddr (k:=?_)
    | refine op_load1 (k:=?_)
    | refine wl_nil ?_
    | refine at_then_normal ?_
    | refine at_then_ret ?_
    | refine at_then_exit ?_
    | refine at_block_normal ?_
    | refine at_block_ret ?_
    | refine at_block_exit ?_
    | refine at_block_other (h:=?_)
    | refine wc_seq ?_
    | refine wc_region ?_
    | refine wc_block ?_
    | refine wc_skip ?_
    | refine wc_exit ?_
    | refine wc_ret ?_
    | refine at_ret1 (h:=?_)
    | refine wc_cond_true (ht:=?_)
    | refine wc_cond_false (hf:=?_)
    | (refine wc_cond_dec (ht:=fun _ => ?_) (hf:=fun _ => ?_)<;> (try first | contradiction | (exfalso; omega)))
    | refine wc_cond (ht:=fun _ => ?_) (hf:=fun _ => ?_))
    refine at_round (k + 1) (by exact ⟨rfl, rfl, by rw [hm2]; rfl, rfl, trivial⟩) ?_ (by omega)
    refine ⟨by omega, hkept.trans hk4, _, ?_, hb4, fun j hj => ?_⟩
    · simp [Value.cells]; omega
    · rw [put1 (by omega) rfl]
      by_cases hjk : j = k
      · rw [if_pos hjk, hjk, hbit]
        refine congrArg (fun b => some (Value.bool b)) ?_
        rw [Bool.eq_iff_iff, decide_eq_true_eq, decide_eq_true_eq]; omega
      · rw [if_neg hjk, hcc j (by omega)]
  · skip
    have hk8 : k = 8 := by omega
    subst hk8
    have hget : ∀ (j : Nat) (v : Value), (bitsV n)[j]? = some v → c[0 + j]? = some v := fun j v hv => by
      have hj : j < 8 := by
        have := (List.getElem?_eq_some_iff.1 hv).1
        simpa [bitsV] using this
      rw [bitsV_get n j hj] at hv
      rw [Nat.zero_add, hcc j hj, hv]
    have hb1' := hkept.get (hkb.get0 hba) (by simp; omega)
    repeat' (first
    | (refine op_loadN (vs:=bitsV n) (hb:=hcb) (hc:=hget) (k:=?_))
    | (refine op_store_all (hb:=hb1') (ho:=hzs) (k:=?_); intro w4 hb4 hk4)
    | (refine at_ret_agg (vs := bitsV n) (by rfl) (by rfl) hb4 (by rfl) (fun j v hv => by rw [Nat.zero_add]; show (bitsV n).toArray[j]? = some v; rw [List.getElem?_toArray]; exact hv) ?_)
    | refine op_move (k:=?_)
    | refine op_assign (k:=?_)
    | refine op_lss (k:=?_)
    | refine op_eql (k:=?_)
    | refine op_eql_str (k:=?_)
    | refine op_eql_bool (k:=?_)
    | refine op_eql_flat (k:=?_)
    | refine op_add (k:=?_)
    | refine op_add_u8 (k:=?_)
    | refine op_quo (k:=?_)
    | refine op_rem (k:=?_)
    | refine op_indexAddr_arr (k:=?_)
    | refine op_indexAddr (k:=?_)
    | refine op_load1 (k:=?_)
    | refine wl_nil ?_
    | refine at_then_normal ?_
    | refine at_then_ret ?_
    | refine at_then_exit ?_
    | refine at_block_normal ?_
    | refine at_block_ret ?_
    | refine at_block_exit ?_
    | refine at_block_other (h:=?_)
    | refine wc_seq ?_
    | refine wc_region ?_
    | refine wc_block ?_
    | refine wc_skip ?_
    | refine wc_exit ?_
    | refine wc_ret ?_
    | refine at_ret1 (h:=?_)
    | refine wc_cond_true (ht:=?_)
    | refine wc_cond_false (hf:=?_)
    | (refine wc_cond_dec (ht:=fun _ => ?_) (hf:=fun _ => ?_)<;> (try first | contradiction | (exfalso; omega)))
    | refine wc_cond (ht:=fun _ => ?_) (hf:=fun _ => ?_))
    exact ⟨rfl, ((hka.trans hkb).step hkept (fun x hx => .inr (by simp at hx; omega))).step hk4 (fun x hx => .inr (by simp at hx; omega))⟩
end Go.Proofs.YtkbiakajlfmakaaGreatDoor
end
section
namespace Go.Sp
/-- the number of bits, the greatest first. -/
def numOf (f : Nat → Bool) : Nat → Nat → Nat
  | 0, acc => acc
  | k + 1, acc => numOf f k (2 * acc + if f k then 1 else 0)
theorem numOf_bits (f : Nat → Bool) : ∀ (k acc : Nat), numOf f k acc < (acc + 1) * 2 ^ k ∧ ∀ j, (numOf f k acc).testBit j = if j < k then f j else acc.testBit (j - k)
  | 0, acc => ⟨by simp [numOf], fun j => by simp [numOf]⟩
  | k + 1, acc => by
    obtain ⟨h1, h2⟩ := numOf_bits f k (2 * acc + if f k then 1 else 0)
    refine ⟨Nat.lt_of_lt_of_le h1 ?_, fun j => ?_⟩
    · rw [Nat.pow_succ, Nat.mul_comm (2 ^ k) 2, ← Nat.mul_assoc]
      refine Nat.mul_le_mul_right _ ?_
      split <;> omega
    · rw [numOf, h2 j]
      by_cases h3 : j < k
      · rw [if_pos h3, if_pos (show j < k + 1 by omega)]
      · rw [if_neg h3]
        by_cases h4 : j = k
        · subst h4
          rw [if_pos (show j < j + 1 by omega), Nat.sub_self, Nat.testBit_zero]
          cases f j <;> simp <;> omega
        · rw [if_neg (show ¬ j < k + 1 by omega), show j - k = (j - (k + 1)) + 1 by omega, Nat.testBit_succ]
          congr 1
          clear h1 h2
          cases f k <;> simp <;> omega
theorem numOf_eq (f : Nat → Bool) (n : Nat) (hn : n < 256) (h : ∀ k, k < 8 → f k = n.testBit k) : numOf f 8 0 = n := by
  obtain ⟨h1, h2⟩ := numOf_bits f 8 0
  refine eq_of_bits (by omega) hn (fun k hk => ?_)
  rw [h2 k, if_pos hk, h k hk]
end Go.Sp
namespace Go.Proofs.YtkbiakajlfmakaaGreatDoor
open Go.Fw
theorem bitsA_get (n k : Nat) (h : k < 8) : (Value.agg (bitsV n).toArray).cells[0 + (k : Int).toNat * 1]? = some (.bool (Sp.bit n k)) := by
  show (bitsV n).toArray[0 + (k : Int).toNat * 1]? = _
  rw [List.getElem?_toArray, Int.toNat_natCast, Nat.zero_add, Nat.mul_one, bitsV_get n k h]

set_option maxHeartbeats 1000000 in
theorem c_rflows (a b : Nat) (ha : a < 256) (hb : b < 256) (w : World) : Cal Tryz.prog 66 #[.int .i64 a, .int .i64 b] w fun v w' => v = .bool (Sp.flows a b) ∧ Kept [] w w' := by
  refine enter (N := 25) Tryz.func66 rfl [(0, .int .i64 a), (1, .int .i64 b)] args2 rfl ?_
  repeat' (first
  | (refine op_call (hc:=by exact c_bits a ha _) (k:=?_); have := w; rintro _ w1 ⟨rfl, hk1⟩)
  | (refine op_call (hc:=by exact c_bits b hb _) (k:=?_); rintro _ w2 ⟨rfl, hk2⟩)
  | (refine op_alloc (k:=?_); have := hba; intro b2 w4 zd hbf hzt hbb hkb)
  | (refine op_alloc (k:=?_); intro b1 w3 zc hbe hzs hba hka)
  | (refine op_store_all (hb:=hkb.get0 hba) (ho:=hzs) (k:=?_); intro w5 hb5 hk5)
  | (refine op_store_all (hb:=hk5.get hbb (by have := lt_of_heap hba; simp; omega)) (ho:=hzt) (k:=?_); intro w6 hb6 hk6)
  | refine op_move (k:=?_)
  | refine op_assign (k:=?_)
  | refine op_pick_true (k:=?_)
  | refine op_pick_false (k:=?_)
  | refine op_lss (k:=?_)
  | refine op_not (k:=?_)
  | refine op_add (k:=?_)
  | refine op_add_u8 (k:=?_)
  | refine op_indexAddr_arr (k:=?_)
  | refine op_indexAddr (k:=?_)
  | refine op_load1 (k:=?_)
  | refine wl_skip (k:=?_)
  | (refine wl_split_dec (h1:=fun _ => ?_) (h0:=fun _ => ?_)<;> (try first | contradiction | (exfalso; omega)))
  | (refine wl_split (h1:=fun _ => ?_) (h0:=fun _ => ?_)<;> (fail_if_success contradiction))
  | refine wl_nil ?_
  | refine at_then_normal ?_
  | refine at_then_ret ?_
  | refine at_then_exit ?_
  | refine at_block_normal ?_
  | refine at_block_ret ?_
  | refine at_block_exit ?_
  | refine at_block_other (h:=?_)
  | refine wc_seq ?_
  | refine wc_region ?_
  | refine wc_block ?_
  | refine wc_skip ?_
  | refine wc_exit ?_
  | refine wc_ret ?_
  | refine at_ret1 (h:=?_)
  | refine wc_cond_true (ht:=?_)
  | refine wc_cond_false (hf:=?_)
  | (refine wc_cond_dec (ht:=fun _ => ?_) (hf:=fun _ => ?_)<;> (try first | contradiction | (exfalso; omega)))
  | refine wc_cond (ht:=fun _ => ?_) (hf:=fun _ => ?_))
  have hlt1 := lt_of_heap hba
  have h1 := hk6.get hb5 (by simp; omega)
  have hs1 := hk1.size
  have hs2 := hk2.size
  have hs3 := hka.size
  have hs4 := hkb.size
  have hK : Kept [] w w6 := ((((hk1.trans hk2).trans hka).trans hkb).step hk5 (fun x hx => .inr (by simp at hx; omega))).step hk6 (fun x hx => .inr (by simp at hx; omega))
  refine wc_loop (fun k => [(5, .pointer (some ⟨b1, 0, none⟩)), (6, .pointer (some ⟨b2, 0, none⟩)), (12, .int .i64 ((k : Nat) : Int))])
    (fun k w' => k ≤ 8 ∧ w' = w6 ∧ ∀ j, j < k → (!Sp.bit a j || Sp.bit b j) = true) (fun k => 8 - k) 0
    ⟨rfl, rfl, rfl, trivial⟩ ⟨by omega, rfl, fun j hj => by omega⟩ ?_
  rintro k w7 ⟨hk, rfl, hall⟩
  by_cases hlt : k < 8
  · have hg1 := bitsA_get a k hlt
    have hg2 := bitsA_get b k hlt
    repeat' (first
    | (refine op_load1 (hb:=h1) (hc:=by exact hg1) (k:=?_))
    | (refine op_load1 (hb:=hb6) (hc:=by exact hg2) (k:=?_))
    | refine op_move (k:=?_)
    | refine op_assign (k:=?_)
    | refine op_pick_true (k:=?_)
    | refine op_pick_false (k:=?_)
    | refine op_lss (k:=?_)
    | refine op_not (k:=?_)
    | refine op_add (k:=?_)
    | refine op_add_u8 (k:=?_)
    | refine op_indexAddr_arr (k:=?_)
    | refine op_indexAddr (k:=?_)
    | refine op_load1 (k:=?_)
    | refine wl_skip (k:=?_)
    | (refine wl_split_dec (h1:=fun _ => ?_) (h0:=fun _ => ?_)<;> (try first | contradiction | (exfalso; omega)))
    | (refine wl_split (h1:=fun _ => ?_) (h0:=fun _ => ?_)<;> (fail_if_success contradiction))
    | refine wl_nil ?_
    | refine at_then_normal ?_
    | refine at_then_ret ?_
    | refine at_then_exit ?_
    | refine at_block_normal ?_
    | refine at_block_ret ?_
    | refine at_block_exit ?_
    | refine at_block_other (h:=?_)
    | refine wc_seq ?_
    | refine wc_region ?_
    | refine wc_block ?_
    | refine wc_skip ?_
    | refine wc_exit ?_
    | refine wc_ret ?_
    | refine at_ret1 (h:=?_)
    | refine wc_cond_true (ht:=?_)
    | refine wc_cond_false (hf:=?_)
    | (refine wc_cond_dec (ht:=fun _ => ?_) (hf:=fun _ => ?_)<;> (try first | contradiction | (exfalso; omega)))
    | refine wc_cond (ht:=fun _ => ?_) (hf:=fun _ => ?_))
    · rename_i h2 h3
      refine ⟨congrArg Value.bool ?_, hK⟩
      have h4 : Sp.bit a k = true := decide_eq_true h2
      have h5 : Sp.bit b k = false := by simpa using h3
      rw [Sp.flows, eq_comm, Bool.eq_false_iff]
      intro h
      have := List.all_eq_true.1 h k (List.mem_range.2 hlt)
      rw [h4, h5] at this; cases this
    · rename_i h2 h3
      have h5 : Sp.bit b k = true := by simpa using h3
      refine at_round (k + 1) (by exact ⟨rfl, rfl, rfl, trivial⟩) ?_ (by omega)
      refine ⟨by omega, rfl, fun j hj => ?_⟩
      by_cases h6 : j = k
      · rw [h6, h5]; simp
      · exact hall j (by omega)
    · rename_i h2
      have h4 : Sp.bit a k = false := decide_eq_false h2
      refine at_round (k + 1) (by exact ⟨rfl, rfl, rfl, trivial⟩) ?_ (by omega)
      refine ⟨by omega, rfl, fun j hj => ?_⟩
      by_cases h6 : j = k
      · rw [h6, h4]; rfl
      · exact hall j (by omega)
  · skip
    repeat' (first
    | refine op_move (k:=?_)
    | refine op_assign (k:=?_)
    | refine op_pick_true (k:=?_)
    | refine op_pick_false (k:=?_)
    | refine op_lss (k:=?_)
    | refine op_not (k:=?_)
    | refine op_add (k:=?_)
    | refine op_add_u8 (k:=?_)
    | refine op_indexAddr_arr (k:=?_)
    | refine op_indexAddr (k:=?_)
    | refine op_load1 (k:=?_)
    | refine wl_skip (k:=?_)
    | (refine wl_split_dec (h1:=fun _ => ?_) (h0:=fun _ => ?_)<;> (try first | contradiction | (exfalso; omega)))
    | (refine wl_split (h1:=fun _ => ?_) (h0:=fun _ => ?_)<;> (fail_if_success contradiction))
    | refine wl_nil ?_
    | refine at_then_normal ?_
    | refine at_then_ret ?_
    | refine at_then_exit ?_
    | refine at_block_normal ?_
    | refine at_block_ret ?_
    | refine at_block_exit ?_
    | refine at_block_other (h:=?_)
    | refine wc_seq ?_
    | refine wc_region ?_
    | refine wc_block ?_
    | refine wc_skip ?_
    | refine wc_exit ?_
    | refine wc_ret ?_
    | refine at_ret1 (h:=?_)
    | refine wc_cond_true (ht:=?_)
    | refine wc_cond_false (hf:=?_)
    | (refine wc_cond_dec (ht:=fun _ => ?_) (hf:=fun _ => ?_)<;> (try first | contradiction | (exfalso; omega)))
    | refine wc_cond (ht:=fun _ => ?_) (hf:=fun _ => ?_))
    refine ⟨congrArg Value.bool ?_, hK⟩
    rw [Sp.flows, eq_comm, List.all_eq_true]
    intro j hj
    exact hall j (by have := List.mem_range.1 hj; omega)
end Go.Proofs.YtkbiakajlfmakaaGreatDoor
end
section
namespace Go.Proofs.YtkbiakajlfmakaaGreatDoor
open Go.Fw
def bothF (a b : Nat) (all : Bool) (k : Nat) : Bool := (Sp.bit a k && Sp.bit b k) || (!all && (Sp.bit a k || Sp.bit b k))
theorem both_or (a b : Nat) (ha : a < 256) (hb : b < 256) : Sp.numOf (bothF a b false) 8 0 = a ||| b :=
  Sp.numOf_eq _ _ (Sp.or_lt ha hb) (fun k _ => by rw [bothF, Nat.testBit_or, Sp.bit_test, Sp.bit_test]; cases a.testBit k <;> cases b.testBit k <;> rfl)
theorem both_and (a b : Nat) (ha : a < 256) : Sp.numOf (bothF a b true) 8 0 = a &&& b :=
  Sp.numOf_eq _ _ (Sp.and_lt ha) (fun k _ => by rw [bothF, Nat.testBit_and, Sp.bit_test, Sp.bit_test]; cases a.testBit k <;> cases b.testBit k <;> rfl)

set_option maxHeartbeats 4000000 in
theorem c_both (a b : Nat) (all : Bool) (ha : a < 256) (hb : b < 256) (w : World) : Cal Tryz.prog 34 #[.int .i64 a, .int .i64 b, .bool all] w fun v w' => v = .int .i64 ((Sp.numOf (bothF a b all) 8 0 : Nat) : Int) ∧ Kept [] w w' := by
  refine enter (N := 46) Tryz.func34 rfl [(0, .int .i64 a), (1, .int .i64 b), (2, .bool all)] args3 rfl ?_
  repeat' (first
  | (refine op_call (hc:=by exact c_bits a ha _) (k:=?_); rintro _ w1 ⟨rfl, hk1⟩)
  | (refine op_call (hc:=by exact c_bits b hb _) (k:=?_); rintro _ w2 ⟨rfl, hk2⟩)
  | (refine op_alloc (k:=?_); have := hba; intro b2 w4 zd hbf hzt hbb hkb)
  | (refine op_alloc (k:=?_); intro b1 w3 zc hbe hzs hba hka)
  | (refine op_store_all (hb:=hkb.get0 hba) (ho:=hzs) (k:=?_); intro w5 hb5 hk5)
  | (refine op_store_all (hb:=hk5.get hbb (by have := lt_of_heap hba; simp; omega)) (ho:=hzt) (k:=?_); intro w6 hb6 hk6)
  | refine op_move (k:=?_)
  | refine op_assign (k:=?_)
  | refine op_pick_true (k:=?_)
  | refine op_pick_false (k:=?_)
  | refine op_geq (k:=?_)
  | refine op_not (k:=?_)
  | refine op_add (k:=?_)
  | refine op_sub (k:=?_)
  | refine op_add_u8 (k:=?_)
  | refine op_sub_u8 (k:=?_)
  | refine op_mul (k:=?_)
  | refine op_indexAddr_arr (k:=?_)
  | refine op_indexAddr (k:=?_)
  | refine op_load1 (k:=?_)
  | refine wl_skip (k:=?_)
  | (refine wl_split_dec (h1:=fun _ => ?_) (h0:=fun _ => ?_)<;> (try first | contradiction | (exfalso; omega)))
  | (refine wl_split (h1:=fun _ => ?_) (h0:=fun _ => ?_)<;> (fail_if_success contradiction))
  | refine wl_nil ?_
  | refine at_then_normal ?_
  | refine at_then_ret ?_
  | refine at_then_exit ?_
  | refine at_block_normal ?_
  | refine at_block_ret ?_
  | refine at_block_exit ?_
  | refine at_block_other (h:=?_)
  | refine wc_seq ?_
  | refine wc_region ?_
  | refine wc_block ?_
  | refine wc_skip ?_
  | refine wc_exit ?_
  | refine wc_ret ?_
  | refine at_ret1 (h:=?_)
  | refine wc_cond_true (ht:=?_)
  | refine wc_cond_false (hf:=?_)
  | (refine wc_cond_dec (ht:=fun _ => ?_) (hf:=fun _ => ?_)<;> (try first | contradiction | (exfalso; omega)))
  | refine wc_cond (ht:=fun _ => ?_) (hf:=fun _ => ?_))
  have hlt1 := lt_of_heap hba
  have h1 := hk6.get hb5 (by simp; omega)
  have hs1 := hk1.size
  have hs2 := hk2.size
  have hs3 := hka.size
  have hs4 := hkb.size
  have hK : Kept [] w w6 := ((((hk1.trans hk2).trans hka).trans hkb).step hk5 (fun x hx => .inr (by simp at hx; omega))).step hk6 (fun x hx => .inr (by simp at hx; omega))
  refine wc_loop (fun x : Nat × Nat => [(2, .bool all), (7, .pointer (some ⟨b1, 0, none⟩)), (8, .pointer (some ⟨b2, 0, none⟩)), (9, .int .i64 ((x.2 : Nat) : Int)), (10, .int .i64 (((x.1 : Nat) : Int) - 1))])
    (fun x w' => x.1 ≤ 8 ∧ w' = w6 ∧ x.2 < 2 ^ (8 - x.1) ∧ Sp.numOf (bothF a b all) x.1 x.2 = Sp.numOf (bothF a b all) 8 0) (fun x => x.1) (8, 0)
    ⟨rfl, rfl, rfl, rfl, rfl, trivial⟩ ⟨by simp, rfl, by simp, rfl⟩ ?_
  rintro ⟨k, acc⟩ w7 ⟨hk, rfl, hacc, hnum⟩
  dsimp only at hk hacc hnum ⊢
  rcases k with _ | k
  · skip
    repeat' (first
    | refine op_move (k:=?_)
    | refine op_assign (k:=?_)
    | refine op_pick_true (k:=?_)
    | refine op_pick_false (k:=?_)
    | refine op_geq (k:=?_)
    | refine op_not (k:=?_)
    | refine op_add (k:=?_)
    | refine op_sub (k:=?_)
    | refine op_add_u8 (k:=?_)
    | refine op_sub_u8 (k:=?_)
    | refine op_mul (k:=?_)
    | refine op_indexAddr_arr (k:=?_)
    | refine op_indexAddr (k:=?_)
    | refine op_load1 (k:=?_)
    | refine wl_skip (k:=?_)
    | (refine wl_split_dec (h1:=fun _ => ?_) (h0:=fun _ => ?_)<;> (try first | contradiction | (exfalso; omega)))
    | (refine wl_split (h1:=fun _ => ?_) (h0:=fun _ => ?_)<;> (fail_if_success contradiction))
    | refine wl_nil ?_
    | refine at_then_normal ?_
    | refine at_then_ret ?_
    | refine at_then_exit ?_
    | refine at_block_normal ?_
    | refine at_block_ret ?_
    | refine at_block_exit ?_
    | refine at_block_other (h:=?_)
    | refine wc_seq ?_
    | refine wc_region ?_
    | refine wc_block ?_
    | refine wc_skip ?_
    | refine wc_exit ?_
    | refine wc_ret ?_
    | refine at_ret1 (h:=?_)
    | refine wc_cond_true (ht:=?_)
    | refine wc_cond_false (hf:=?_)
    | (refine wc_cond_dec (ht:=fun _ => ?_) (hf:=fun _ => ?_)<;> (try first | contradiction | (exfalso; omega)))
    | refine wc_cond (ht:=fun _ => ?_) (hf:=fun _ => ?_))
    exact ⟨by rw [← hnum]; rfl, hK⟩
  · have hlt : k < 8 := by omega
    have hkk : (((k + 1 : Nat) : Int) - 1) = (k : Int) := by omega
    rw [hkk]
    have hp : 2 * 2 ^ (8 - (k + 1)) = 2 ^ (8 - k) := by rw [show 8 - k = (8 - (k + 1)) + 1 by omega, Nat.pow_succ]; omega
    have hp2 : 2 ^ (8 - k) ≤ 256 := Nat.pow_le_pow_right (by omega) (show 8 - k ≤ 8 by omega)
    have hg1 := bitsA_get a k hlt
    have hg2 := bitsA_get b k hlt
    rw [Sp.numOf] at hnum
    have hf : bothF a b all k = ((Sp.bit a k && Sp.bit b k) || (!all && (Sp.bit a k || Sp.bit b k))) := rfl
    generalize Sp.bit a k = p at hg1 hf
    generalize Sp.bit b k = q at hg2 hf
    cases p <;> cases q <;> cases all
    all_goals
      repeat' (first
      | (refine op_load1 (hb:=h1) (hc:=by exact hg1) (k:=?_))
      | (refine op_load1 (hb:=hb6) (hc:=by exact hg2) (k:=?_))
      | refine op_move (k:=?_)
      | refine op_assign (k:=?_)
      | refine op_pick_true (k:=?_)
      | refine op_pick_false (k:=?_)
      | refine op_geq (k:=?_)
      | refine op_not (k:=?_)
      | refine op_add (k:=?_)
      | refine op_sub (k:=?_)
      | refine op_add_u8 (k:=?_)
      | refine op_sub_u8 (k:=?_)
      | refine op_mul (k:=?_)
      | refine op_indexAddr_arr (k:=?_)
      | refine op_indexAddr (k:=?_)
      | refine op_load1 (k:=?_)
      | refine wl_skip (k:=?_)
      | (refine wl_split_dec (h1:=fun _ => ?_) (h0:=fun _ => ?_)<;> (try first | contradiction | (exfalso; omega)))
      | (refine wl_split (h1:=fun _ => ?_) (h0:=fun _ => ?_)<;> (fail_if_success contradiction))
      | refine wl_nil ?_
      | refine at_then_normal ?_
      | refine at_then_ret ?_
      | refine at_then_exit ?_
      | refine at_block_normal ?_
      | refine at_block_ret ?_
      | refine at_block_exit ?_
      | refine at_block_other (h:=?_)
      | refine wc_seq ?_
      | refine wc_region ?_
      | refine wc_block ?_
      | refine wc_skip ?_
      | refine wc_exit ?_
      | refine wc_ret ?_
      | refine at_ret1 (h:=?_)
      | refine wc_cond_true (ht:=?_)
      | refine wc_cond_false (hf:=?_)
      | (refine wc_cond_dec (ht:=fun _ => ?_) (hf:=fun _ => ?_)<;> (try first | contradiction | (exfalso; omega)))
      | refine wc_cond (ht:=fun _ => ?_) (hf:=fun _ => ?_))
    all_goals rw [hf] at hnum
    all_goals first
      | (refine at_round ((k, 2 * acc + 1) : Nat × Nat) (by exact ⟨rfl, rfl, rfl, rfl, rfl, trivial⟩) ?_ (by dsimp only; omega)
         exact ⟨by dsimp only; omega, rfl, by dsimp only; omega, hnum⟩)
      | (refine at_round ((k, 2 * acc) : Nat × Nat) (by exact ⟨rfl, rfl, rfl, rfl, rfl, trivial⟩) ?_ (by dsimp only; omega)
         exact ⟨by dsimp only; omega, rfl, by dsimp only; omega, hnum⟩)
end Go.Proofs.YtkbiakajlfmakaaGreatDoor
end
section
namespace Go.Fw
theorem args6 {v0 v1 v2 v3 v4 v5 : Value} : ∀ t u, lk [(0, v0), (1, v1), (2, v2), (3, v3), (4, v4), (5, v5)] t = some u → #[v0, v1, v2, v3, v4, v5][t]? = some u := fun t u h => by
  match t, h with
  | 0, h => have h' : some v0 = some u := h; simpa using h'
  | 1, h => have h' : some v1 = some u := h; simpa using h'
  | 2, h => have h' : some v2 = some u := h; simpa using h'
  | 3, h => have h' : some v3 = some u := h; simpa using h'
  | 4, h => have h' : some v4 = some u := h; simpa using h'
  | 5, h => have h' : some v5 = some u := h; simpa using h'
  | t + 6, h => cases h
end Go.Fw
namespace Go.Proofs.YtkbiakajlfmakaaGreatDoor
open Go.Fw
/-- who looks at an item's secrets: it, what it told. -/
abbrev rfObj (bc : Nat) (a : Option Addr) (n cp i : Nat) (s : Sp.FW) (da : Option Addr) (dp : Nat) (at_ : Int) : HItem :=
  .obj bc (.cells [.slice a n cp, nt i, .slice da s.ds.length dp, .int .i64 at_, .bool s.hv.isSome, nt (s.hv.getD 0)].toArray 48 (0, 0))
abbrev RfSt (bc : Nat) (a : Option Addr) (n cp i : Nat) (s : Sp.FW) (da : Option Addr) (dp : Nat) (at_ : Int) : List HItem := [rfObj bc a n cp i s da dp at_, dgRow s.ds da dp]
abbrev ToRf (bc : Nat) (a : Option Addr) (n cp i : Nat) (at_ : Int) (s : Sp.FW) (val : Value) : Value → Imm → List HItem → Prop :=
  fun v _ H' => v = val ∧ ∃ da dp, H' = RfSt bc a n cp i s da dp at_
/-- locals' labels in a map that does not turn. -/
structure EnvF (I : Imm) (sc : List Sp.Lc) (b : Nat) (es : Ents) : Prop where
  map : MapI I b es
  get : ∀ n, mget es n = (Sp.findLc sc n).map (fun l => nt l.at_)
theorem EnvF.le {I J : Imm} (m : Le I J) {sc : List Sp.Lc} {b : Nat} {es : Ents} (h : EnvF I sc b es) : EnvF J sc b es := ⟨h.map.le m, h.get⟩
theorem look_lab {sc : List Sp.Lc} {es : Ents} (h : ∀ n, mget es n = (Sp.findLc sc n).map (fun l => nt l.at_)) (n : List UInt8) : mlook es n (.int .i64 0) = nt (Sp.getF sc n) := by
  show (mget es n).getD _ = _
  rw [h, Sp.getF]
  cases Sp.findLc sc n <;> rfl
theorem bothC (I : Imm) (a b : Nat) (ha : a < 256) (hb : b < 256) : CalR Tryz.prog 34 #[nt a, nt b, .bool false] I [] (nt (a ||| b)) :=
  ⟨fun w _ _ => by have h := c_both a b false ha hb w; rw [both_or a b ha hb] at h; exact h⟩
theorem meetC (I : Imm) (a b : Nat) (ha : a < 256) (hb : b < 256) : CalR Tryz.prog 34 #[nt a, nt b, .bool true] I [] (nt (a &&& b)) :=
  ⟨fun w _ _ => by have h := c_both a b true ha hb w; rw [both_and a b ha] at h; exact h⟩
theorem flowsC (I : Imm) (a b : Nat) (ha : a < 256) (hb : b < 256) : CalR Tryz.prog 66 #[nt a, nt b] I [] (.bool (Sp.flows a b)) :=
  ⟨fun w _ _ => c_rflows a b ha hb w⟩
section
variable {I : Imm} {bc n i cp dp : Nat} {a da : Option Addr} {s : Sp.FW} {at_ : Int}
theorem RfSt_tell (bc : Nat) (a : Option Addr) (n cp i : Nat) (s : Sp.FW) (f t : Nat) (u : List UInt8) (da : Option Addr) (dp : Nat) (at_ : Int) :
    [.obj bc (.cells [.slice a n cp, nt i, .slice da (s.ds.length + 1) dp, .int .i64 at_, .bool s.hv.isSome, nt (s.hv.getD 0)].toArray 48 (0, 0)), .row (.slice da (s.ds.length + 1) dp) 65 4 (s.ds.length + 1) (s.ds.flatMap encDg ++ encDg ⟨f, t, 9, u⟩)] = RfSt bc a n cp i (s.tell f t u) da dp at_ := by
  simp [Sp.FW.tell, List.flatMap_append]
theorem rf_ask (x y f t : Nat) (u : List UInt8) (hx : x < 256) (hy : y < 256) (hd : s.ds.length ≤ 1000000000) :
    CalM Tryz.prog 49 #[ptr bc, nt x, nt y, nt f, nt t, str u] I (RfSt bc a n cp i s da dp at_) (ToRf bc a n cp i at_ (s.ask x y f t u) (.tuple #[])) := by
  refine CalM.of fun w E hm => enter (N := 29) Tryz.func49 rfl [(0, ptr bc), (1, nt x), (2, nt y), (3, nt f), (4, nt t), (5, str u)] args6 rfl ?_
  have hF := flowsC I x y hx hy
  rw [Sp.FW.ask]
  cases hb : Sp.flows x y with
  | true =>
    rw [hb] at hF
    repeat' (first
    | (refine m_readC (d:=14) hm (hc:=hF) (k:=?_); clear hm; intro _ hm)
    | refine op_move (k:=?_)
    | refine op_not (k:=?_)
    | refine wl_nil ?_
    | refine at_then_normal ?_
    | refine wc_seq ?_
    | refine wc_region ?_
    | refine wc_skip ?_
    | refine at_end0 (h:=?_)
    | refine wc_cond_false (hf:=?_))
    all_goals try (exfalso; first | omega | contradiction)
    exact ⟨I, _, ⟨rfl, _, _, rfl⟩, hm⟩
  | false =>
    rw [hb] at hF
    repeat' (first
    | (refine m_readC (d:=14) hm (hc:=hF) (k:=?_); clear hm; intro _ hm)
    | (refine m_push (d:=26) hm (k:=?_); clear hm; intro a26 cp26 _ _ hm; try simp only [setn] at hm)
    | refine m_load1 hm (k:=?_)
    | (refine m_store1 hm (k:=?_); clear hm; intro _ hm; try simp only [setn] at hm)
    | refine op_move (k:=?_)
    | refine op_not (k:=?_)
    | refine op_nilCheck (k:=?_)
    | refine op_fieldAddr (k:=?_)
    | refine op_struct (k:=?_)
    | refine wl_nil ?_
    | refine at_then_normal ?_
    | refine wc_seq ?_
    | refine wc_region ?_
    | refine at_end0 (h:=?_)
    | refine wc_cond_true (ht:=?_))
    all_goals try (exfalso; first | omega | contradiction)
    exact ⟨I, _, ⟨rfl, _, _, RfSt_tell _ _ _ _ _ s f t u _ _ _⟩, hm⟩
end
section
variable {its : List Sp.Itm} {a : Option Addr} {cp : Nat} {xs : List Value}
set_option maxHeartbeats 16000000 in
theorem rf_floor (I : Imm) (h : FE I its a cp xs) (hlab : Sp.itLab its) (hsm : ∀ x ∈ its, x.small) (k : Nat) (hk : k < its.length) :
    CalR Tryz.prog 17 #[.agg [.slice a its.length cp].toArray, nt k] I [] (nt (Sp.meetF its (Sp.itNo its k).sends)) := by
  refine CalM.read (CalM.of fun w E hm => enter (N := 36) Tryz.func17 rfl [(0, .agg [.slice a its.length cp].toArray), (1, nt k)] args2 rfl ?_)
  have hfew := h.few
  have hg := Sp.itNo_get hk
  obtain ⟨ci, hci, hat, hlc⟩ := h.get hg
  have hri := h.row
  have hsk := (hsm _ (Sp.itNo_mem hk)).sends
  generalize Sp.itNo its k = it at hg hat hsk
  obtain ⟨pa, pc, sa9, sc9, ba, bc9, da9, dc9, xb, rfl, _, hsnd, _⟩ := hat
  repeat' (first
  | (refine i_indexAddr (d:=12) (hr:=hri) (k:=?_); intro bt ot hpt; rw [show ((k : Int).toNat * 10) = k * 10 from rfl, hci] at hpt)
  | (refine m_box (d:=2) hm (k:=?_); clear hm; intro b2 _ hm)
  | refine m_load1 hm (k:=?_)
  | refine i_load1 hm (k:=?_)
  | refine op_move (k:=?_)
  | refine op_assign (k:=?_)
  | refine op_len_slice (k:=?_)
  | refine op_fieldAddr (k:=?_)
  | refine wl_nil ?_
  | refine at_then_normal ?_
  | refine wc_seq ?_
  | refine wc_region ?_
  | refine wc_block ?_)
  all_goals try (exfalso; omega)
  obtain ⟨I0, hle0, hm0, hpf⟩ := hm.freezeO
  clear hm
  have hm := hm0
  clear hm0
  refine wc_loop (fun j : Nat => [(2, ptr b2), (5, nt (Sp.meetF its (it.sends.take j))), (14, .slice sa9 it.sends.length sc9), (15, nt it.sends.length), (16, nt j)])
    (fun j w' => Mem E I0 [] w' ∧ j ≤ it.sends.length) (fun j => it.sends.length - j) 0 (by exact ⟨rfl, rfl, rfl, rfl, rfl, trivial⟩) ⟨hm, Nat.zero_le _⟩ ?_
  clear hm
  rintro j w2 ⟨hm, hj⟩
  try dsimp only at hm hj ⊢
  by_cases hjl : j < it.sends.length
  · have hgs : it.sends[j]? = some it.sends[j] := List.getElem?_eq_getElem hjl
    generalize it.sends[j] = q at hgs
    have hst := Sp.meet_step (its := its) hgs
    have hml := Sp.meetF_lt its (it.sends.take j)
    rw [Sp.meetStep] at hst
    generalize Sp.meetF its (it.sends.take j) = m at hst hml ⊢
    have hfind := (r_find 1 q.name its I0 a cp xs (h.le hle0)).read
    have hsn := hsnd.le hle0
    cases hf : Sp.findIt its 1 q.name with
    | none =>
      rw [hf] at hst
      rw [Sp.findV_none hf] at hfind
      repeat' (first
      | (refine i_indexFlat (d:=18) (enc:=encRf) (z:=q) (hr:=hsn) (he:=fun _ => rfl) (hz:=by exact hgs) (k:=?_); intro bz oz hpz)
      | (refine m_readC (d:=23) hm (hc:=hfind) (k:=?_); clear hm; intro _ hm)
      | (refine m_varS (d:=7) hm (k:=?_); clear hm; intro b7 _ hm)
      | refine m_load1 hm (k:=?_)
      | refine i_loadN hm (k:=?_)
      | refine op_move (k:=?_)
      | refine op_assign (k:=?_)
      | refine op_lss (k:=?_)
      | refine op_geq (k:=?_)
      | refine op_add (k:=?_)
      | refine op_fieldAddr (k:=?_)
      | refine wl_nil ?_
      | refine at_then_normal ?_
      | refine at_block_normal ?_
      | refine wc_seq ?_
      | refine wc_region ?_
      | refine wc_block ?_
      | refine wc_skip ?_
      | refine wc_cond_false (hf:=?_)
      | (refine wc_cond_dec (ht:=fun _ => ?_) (hf:=fun _ => ?_)<;> (try first | contradiction | (exfalso; omega))))
      all_goals try (exfalso; omega)
      exact at_round (j + 1 : Nat) (by exact ⟨rfl, by rw [hst]; rfl, rfl, rfl, rfl, trivial⟩) ⟨hm.tl, by omega⟩ (by omega)
    | some z =>
      rw [hf] at hst
      dsimp only at hst
      rw [Sp.findV_some hf] at hfind
      obtain ⟨hz, _, _, _, hmemz⟩ := Sp.findIt_lt hf
      obtain ⟨cz, hcz, hatz, _⟩ := h.get (Sp.itNo_get hz)
      obtain ⟨pa3, pc3, sa3, sc3, ba3, bc3, da3, dc3, xb3, rfl, _⟩ := hatz
      have hzl := (hlab _ hmemz).1
      have hri2 := hri.le hle0
      have hB := meetC I0 m _ hml hzl
      repeat' (first
      | (refine i_indexFlat (d:=18) (enc:=encRf) (z:=q) (hr:=hsn) (he:=fun _ => rfl) (hz:=by exact hgs) (k:=?_); intro bz oz hpz)
      | (refine m_readC (d:=23) hm (hc:=hfind) (k:=?_); clear hm; intro _ hm)
      | (refine i_indexAddr (d:=30) (hr:=hri2) (k:=?_); intro bu ou hpu; rw [show ((z : Int).toNat * 10) = z * 10 from rfl, hcz] at hpu)
      | (refine m_readC (d:=33) hm (hc:=hB) (k:=?_); clear hm; intro _ hm)
      | (refine m_varS (d:=7) hm (k:=?_); clear hm; intro b7 _ hm)
      | refine m_load1 hm (k:=?_)
      | refine i_load1 hm (k:=?_)
      | refine i_loadN hm (k:=?_)
      | refine op_move (k:=?_)
      | refine op_assign (k:=?_)
      | refine op_lss (k:=?_)
      | refine op_geq (k:=?_)
      | refine op_add (k:=?_)
      | refine op_fieldAddr (k:=?_)
      | refine wl_nil ?_
      | refine at_then_normal ?_
      | refine at_block_normal ?_
      | refine wc_seq ?_
      | refine wc_region ?_
      | refine wc_block ?_
      | refine wc_skip ?_
      | refine wc_cond_true (ht:=?_)
      | (refine wc_cond_dec (ht:=fun _ => ?_) (hf:=fun _ => ?_)<;> (try first | contradiction | (exfalso; omega))))
      all_goals try (exfalso; omega)
      exact at_round (j + 1 : Nat) (by exact ⟨rfl, by rw [hst]; rfl, rfl, rfl, rfl, trivial⟩) ⟨hm.tl, by omega⟩ (by omega)
  · obtain rfl : j = it.sends.length := by omega
    rw [List.take_length]
    repeat' (first
    | refine op_move (k:=?_)
    | refine op_assign (k:=?_)
    | refine op_lss (k:=?_)
    | refine wl_nil ?_
    | refine at_then_normal ?_
    | refine at_then_exit ?_
    | refine at_block_exit ?_
    | refine wc_seq ?_
    | refine wc_region ?_
    | refine wc_exit ?_
    | refine wc_ret ?_
    | refine at_ret1 (h:=?_)
    | (refine wc_cond_dec (ht:=fun _ => ?_) (hf:=fun _ => ?_)<;> (try first | contradiction | (exfalso; omega))))
    all_goals try (exfalso; omega)
    exact ⟨I0, [], ⟨rfl, rfl⟩, hm⟩
end
end Go.Proofs.YtkbiakajlfmakaaGreatDoor
end
