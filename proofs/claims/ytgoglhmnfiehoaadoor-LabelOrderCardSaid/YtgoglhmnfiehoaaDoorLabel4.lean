/- Own work: what the reference's function 'Both' returns. -/
import Derived.Test.YtgoglhmnfiehoaaDoorLabel3
namespace Go.Proofs.YtgoglhmnfiehoaaDoor
open Go.Fw
def bothF (a b : Nat) (all : Bool) (k : Nat) : Bool := (Sp.bit a k && Sp.bit b k) || (!all && (Sp.bit a k || Sp.bit b k))
theorem both_or (a b : Nat) (ha : a < 256) (hb : b < 256) : Sp.numOf (bothF a b false) 8 0 = a ||| b :=
  Sp.numOf_eq _ _ (Sp.or_lt ha hb) (fun k _ => by rw [bothF, Nat.testBit_or, Sp.bit_test, Sp.bit_test]; cases a.testBit k <;> cases b.testBit k <;> rfl)
theorem both_and (a b : Nat) (ha : a < 256) : Sp.numOf (bothF a b true) 8 0 = a &&& b :=
  Sp.numOf_eq _ _ (Sp.and_lt ha) (fun k _ => by rw [bothF, Nat.testBit_and, Sp.bit_test, Sp.bit_test]; cases a.testBit k <;> cases b.testBit k <;> rfl)

set_option maxHeartbeats 4000000 in
theorem c_both (a b : Nat) (all : Bool) (ha : a < 256) (hb : b < 256) (w : World) : Cal Tryd.prog 13 #[.int .i64 a, .int .i64 b, .bool all] w fun v w' => v = .int .i64 ((Sp.numOf (bothF a b all) 8 0 : Nat) : Int) ∧ Kept [] w w' := by
  refine enter (N := 46) Tryd.func13 rfl [(0, .int .i64 a), (1, .int .i64 b), (2, .bool all)] args3 rfl ?_
  repeat' (first
    | (refine op_call (by rfl) (by rfl) (by rfl) (by exact c_bits a ha _) ?_; rintro _ w1 ⟨rfl, hk1⟩)
    | (refine op_call (by rfl) (by rfl) (by rfl) (by exact c_bits b hb _) ?_; rintro _ w2 ⟨rfl, hk2⟩)
    | (refine op_alloc (by rfl) (by rfl) ?_; have := hba; intro b2 w4 zd hbf hzt hbb hkb)
    | (refine op_alloc (by rfl) (by rfl) ?_; intro b1 w3 zc hbe hzs hba hka)
    | (refine op_store_all (by rfl) (by rfl) (by rfl) (by rfl) (hkb.get0 hba) (by rfl) hzs (by rfl) ?_; intro w5 hb5 hk5)
    | (refine op_store_all (by rfl) (by rfl) (by rfl) (by rfl) (hk5.get hbb (by have := lt_of_heap hba; simp; omega)) (by rfl) hzt (by rfl) ?_; intro w6 hb6 hk6)
    | refine op_move (by rfl) (by rfl) (by rfl) ?_
    | refine op_assign (by rfl) (by rfl) (by rfl) ?_
    | refine op_pick_true (by rfl) (by rfl) (by rfl) (by rfl) ?_
    | refine op_pick_false (by rfl) (by rfl) (by rfl) (by rfl) ?_
    | refine op_geq (by rfl) (by rfl) (by rfl) (by rfl) ?_
    | refine op_not (by rfl) (by rfl) (by rfl) ?_
    | refine op_add (by rfl) (by rfl) (by rfl) (by rfl) (by omega) ?_
    | refine op_sub (by rfl) (by rfl) (by rfl) (by rfl) (by omega) ?_
    | refine op_add_u8 (by rfl) (by rfl) (by rfl) (by rfl) (by omega) ?_
    | refine op_sub_u8 (by rfl) (by rfl) (by rfl) (by rfl) (by omega) ?_
    | refine op_mul (by rfl) (by rfl) (by rfl) (by rfl) (by omega) ?_
    | refine op_indexAddr_arr (by rfl) (by rfl) (by rfl) (by rfl) (by omega) (by omega) ?_
    | refine op_indexAddr (by rfl) (by rfl) (by rfl) (by rfl) (by omega) (by omega) ?_
    | refine op_load1 (by rfl) (by rfl) (by rfl) (by assumption) (by rfl) ?_
    | refine wl_skip (by rfl) (by rfl) (by rfl) ?_
    | (refine wl_split_dec (by rfl) (by rfl) (by rfl) (fun _ => ?_) (fun _ => ?_) <;> (try first | contradiction | (exfalso; omega)))
    | (refine wl_split (by rfl) (by rfl) (by rfl) (fun _ => ?_) (fun _ => ?_) <;> (fail_if_success contradiction))
    | refine wl_nil ?_
    | refine at_then_normal ?_
    | refine at_then_ret ?_
    | refine at_then_exit ?_
    | refine at_block_normal ?_
    | refine at_block_ret ?_
    | refine at_block_exit ?_
    | refine at_block_other (by rfl) ?_
    | refine wc_seq ?_
    | refine wc_region ?_
    | refine wc_block ?_
    | refine wc_skip ?_
    | refine wc_exit ?_
    | refine wc_ret ?_
    | refine at_ret1 (by rfl) (by rfl) ?_
    | refine wc_cond_true (by rfl) ?_
    | refine wc_cond_false (by rfl) ?_
    | (refine wc_cond_dec (by rfl) (fun _ => ?_) (fun _ => ?_) <;> (try first | contradiction | (exfalso; omega)))
    | refine wc_cond (by rfl) (fun _ => ?_) (fun _ => ?_))
  have hlt1 := lt_of_heap hba
  have h1 := hk6.get hb5 (by simp; omega)
  have hs1 := hk1.size
  have hs2 := hk2.size
  have hs3 := hka.size
  have hs4 := hkb.size
  have hK : Kept [] w w6 := ((((hk1.trans hk2).trans hka).trans hkb).step hk5 (fun x hx => .inr (by simp at hx; omega))).step hk6 (fun x hx => .inr (by simp at hx; omega))
  refine wc_loop (fun x : Nat × Nat => [(2, .bool all), (7, .pointer (some ⟨b1, 0, none⟩)), (8, .pointer (some ⟨b2, 0, none⟩)), (9, .int .i64 ((x.2 : Nat) : Int)), (10, .int .i64 (((x.1 : Nat) : Int) - 1))])
    (fun x w' => x.1 ≤ 8 ∧ w' = w6 ∧ x.2 < 2 ^ (8 - x.1) ∧ Sp.numOf (bothF a b all) x.1 x.2 = Sp.numOf (bothF a b all) 8 0) (fun x => x.1) (8, 0)
    ⟨rfl, rfl, rfl, rfl, rfl, trivial⟩ ⟨by simp, rfl, by simp, rfl⟩ ?_
  rintro ⟨k, acc⟩ w7 ⟨hk, rfl, hacc, hnum⟩
  dsimp only at hk hacc hnum ⊢
  rcases k with _ | k
  · skip
    repeat' (first
      | refine op_move (by rfl) (by rfl) (by rfl) ?_
      | refine op_assign (by rfl) (by rfl) (by rfl) ?_
      | refine op_pick_true (by rfl) (by rfl) (by rfl) (by rfl) ?_
      | refine op_pick_false (by rfl) (by rfl) (by rfl) (by rfl) ?_
      | refine op_geq (by rfl) (by rfl) (by rfl) (by rfl) ?_
      | refine op_not (by rfl) (by rfl) (by rfl) ?_
      | refine op_add (by rfl) (by rfl) (by rfl) (by rfl) (by omega) ?_
      | refine op_sub (by rfl) (by rfl) (by rfl) (by rfl) (by omega) ?_
      | refine op_add_u8 (by rfl) (by rfl) (by rfl) (by rfl) (by omega) ?_
      | refine op_sub_u8 (by rfl) (by rfl) (by rfl) (by rfl) (by omega) ?_
      | refine op_mul (by rfl) (by rfl) (by rfl) (by rfl) (by omega) ?_
      | refine op_indexAddr_arr (by rfl) (by rfl) (by rfl) (by rfl) (by omega) (by omega) ?_
      | refine op_indexAddr (by rfl) (by rfl) (by rfl) (by rfl) (by omega) (by omega) ?_
      | refine op_load1 (by rfl) (by rfl) (by rfl) (by assumption) (by rfl) ?_
      | refine wl_skip (by rfl) (by rfl) (by rfl) ?_
      | (refine wl_split_dec (by rfl) (by rfl) (by rfl) (fun _ => ?_) (fun _ => ?_) <;> (try first | contradiction | (exfalso; omega)))
      | (refine wl_split (by rfl) (by rfl) (by rfl) (fun _ => ?_) (fun _ => ?_) <;> (fail_if_success contradiction))
      | refine wl_nil ?_
      | refine at_then_normal ?_
      | refine at_then_ret ?_
      | refine at_then_exit ?_
      | refine at_block_normal ?_
      | refine at_block_ret ?_
      | refine at_block_exit ?_
      | refine at_block_other (by rfl) ?_
      | refine wc_seq ?_
      | refine wc_region ?_
      | refine wc_block ?_
      | refine wc_skip ?_
      | refine wc_exit ?_
      | refine wc_ret ?_
      | refine at_ret1 (by rfl) (by rfl) ?_
      | refine wc_cond_true (by rfl) ?_
      | refine wc_cond_false (by rfl) ?_
      | (refine wc_cond_dec (by rfl) (fun _ => ?_) (fun _ => ?_) <;> (try first | contradiction | (exfalso; omega)))
      | refine wc_cond (by rfl) (fun _ => ?_) (fun _ => ?_))
    exact ⟨by rw [← hnum]; rfl, hK⟩
  · have hlt : k < 8 := by omega
    have hkk : (((k + 1 : Nat) : Int) - 1) = (k : Int) := by omega
    rw [hkk]
    have hp : 2 * 2 ^ (8 - (k + 1)) = 2 ^ (8 - k) := by rw [show 8 - k = (8 - (k + 1)) + 1 by omega, Nat.pow_succ]; omega
    have hp2 : 2 ^ (8 - k) ≤ 256 := Nat.pow_le_pow_right (by omega) (show 8 - k ≤ 8 by omega)
    have hg1 := bitsA_get a k hlt
    have hg2 := bitsA_get b k hlt
    rw [Sp.numOf] at hnum
    have hf : bothF a b all k = ((Sp.bit a k && Sp.bit b k) || (!all && (Sp.bit a k || Sp.bit b k))) := rfl
    generalize Sp.bit a k = p at hg1 hf
    generalize Sp.bit b k = q at hg2 hf
    cases p <;> cases q <;> cases all
    all_goals
      repeat' (first
        | (refine op_load1 (by rfl) (by rfl) (by rfl) h1 (by exact hg1) ?_)
        | (refine op_load1 (by rfl) (by rfl) (by rfl) hb6 (by exact hg2) ?_)
        | refine op_move (by rfl) (by rfl) (by rfl) ?_
        | refine op_assign (by rfl) (by rfl) (by rfl) ?_
        | refine op_pick_true (by rfl) (by rfl) (by rfl) (by rfl) ?_
        | refine op_pick_false (by rfl) (by rfl) (by rfl) (by rfl) ?_
        | refine op_geq (by rfl) (by rfl) (by rfl) (by rfl) ?_
        | refine op_not (by rfl) (by rfl) (by rfl) ?_
        | refine op_add (by rfl) (by rfl) (by rfl) (by rfl) (by omega) ?_
        | refine op_sub (by rfl) (by rfl) (by rfl) (by rfl) (by omega) ?_
        | refine op_add_u8 (by rfl) (by rfl) (by rfl) (by rfl) (by omega) ?_
        | refine op_sub_u8 (by rfl) (by rfl) (by rfl) (by rfl) (by omega) ?_
        | refine op_mul (by rfl) (by rfl) (by rfl) (by rfl) (by omega) ?_
        | refine op_indexAddr_arr (by rfl) (by rfl) (by rfl) (by rfl) (by omega) (by omega) ?_
        | refine op_indexAddr (by rfl) (by rfl) (by rfl) (by rfl) (by omega) (by omega) ?_
        | refine op_load1 (by rfl) (by rfl) (by rfl) (by assumption) (by rfl) ?_
        | refine wl_skip (by rfl) (by rfl) (by rfl) ?_
        | (refine wl_split_dec (by rfl) (by rfl) (by rfl) (fun _ => ?_) (fun _ => ?_) <;> (try first | contradiction | (exfalso; omega)))
        | (refine wl_split (by rfl) (by rfl) (by rfl) (fun _ => ?_) (fun _ => ?_) <;> (fail_if_success contradiction))
        | refine wl_nil ?_
        | refine at_then_normal ?_
        | refine at_then_ret ?_
        | refine at_then_exit ?_
        | refine at_block_normal ?_
        | refine at_block_ret ?_
        | refine at_block_exit ?_
        | refine at_block_other (by rfl) ?_
        | refine wc_seq ?_
        | refine wc_region ?_
        | refine wc_block ?_
        | refine wc_skip ?_
        | refine wc_exit ?_
        | refine wc_ret ?_
        | refine at_ret1 (by rfl) (by rfl) ?_
        | refine wc_cond_true (by rfl) ?_
        | refine wc_cond_false (by rfl) ?_
        | (refine wc_cond_dec (by rfl) (fun _ => ?_) (fun _ => ?_) <;> (try first | contradiction | (exfalso; omega)))
        | refine wc_cond (by rfl) (fun _ => ?_) (fun _ => ?_))
    all_goals rw [hf] at hnum
    all_goals first
      | (refine at_round ((k, 2 * acc + 1) : Nat × Nat) (by exact ⟨rfl, rfl, rfl, rfl, rfl, trivial⟩) ?_ (by dsimp only; omega)
         exact ⟨by dsimp only; omega, rfl, by dsimp only; omega, hnum⟩)
      | (refine at_round ((k, 2 * acc) : Nat × Nat) (by exact ⟨rfl, rfl, rfl, rfl, rfl, trivial⟩) ?_ (by dsimp only; omega)
         exact ⟨by dsimp only; omega, rfl, by dsimp only; omega, hnum⟩)
end Go.Proofs.YtgoglhmnfiehoaaDoor
