/- Own work: the closed sentence Names. -/
import Derived.Test.YtgoglhmnfiehoaaFwTy
import Derived.Test.YtgoglhmnfiehoaaFwMem4
namespace Go.Proofs.Ytgoglhmnfiehoaa
open Go.Fw
def had : List Int := [8, 255, 1, 2, 3, 4, 1, 2, 3, 4, 5, 1, 2, 3, 4, 5, 6, 7, 8, 1, 2, 3, 4000, 30, 5, 40, 12, 12, 1000000000, 3000, 40, 1, 2, 3, 4, 5, 6, 7, 8, 9, 40]
def errs : List Int := [0, 1, 2, 3, 4, 5, 6, 7, 8, 9, 10, 11, 12, 13]
theorem errs_at : ∀ k : Nat, k < 14 → errs[k]? = some (k : Int) := by decide
theorem had_at (k : Nat) (h : k < 41) : had[k]? = some (had.getD k 0) := by
  have : k < had.length := h
  rw [List.getD_eq_getElem?_getD, List.getElem?_eq_getElem this]; rfl
theorem at_i (l : List Int) (k : Nat) (x : Int) (h : l[k]? = some x) : ((l.map (Value.int .i64)).toArray)[0 + (k : Int).toNat * 1]? = some (.int .i64 x) := by
  rw [Int.toNat_natCast, Nat.zero_add, Nat.mul_one, List.getElem?_toArray, List.getElem?_map, h]; rfl

set_option maxHeartbeats 2000000 in
theorem sp_names (w : World) : Cal Try.prog 3 #[] w fun v w' => v = .bool true ∧ Kept [] w w' := by
  refine enter (N := 36) Try.func3 rfl [] args0 rfl ?_
  repeat' (first
    | (refine op_buildSlice (by rfl) (by rfl) (by rfl) (by rfl) (by rfl) (by decide) ?_; intro b w1 hbe hb hk)
    | refine op_move (by rfl) (by rfl) (by rfl) ?_
    | refine op_assign (by rfl) (by rfl) (by rfl) ?_
    | refine op_lss (by rfl) (by rfl) (by rfl) (by rfl) ?_
    | refine op_neq (by rfl) (by rfl) (by rfl) (by rfl) ?_
    | refine op_neq_str (by rfl) (by rfl) (by rfl) (by rfl) ?_
    | refine op_neq_bool (by rfl) (by rfl) (by rfl) (by rfl) ?_
    | refine op_neq_flat (by rfl) (by rfl) (by rfl) (by rfl) (by rfl) (by rfl) ?_
    | refine op_len_str (by rfl) (by rfl) (by rfl) ?_
    | refine op_len_slice (by rfl) (by rfl) (by rfl) ?_
    | refine op_add (by rfl) (by rfl) (by rfl) (by rfl) (by omega) ?_
    | refine op_indexAddr (by rfl) (by rfl) (by rfl) (by rfl) (by omega) (by omega) ?_
    | refine op_load1 (by rfl) (by rfl) (by rfl) (by assumption) (by rfl) ?_
    | refine wl_nil ?_
    | refine at_then_normal ?_
    | refine at_then_ret ?_
    | refine at_then_exit ?_
    | refine at_block_normal ?_
    | refine at_block_ret ?_
    | refine at_block_exit ?_
    | refine at_block_other (by rfl) ?_
    | refine wc_seq ?_
    | refine wc_region ?_
    | refine wc_block ?_
    | refine wc_skip ?_
    | refine wc_exit ?_
    | refine wc_ret ?_
    | refine at_ret1 (by rfl) (by rfl) ?_
    | refine wc_quiet (by kernel_rfl) ?_
    | (refine wq_nil ?_; intro _ hkq)
    | (refine wq_nil_tail ?_; intro _ hkq)
    | refine wc_cond_true (by rfl) ?_
    | refine wc_cond_false (by rfl) ?_
    | (refine wc_cond_dec (by rfl) (fun _ => ?_) (fun _ => ?_) <;> (try first | contradiction | (exfalso; omega)))
    | refine wc_cond (by rfl) (fun _ => ?_) (fun _ => ?_)
    | refine q_move (by rfl) (by rfl) (by rfl) ?_
    | refine q_assign (by rfl) (by rfl) (by rfl) ?_
    | refine q_lss (by rfl) (by rfl) (by rfl) (by rfl) ?_
    | refine q_neq (by rfl) (by rfl) (by rfl) (by rfl) ?_
    | refine q_neq_str (by rfl) (by rfl) (by rfl) (by rfl) ?_
    | refine q_neq_bool (by rfl) (by rfl) (by rfl) (by rfl) ?_
    | refine q_neq_flat (by rfl) (by rfl) (by rfl) (by rfl) (by rfl) (by rfl) ?_
    | refine q_len_str (by rfl) (by rfl) (by rfl) ?_
    | refine q_len_slice (by rfl) (by rfl) (by rfl) ?_
    | refine q_add (by rfl) (by rfl) (by rfl) (by rfl) (by omega) ?_
    | refine q_indexAddr (by rfl) (by rfl) (by rfl) (by rfl) (by omega) (by omega) ?_
    | refine q_load1 (by rfl) (by rfl) (by rfl) (by assumption) (by rfl) ?_)
  have hb' : w1.heap[b]? = some (.cells ((errs.map (Value.int .i64)).toArray) 22 (0, 0)) := hb
  clear hb
  refine wc_loop (fun k => [(8, .slice (some ⟨b, 0, none⟩) 14 14), (9, .int .i64 14), (10, .int .i64 ((k : Nat) : Int))])
    (fun k w' => k ≤ 14 ∧ w' = w1) (fun k => 14 - k) 0 ⟨rfl, rfl, rfl, trivial⟩ ⟨by omega, rfl⟩ ?_
  rintro k w2 ⟨hk2, rfl⟩
  by_cases hlt : k < 14
  · have hc := at_i errs k _ (errs_at k hlt)
    repeat' (first
      | (refine op_load1 (by rfl) (by rfl) (by rfl) hb' (by exact hc) ?_)
      | refine op_move (by rfl) (by rfl) (by rfl) ?_
      | refine op_assign (by rfl) (by rfl) (by rfl) ?_
      | refine op_lss (by rfl) (by rfl) (by rfl) (by rfl) ?_
      | refine op_neq (by rfl) (by rfl) (by rfl) (by rfl) ?_
      | refine op_neq_str (by rfl) (by rfl) (by rfl) (by rfl) ?_
      | refine op_neq_bool (by rfl) (by rfl) (by rfl) (by rfl) ?_
      | refine op_neq_flat (by rfl) (by rfl) (by rfl) (by rfl) (by rfl) (by rfl) ?_
      | refine op_len_str (by rfl) (by rfl) (by rfl) ?_
      | refine op_len_slice (by rfl) (by rfl) (by rfl) ?_
      | refine op_add (by rfl) (by rfl) (by rfl) (by rfl) (by omega) ?_
      | refine op_indexAddr (by rfl) (by rfl) (by rfl) (by rfl) (by omega) (by omega) ?_
      | refine op_load1 (by rfl) (by rfl) (by rfl) (by assumption) (by rfl) ?_
      | refine wl_nil ?_
      | refine at_then_normal ?_
      | refine at_then_ret ?_
      | refine at_then_exit ?_
      | refine at_block_normal ?_
      | refine at_block_ret ?_
      | refine at_block_exit ?_
      | refine at_block_other (by rfl) ?_
      | refine wc_seq ?_
      | refine wc_region ?_
      | refine wc_block ?_
      | refine wc_skip ?_
      | refine wc_exit ?_
      | refine wc_ret ?_
      | refine at_ret1 (by rfl) (by rfl) ?_
      | refine wc_quiet (by kernel_rfl) ?_
      | (refine wq_nil ?_; intro _ hkq)
      | (refine wq_nil_tail ?_; intro _ hkq)
      | refine wc_cond_true (by rfl) ?_
      | refine wc_cond_false (by rfl) ?_
      | (refine wc_cond_dec (by rfl) (fun _ => ?_) (fun _ => ?_) <;> (try first | contradiction | (exfalso; omega)))
      | refine wc_cond (by rfl) (fun _ => ?_) (fun _ => ?_)
      | refine q_move (by rfl) (by rfl) (by rfl) ?_
      | refine q_assign (by rfl) (by rfl) (by rfl) ?_
      | refine q_lss (by rfl) (by rfl) (by rfl) (by rfl) ?_
      | refine q_neq (by rfl) (by rfl) (by rfl) (by rfl) ?_
      | refine q_neq_str (by rfl) (by rfl) (by rfl) (by rfl) ?_
      | refine q_neq_bool (by rfl) (by rfl) (by rfl) (by rfl) ?_
      | refine q_neq_flat (by rfl) (by rfl) (by rfl) (by rfl) (by rfl) (by rfl) ?_
      | refine q_len_str (by rfl) (by rfl) (by rfl) ?_
      | refine q_len_slice (by rfl) (by rfl) (by rfl) ?_
      | refine q_add (by rfl) (by rfl) (by rfl) (by rfl) (by omega) ?_
      | refine q_indexAddr (by rfl) (by rfl) (by rfl) (by rfl) (by omega) (by omega) ?_
      | refine q_load1 (by rfl) (by rfl) (by rfl) (by assumption) (by rfl) ?_)
    refine at_round (k + 1) (by exact ⟨rfl, rfl, rfl, trivial⟩) ?_ (by omega)
    exact ⟨by omega, rfl⟩
  · skip
    repeat' (first
      | (refine op_buildSlice (by rfl) (by rfl) (by rfl) (by rfl) (by rfl) (by decide) ?_; have := hq1; intro b2 w4 hbe2 hq2 hk4)
      | (refine op_buildSlice (by rfl) (by rfl) (by rfl) (by rfl) (by rfl) (by decide) ?_; intro b1 w3 hbe1 hq1 hk3)
      | refine op_move (by rfl) (by rfl) (by rfl) ?_
      | refine op_assign (by rfl) (by rfl) (by rfl) ?_
      | refine op_lss (by rfl) (by rfl) (by rfl) (by rfl) ?_
      | refine op_neq (by rfl) (by rfl) (by rfl) (by rfl) ?_
      | refine op_neq_str (by rfl) (by rfl) (by rfl) (by rfl) ?_
      | refine op_neq_bool (by rfl) (by rfl) (by rfl) (by rfl) ?_
      | refine op_neq_flat (by rfl) (by rfl) (by rfl) (by rfl) (by rfl) (by rfl) ?_
      | refine op_len_str (by rfl) (by rfl) (by rfl) ?_
      | refine op_len_slice (by rfl) (by rfl) (by rfl) ?_
      | refine op_add (by rfl) (by rfl) (by rfl) (by rfl) (by omega) ?_
      | refine op_indexAddr (by rfl) (by rfl) (by rfl) (by rfl) (by omega) (by omega) ?_
      | refine op_load1 (by rfl) (by rfl) (by rfl) (by assumption) (by rfl) ?_
      | refine wl_nil ?_
      | refine at_then_normal ?_
      | refine at_then_ret ?_
      | refine at_then_exit ?_
      | refine at_block_normal ?_
      | refine at_block_ret ?_
      | refine at_block_exit ?_
      | refine at_block_other (by rfl) ?_
      | refine wc_seq ?_
      | refine wc_region ?_
      | refine wc_block ?_
      | refine wc_skip ?_
      | refine wc_exit ?_
      | refine wc_ret ?_
      | refine at_ret1 (by rfl) (by rfl) ?_
      | refine wc_quiet (by kernel_rfl) ?_
      | (refine wq_nil ?_; intro _ hkq)
      | (refine wq_nil_tail ?_; intro _ hkq)
      | refine wc_cond_true (by rfl) ?_
      | refine wc_cond_false (by rfl) ?_
      | (refine wc_cond_dec (by rfl) (fun _ => ?_) (fun _ => ?_) <;> (try first | contradiction | (exfalso; omega)))
      | refine wc_cond (by rfl) (fun _ => ?_) (fun _ => ?_)
      | refine q_move (by rfl) (by rfl) (by rfl) ?_
      | refine q_assign (by rfl) (by rfl) (by rfl) ?_
      | refine q_lss (by rfl) (by rfl) (by rfl) (by rfl) ?_
      | refine q_neq (by rfl) (by rfl) (by rfl) (by rfl) ?_
      | refine q_neq_str (by rfl) (by rfl) (by rfl) (by rfl) ?_
      | refine q_neq_bool (by rfl) (by rfl) (by rfl) (by rfl) ?_
      | refine q_neq_flat (by rfl) (by rfl) (by rfl) (by rfl) (by rfl) (by rfl) ?_
      | refine q_len_str (by rfl) (by rfl) (by rfl) ?_
      | refine q_len_slice (by rfl) (by rfl) (by rfl) ?_
      | refine q_add (by rfl) (by rfl) (by rfl) (by rfl) (by omega) ?_
      | refine q_indexAddr (by rfl) (by rfl) (by rfl) (by rfl) (by omega) (by omega) ?_
      | refine q_load1 (by rfl) (by rfl) (by rfl) (by assumption) (by rfl) ?_)
    have h1' : w4.heap[b1]? = some (.cells ((had.map (Value.int .i64)).toArray) 3 (0, 0)) := hk4.get0 hq1
    have h2' : w4.heap[b2]? = some (.cells ((had.map (Value.int .i64)).toArray) 3 (0, 0)) := hq2
    clear hq1 hq2
    refine wc_loop (fun k => [(4, .slice (some ⟨b1, 0, none⟩) 41 41), (5, .slice (some ⟨b2, 0, none⟩) 41 41), (22, .int .i64 41), (23, .int .i64 ((k : Nat) : Int))])
      (fun k w' => k ≤ 41 ∧ Kept [] w4 w') (fun k => 41 - k) 0 ⟨rfl, rfl, rfl, rfl, trivial⟩ ⟨by omega, Kept.refl _ _⟩ ?_
    rintro k3 w5 ⟨hk5, hkept⟩
    by_cases hlt : k3 < 41
    · have hc := at_i had k3 _ (had_at k3 hlt)
      have h1 := hkept.get0 h1'
      have h2 := hkept.get0 h2'
      repeat' (first
        | (refine q_load1 (by rfl) (by rfl) (by rfl) h1 (by exact hc) ?_)
        | (refine q_load1 (by rfl) (by rfl) (by rfl) h2 (by exact hc) ?_)
        | refine op_move (by rfl) (by rfl) (by rfl) ?_
        | refine op_assign (by rfl) (by rfl) (by rfl) ?_
        | refine op_lss (by rfl) (by rfl) (by rfl) (by rfl) ?_
        | refine op_neq (by rfl) (by rfl) (by rfl) (by rfl) ?_
        | refine op_neq_str (by rfl) (by rfl) (by rfl) (by rfl) ?_
        | refine op_neq_bool (by rfl) (by rfl) (by rfl) (by rfl) ?_
        | refine op_neq_flat (by rfl) (by rfl) (by rfl) (by rfl) (by rfl) (by rfl) ?_
        | refine op_len_str (by rfl) (by rfl) (by rfl) ?_
        | refine op_len_slice (by rfl) (by rfl) (by rfl) ?_
        | refine op_add (by rfl) (by rfl) (by rfl) (by rfl) (by omega) ?_
        | refine op_indexAddr (by rfl) (by rfl) (by rfl) (by rfl) (by omega) (by omega) ?_
        | refine op_load1 (by rfl) (by rfl) (by rfl) (by assumption) (by rfl) ?_
        | refine wl_nil ?_
        | refine at_then_normal ?_
        | refine at_then_ret ?_
        | refine at_then_exit ?_
        | refine at_block_normal ?_
        | refine at_block_ret ?_
        | refine at_block_exit ?_
        | refine at_block_other (by rfl) ?_
        | refine wc_seq ?_
        | refine wc_region ?_
        | refine wc_block ?_
        | refine wc_skip ?_
        | refine wc_exit ?_
        | refine wc_ret ?_
        | refine at_ret1 (by rfl) (by rfl) ?_
        | refine wc_quiet (by kernel_rfl) ?_
        | (refine wq_nil ?_; intro _ hkq)
        | (refine wq_nil_tail ?_; intro _ hkq)
        | refine wc_cond_true (by rfl) ?_
        | refine wc_cond_false (by rfl) ?_
        | (refine wc_cond_dec (by rfl) (fun _ => ?_) (fun _ => ?_) <;> (try first | contradiction | (exfalso; omega)))
        | refine wc_cond (by rfl) (fun _ => ?_) (fun _ => ?_)
        | refine q_move (by rfl) (by rfl) (by rfl) ?_
        | refine q_assign (by rfl) (by rfl) (by rfl) ?_
        | refine q_lss (by rfl) (by rfl) (by rfl) (by rfl) ?_
        | refine q_neq (by rfl) (by rfl) (by rfl) (by rfl) ?_
        | refine q_neq_str (by rfl) (by rfl) (by rfl) (by rfl) ?_
        | refine q_neq_bool (by rfl) (by rfl) (by rfl) (by rfl) ?_
        | refine q_neq_flat (by rfl) (by rfl) (by rfl) (by rfl) (by rfl) (by rfl) ?_
        | refine q_len_str (by rfl) (by rfl) (by rfl) ?_
        | refine q_len_slice (by rfl) (by rfl) (by rfl) ?_
        | refine q_add (by rfl) (by rfl) (by rfl) (by rfl) (by omega) ?_
        | refine q_indexAddr (by rfl) (by rfl) (by rfl) (by rfl) (by omega) (by omega) ?_
        | refine q_load1 (by rfl) (by rfl) (by rfl) (by assumption) (by rfl) ?_)
      refine at_round (k3 + 1) (by exact ⟨rfl, rfl, rfl, rfl, trivial⟩) ?_ (by omega)
      exact ⟨by omega, hkept.trans hkq⟩
    · skip
      repeat' (first
        | refine op_move (by rfl) (by rfl) (by rfl) ?_
        | refine op_assign (by rfl) (by rfl) (by rfl) ?_
        | refine op_lss (by rfl) (by rfl) (by rfl) (by rfl) ?_
        | refine op_neq (by rfl) (by rfl) (by rfl) (by rfl) ?_
        | refine op_neq_str (by rfl) (by rfl) (by rfl) (by rfl) ?_
        | refine op_neq_bool (by rfl) (by rfl) (by rfl) (by rfl) ?_
        | refine op_neq_flat (by rfl) (by rfl) (by rfl) (by rfl) (by rfl) (by rfl) ?_
        | refine op_len_str (by rfl) (by rfl) (by rfl) ?_
        | refine op_len_slice (by rfl) (by rfl) (by rfl) ?_
        | refine op_add (by rfl) (by rfl) (by rfl) (by rfl) (by omega) ?_
        | refine op_indexAddr (by rfl) (by rfl) (by rfl) (by rfl) (by omega) (by omega) ?_
        | refine op_load1 (by rfl) (by rfl) (by rfl) (by assumption) (by rfl) ?_
        | refine wl_nil ?_
        | refine at_then_normal ?_
        | refine at_then_ret ?_
        | refine at_then_exit ?_
        | refine at_block_normal ?_
        | refine at_block_ret ?_
        | refine at_block_exit ?_
        | refine at_block_other (by rfl) ?_
        | refine wc_seq ?_
        | refine wc_region ?_
        | refine wc_block ?_
        | refine wc_skip ?_
        | refine wc_exit ?_
        | refine wc_ret ?_
        | refine at_ret1 (by rfl) (by rfl) ?_
        | refine wc_quiet (by kernel_rfl) ?_
        | (refine wq_nil ?_; intro _ hkq)
        | (refine wq_nil_tail ?_; intro _ hkq)
        | refine wc_cond_true (by rfl) ?_
        | refine wc_cond_false (by rfl) ?_
        | (refine wc_cond_dec (by rfl) (fun _ => ?_) (fun _ => ?_) <;> (try first | contradiction | (exfalso; omega)))
        | refine wc_cond (by rfl) (fun _ => ?_) (fun _ => ?_)
        | refine q_move (by rfl) (by rfl) (by rfl) ?_
        | refine q_assign (by rfl) (by rfl) (by rfl) ?_
        | refine q_lss (by rfl) (by rfl) (by rfl) (by rfl) ?_
        | refine q_neq (by rfl) (by rfl) (by rfl) (by rfl) ?_
        | refine q_neq_str (by rfl) (by rfl) (by rfl) (by rfl) ?_
        | refine q_neq_bool (by rfl) (by rfl) (by rfl) (by rfl) ?_
        | refine q_neq_flat (by rfl) (by rfl) (by rfl) (by rfl) (by rfl) (by rfl) ?_
        | refine q_len_str (by rfl) (by rfl) (by rfl) ?_
        | refine q_len_slice (by rfl) (by rfl) (by rfl) ?_
        | refine q_add (by rfl) (by rfl) (by rfl) (by rfl) (by omega) ?_
        | refine q_indexAddr (by rfl) (by rfl) (by rfl) (by rfl) (by omega) (by omega) ?_
        | refine q_load1 (by rfl) (by rfl) (by rfl) (by assumption) (by rfl) ?_)
      exact ⟨rfl, ((hk.trans hk3).trans hk4).trans hkept⟩
end Go.Proofs.Ytgoglhmnfiehoaa
