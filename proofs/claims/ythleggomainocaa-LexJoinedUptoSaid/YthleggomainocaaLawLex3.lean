/- Own work: the statements about chapter 2: 'alive' and 'gap', and LexWhole. -/
import Derived.Test.YthleggomainocaaLawLex2
namespace Go.Proofs.Ythleggomainocaa
open Go.Fw

theorem c_gap (s : List UInt8) (hl : s.length ≤ 1099511627776) (w : World) :
    Cal Try.prog 23 #[str s] w fun v w' => v = .bool (Sp.gapF false s) ∧ w' = w := by
  refine enter (N := 31) Try.func23 rfl [(0, str s)] args1 rfl ?_
  repeat' (first
    | refine op_move (by rfl) (by rfl) (by rfl) ?_
    | refine op_assign (by rfl) (by rfl) (by rfl) ?_
    | refine op_pick_true (by rfl) (by rfl) (by rfl) (by rfl) ?_
    | refine op_pick_false (by rfl) (by rfl) (by rfl) (by rfl) ?_
    | refine op_lss (by rfl) (by rfl) (by rfl) (by rfl) ?_
    | refine op_eql (by rfl) (by rfl) (by rfl) (by rfl) ?_
    | refine op_eql_str (by rfl) (by rfl) (by rfl) (by rfl) ?_
    | refine op_eql_bool (by rfl) (by rfl) (by rfl) (by rfl) ?_
    | refine op_eql_flat (by rfl) (by rfl) (by rfl) (by rfl) (by rfl) (by rfl) ?_
    | refine op_len_str (by rfl) (by rfl) (by rfl) ?_
    | refine op_len_slice (by rfl) (by rfl) (by rfl) ?_
    | refine op_not (by rfl) (by rfl) (by rfl) ?_
    | refine op_add (by rfl) (by rfl) (by rfl) (by rfl) (by omega) ?_
    | refine op_index_str (by rfl) (by rfl) (by rfl) (by rfl) (by omega) (by omega) ?_
    | refine wl_skip (by rfl) (by rfl) (by rfl) ?_
    | (refine wl_split_dec (by rfl) (by rfl) (by rfl) (fun _ => ?_) (fun _ => ?_) <;> (try first | contradiction | (exfalso; omega)))
    | (refine wl_split (by rfl) (by rfl) (by rfl) (fun _ => ?_) (fun _ => ?_) <;> (fail_if_success contradiction))
    | refine wl_nil ?_
    | refine at_then_normal ?_
    | refine at_then_ret ?_
    | refine at_then_exit ?_
    | refine at_block_normal ?_
    | refine at_block_ret ?_
    | refine at_block_exit ?_
    | refine at_block_other (by rfl) ?_
    | refine wc_seq ?_
    | refine wc_region ?_
    | refine wc_block ?_
    | refine wc_skip ?_
    | refine wc_exit ?_
    | refine wc_ret ?_
    | refine at_ret1 (by rfl) (by rfl) ?_
    | refine wc_cond_true (by rfl) ?_
    | refine wc_cond_false (by rfl) ?_
    | (refine wc_cond_dec (by rfl) (fun _ => ?_) (fun _ => ?_) <;> (try first | contradiction | (exfalso; omega)))
    | refine wc_cond (by rfl) (fun _ => ?_) (fun _ => ?_))
  refine wc_loop (fun x : Nat × Bool => [(0, str s), (3, .bool x.2), (6, .int .i64 (s.length : Int)), (7, .int .i64 ((x.1 : Nat) : Int))])
    (fun x w' => w' = w ∧ x.1 ≤ s.length ∧ Sp.gapF x.2 (s.drop x.1) = Sp.gapF false s) (fun x => s.length - x.1) (0, false) ⟨rfl, rfl, rfl, rfl, trivial⟩ ⟨rfl, by simp, rfl⟩ ?_
  rintro ⟨k, note⟩ w1 ⟨rfl, hk, heq⟩
  dsimp only at hk heq ⊢
  by_cases hlt : k < s.length
  · have hd : s.drop k = s.getD k 0 :: s.drop (k + 1) := by
      rw [List.drop_eq_getElem_cons hlt, List.getD_eq_getElem?_getD, List.getElem?_eq_getElem hlt]; rfl
    rw [hd, Sp.gapF] at heq
    repeat' (first
      | (refine op_call (by rfl) (by rfl) (by rfl) (by exact c_blank _ _) ?_; rintro _ w ⟨rfl, rfl⟩)
      | refine op_move (by rfl) (by rfl) (by rfl) ?_
      | refine op_assign (by rfl) (by rfl) (by rfl) ?_
      | refine op_pick_true (by rfl) (by rfl) (by rfl) (by rfl) ?_
      | refine op_pick_false (by rfl) (by rfl) (by rfl) (by rfl) ?_
      | refine op_lss (by rfl) (by rfl) (by rfl) (by rfl) ?_
      | refine op_eql (by rfl) (by rfl) (by rfl) (by rfl) ?_
      | refine op_eql_str (by rfl) (by rfl) (by rfl) (by rfl) ?_
      | refine op_eql_bool (by rfl) (by rfl) (by rfl) (by rfl) ?_
      | refine op_eql_flat (by rfl) (by rfl) (by rfl) (by rfl) (by rfl) (by rfl) ?_
      | refine op_len_str (by rfl) (by rfl) (by rfl) ?_
      | refine op_len_slice (by rfl) (by rfl) (by rfl) ?_
      | refine op_not (by rfl) (by rfl) (by rfl) ?_
      | refine op_add (by rfl) (by rfl) (by rfl) (by rfl) (by omega) ?_
      | refine op_index_str (by rfl) (by rfl) (by rfl) (by rfl) (by omega) (by omega) ?_
      | refine wl_skip (by rfl) (by rfl) (by rfl) ?_
      | (refine wl_split_dec (by rfl) (by rfl) (by rfl) (fun _ => ?_) (fun _ => ?_) <;> (try first | contradiction | (exfalso; omega)))
      | (refine wl_split (by rfl) (by rfl) (by rfl) (fun _ => ?_) (fun _ => ?_) <;> (fail_if_success contradiction))
      | refine wl_nil ?_
      | refine at_then_normal ?_
      | refine at_then_ret ?_
      | refine at_then_exit ?_
      | refine at_block_normal ?_
      | refine at_block_ret ?_
      | refine at_block_exit ?_
      | refine at_block_other (by rfl) ?_
      | refine wc_seq ?_
      | refine wc_region ?_
      | refine wc_block ?_
      | refine wc_skip ?_
      | refine wc_exit ?_
      | refine wc_ret ?_
      | refine at_ret1 (by rfl) (by rfl) ?_
      | refine wc_cond_true (by rfl) ?_
      | refine wc_cond_false (by rfl) ?_
      | (refine wc_cond_dec (by rfl) (fun _ => ?_) (fun _ => ?_) <;> (try first | contradiction | (exfalso; omega)))
      | refine wc_cond (by rfl) (fun _ => ?_) (fun _ => ?_))
    all_goals (try rw [Int.toNat_natCast] at *)
    · rw [if_pos (by omega)] at heq
      refine at_round ((k + 1, false) : Nat × Bool) (by exact ⟨rfl, rfl, rfl, rfl, trivial⟩) ?_ (by dsimp only; omega)
      exact ⟨rfl, by dsimp only; omega, heq⟩
    · rw [if_neg (by omega), if_pos (by omega)] at heq
      refine at_round ((k + 1, true) : Nat × Bool) (by exact ⟨rfl, rfl, rfl, rfl, trivial⟩) ?_ (by dsimp only; omega)
      exact ⟨rfl, by dsimp only; omega, heq⟩
    · rename_i h1 h2
      rw [if_neg (by omega), if_neg (by omega), if_pos (by rw [h1, h2]; rfl)] at heq
      exact ⟨by rw [← heq], rfl⟩
    · rename_i h2
      rw [if_neg (by omega), if_neg (by omega), if_neg (by rw [h2]; simp)] at heq
      refine at_round ((k + 1, note) : Nat × Bool) (by exact ⟨rfl, rfl, rfl, rfl, trivial⟩) ?_ (by dsimp only; omega)
      exact ⟨rfl, by dsimp only; omega, heq⟩
    · rename_i h1
      rw [if_neg (by omega), if_neg (by omega), if_neg (by rw [h1]; simp)] at heq
      refine at_round ((k + 1, note) : Nat × Bool) (by exact ⟨rfl, rfl, rfl, rfl, trivial⟩) ?_ (by dsimp only; omega)
      exact ⟨rfl, by dsimp only; omega, heq⟩
  · have hk' : k = s.length := by omega
    repeat' (first
      | refine op_move (by rfl) (by rfl) (by rfl) ?_
      | refine op_assign (by rfl) (by rfl) (by rfl) ?_
      | refine op_pick_true (by rfl) (by rfl) (by rfl) (by rfl) ?_
      | refine op_pick_false (by rfl) (by rfl) (by rfl) (by rfl) ?_
      | refine op_lss (by rfl) (by rfl) (by rfl) (by rfl) ?_
      | refine op_eql (by rfl) (by rfl) (by rfl) (by rfl) ?_
      | refine op_eql_str (by rfl) (by rfl) (by rfl) (by rfl) ?_
      | refine op_eql_bool (by rfl) (by rfl) (by rfl) (by rfl) ?_
      | refine op_eql_flat (by rfl) (by rfl) (by rfl) (by rfl) (by rfl) (by rfl) ?_
      | refine op_len_str (by rfl) (by rfl) (by rfl) ?_
      | refine op_len_slice (by rfl) (by rfl) (by rfl) ?_
      | refine op_not (by rfl) (by rfl) (by rfl) ?_
      | refine op_add (by rfl) (by rfl) (by rfl) (by rfl) (by omega) ?_
      | refine op_index_str (by rfl) (by rfl) (by rfl) (by rfl) (by omega) (by omega) ?_
      | refine wl_skip (by rfl) (by rfl) (by rfl) ?_
      | (refine wl_split_dec (by rfl) (by rfl) (by rfl) (fun _ => ?_) (fun _ => ?_) <;> (try first | contradiction | (exfalso; omega)))
      | (refine wl_split (by rfl) (by rfl) (by rfl) (fun _ => ?_) (fun _ => ?_) <;> (fail_if_success contradiction))
      | refine wl_nil ?_
      | refine at_then_normal ?_
      | refine at_then_ret ?_
      | refine at_then_exit ?_
      | refine at_block_normal ?_
      | refine at_block_ret ?_
      | refine at_block_exit ?_
      | refine at_block_other (by rfl) ?_
      | refine wc_seq ?_
      | refine wc_region ?_
      | refine wc_block ?_
      | refine wc_skip ?_
      | refine wc_exit ?_
      | refine wc_ret ?_
      | refine at_ret1 (by rfl) (by rfl) ?_
      | refine wc_cond_true (by rfl) ?_
      | refine wc_cond_false (by rfl) ?_
      | (refine wc_cond_dec (by rfl) (fun _ => ?_) (fun _ => ?_) <;> (try first | contradiction | (exfalso; omega)))
      | refine wc_cond (by rfl) (fun _ => ?_) (fun _ => ?_))
    rw [hk', List.drop_length] at heq
    exact ⟨by rw [← heq]; rfl, rfl⟩

set_option maxHeartbeats 1000000 in
theorem c_alive (w : World) : Cal Try.prog 22 #[] w fun v w' => v = .bool true ∧ Kept [] w w' := by
  refine enter (N := 47) Try.func22 rfl [] args0 rfl ?_
  have ht : Sp.tokens [97, 98, 49, 32, 49, 50, 43, 63, 32, 35, 32, 110, 111, 116, 101, 10, 102, 110] = [⟨1, [97, 98, 49], 0⟩, ⟨2, [49, 50], 4⟩, ⟨3, [43], 6⟩, ⟨4, [63], 7⟩, ⟨1, [102, 110], 16⟩] := by decide +kernel
  have hc : Sp.cuts [120, 10, 102, 110, 32, 97] = [0, 2] := by decide +kernel
  have hn1 : Sp.name [97] = true := by decide +kernel
  have hn2 : Sp.name [102, 110] = false := by decide +kernel
  have hw1 : Sp.word [102, 110] = true := by decide +kernel
  repeat' (first
    | (refine op_call (by rfl) (by rfl) (by rfl) (by exact c_tokens [97, 98, 49, 32, 49, 50, 43, 63, 32, 35, 32, 110, 111, 116, 101, 10, 102, 110] (by decide) _) ?_; rintro ca w1 ⟨hca, hk1⟩; rw [ht] at hca; obtain ⟨g, cap, cur, rfl, _, hg, _, hcur, _⟩ := own_open hca (by decide))
    | (refine op_load1 (by rfl) (by rfl) (by rfl) hg (by exact hcur _ _ (by rfl)) ?_)
    | (refine op_call (by rfl) (by rfl) (by rfl) (by exact c_cuts [120, 10, 102, 110, 32, 97] (by decide) _) ?_; rintro cb w2 ⟨hcb, hk2⟩; rw [hc] at hcb; obtain ⟨a1, c1, rfl⟩ := own_val hcb)
    | (refine op_call (by rfl) (by rfl) (by rfl) (by exact c_name [97] (by decide) _) ?_; rintro _ w3 ⟨rfl, hk3⟩; rw [hn1])
    | (refine op_call (by rfl) (by rfl) (by rfl) (by exact c_name [102, 110] (by decide) _) ?_; rintro _ w4 ⟨rfl, hk4⟩; rw [hn2])
    | (refine op_call (by rfl) (by rfl) (by rfl) (by exact c_word [102, 110] (by decide) _) ?_; rintro _ w4 ⟨rfl, rfl⟩; rw [hw1])
    | (refine op_call (by rfl) (by rfl) (by rfl) (by exact c_own _) ?_; rintro o0 w5 ⟨ho0, hk5⟩; obtain ⟨a2, c2, rfl⟩ := own_val ho0)
    | refine op_move (by rfl) (by rfl) (by rfl) ?_
    | refine op_assign (by rfl) (by rfl) (by rfl) ?_
    | refine op_pick_true (by rfl) (by rfl) (by rfl) (by rfl) ?_
    | refine op_pick_false (by rfl) (by rfl) (by rfl) (by rfl) ?_
    | refine op_eql (by rfl) (by rfl) (by rfl) (by rfl) ?_
    | refine op_eql_str (by rfl) (by rfl) (by rfl) (by rfl) ?_
    | refine op_eql_bool (by rfl) (by rfl) (by rfl) (by rfl) ?_
    | refine op_eql_flat (by rfl) (by rfl) (by rfl) (by rfl) (by rfl) (by rfl) ?_
    | refine op_len_str (by rfl) (by rfl) (by rfl) ?_
    | refine op_len_slice (by rfl) (by rfl) (by rfl) ?_
    | refine op_not (by rfl) (by rfl) (by rfl) ?_
    | refine op_fieldAddr (by rfl) (by rfl) (by rfl) ?_
    | refine op_indexAddr (by rfl) (by rfl) (by rfl) (by rfl) (by omega) (by omega) ?_
    | refine op_load1 (by rfl) (by rfl) (by rfl) (by assumption) (by rfl) ?_
    | refine wl_skip (by rfl) (by rfl) (by rfl) ?_
    | (refine wl_split_dec (by rfl) (by rfl) (by rfl) (fun _ => ?_) (fun _ => ?_) <;> (try first | contradiction | (exfalso; omega)))
    | (refine wl_split (by rfl) (by rfl) (by rfl) (fun _ => ?_) (fun _ => ?_) <;> (fail_if_success contradiction))
    | refine wl_nil ?_
    | refine at_then_normal ?_
    | refine at_then_ret ?_
    | refine wc_seq ?_
    | refine wc_region ?_
    | refine wc_skip ?_
    | refine wc_ret ?_
    | refine at_ret1 (by rfl) (by rfl) ?_)
  exact ⟨rfl, (((hk1.trans hk2).trans hk3).trans hk4).trans hk5⟩

structure WLoop where
  k : Nat
  at_ : Nat
  note : Nat
set_option maxHeartbeats 2000000 in
theorem sp_whole (s : List UInt8) (hl : s.length ≤ 1099511627776) (w : World) :
    Cal Try.prog 4 #[str s] w fun v w' => v = .bool true ∧ Kept [] w w' := by
  refine enter (N := 67) Try.func4 rfl [(0, str s)] args1 rfl ?_
  have hbl := toks_len s
  repeat' (first
    | (refine op_call (by rfl) (by rfl) (by rfl) (by exact c_alive _) ?_; rintro _ w1 ⟨rfl, hk1⟩)
    | (refine op_call (by rfl) (by rfl) (by rfl) (by exact c_tokens s hl _) ?_; rintro ta w2 ⟨hta, hk2⟩; obtain ⟨a0, c0, rfl⟩ := own_val hta)
    | refine op_move (by rfl) (by rfl) (by rfl) ?_
    | refine op_assign (by rfl) (by rfl) (by rfl) ?_
    | refine op_pick_true (by rfl) (by rfl) (by rfl) (by rfl) ?_
    | refine op_pick_false (by rfl) (by rfl) (by rfl) (by rfl) ?_
    | refine op_lss (by rfl) (by rfl) (by rfl) (by rfl) ?_
    | refine op_gtr (by rfl) (by rfl) (by rfl) (by rfl) ?_
    | refine op_eql (by rfl) (by rfl) (by rfl) (by rfl) ?_
    | refine op_neq (by rfl) (by rfl) (by rfl) (by rfl) ?_
    | refine op_eql_str (by rfl) (by rfl) (by rfl) (by rfl) ?_
    | refine op_eql_bool (by rfl) (by rfl) (by rfl) (by rfl) ?_
    | refine op_eql_flat (by rfl) (by rfl) (by rfl) (by rfl) (by rfl) (by rfl) ?_
    | refine op_neq_str (by rfl) (by rfl) (by rfl) (by rfl) ?_
    | refine op_neq_bool (by rfl) (by rfl) (by rfl) (by rfl) ?_
    | refine op_neq_flat (by rfl) (by rfl) (by rfl) (by rfl) (by rfl) (by rfl) ?_
    | refine op_len_str (by rfl) (by rfl) (by rfl) ?_
    | refine op_len_slice (by rfl) (by rfl) (by rfl) ?_
    | refine op_not (by rfl) (by rfl) (by rfl) ?_
    | refine op_add (by rfl) (by rfl) (by rfl) (by rfl) (by omega) ?_
    | refine op_sub (by rfl) (by rfl) (by rfl) (by rfl) (by omega) ?_
    | refine op_slice_str (by rfl) (by rfl) (by rfl) (by rfl) (by rfl) (by omega) ?_
    | refine op_slice_from (by rfl) (by rfl) (by rfl) (by rfl) (by omega) ?_
    | refine op_slice_to (by rfl) (by rfl) (by rfl) (by rfl) (by omega) ?_
    | refine op_fieldAddr (by rfl) (by rfl) (by rfl) ?_
    | refine op_indexAddr (by rfl) (by rfl) (by rfl) (by rfl) (by omega) (by omega) ?_
    | refine op_load1 (by rfl) (by rfl) (by rfl) (by assumption) (by rfl) ?_
    | refine wl_skip (by rfl) (by rfl) (by rfl) ?_
    | (refine wl_split_dec (by rfl) (by rfl) (by rfl) (fun _ => ?_) (fun _ => ?_) <;> (try first | contradiction | (exfalso; omega)))
    | (refine wl_split (by rfl) (by rfl) (by rfl) (fun _ => ?_) (fun _ => ?_) <;> (fail_if_success contradiction))
    | refine wl_nil ?_
    | refine at_then_normal ?_
    | refine at_then_ret ?_
    | refine at_then_exit ?_
    | refine at_block_normal ?_
    | refine at_block_ret ?_
    | refine at_block_exit ?_
    | refine at_block_other (by rfl) ?_
    | refine wc_seq ?_
    | refine wc_region ?_
    | refine wc_block ?_
    | refine wc_skip ?_
    | refine wc_exit ?_
    | refine wc_ret ?_
    | refine at_ret1 (by rfl) (by rfl) ?_
    | refine wc_quiet (by kernel_rfl) ?_
    | (refine wq_nil ?_; intro _ hkq)
    | (refine wq_nil_tail ?_; intro _ hkq)
    | refine wc_cond_true (by rfl) ?_
    | refine wc_cond_false (by rfl) ?_
    | (refine wc_cond_dec (by rfl) (fun _ => ?_) (fun _ => ?_) <;> (try first | contradiction | (exfalso; omega)))
    | refine wc_cond (by rfl) (fun _ => ?_) (fun _ => ?_)
    | refine q_move (by rfl) (by rfl) (by rfl) ?_
    | refine q_assign (by rfl) (by rfl) (by rfl) ?_
    | refine q_pick_true (by rfl) (by rfl) (by rfl) (by rfl) ?_
    | refine q_pick_false (by rfl) (by rfl) (by rfl) (by rfl) ?_
    | refine q_lss (by rfl) (by rfl) (by rfl) (by rfl) ?_
    | refine q_gtr (by rfl) (by rfl) (by rfl) (by rfl) ?_
    | refine q_eql (by rfl) (by rfl) (by rfl) (by rfl) ?_
    | refine q_neq (by rfl) (by rfl) (by rfl) (by rfl) ?_
    | refine q_eql_str (by rfl) (by rfl) (by rfl) (by rfl) ?_
    | refine q_eql_bool (by rfl) (by rfl) (by rfl) (by rfl) ?_
    | refine q_eql_flat (by rfl) (by rfl) (by rfl) (by rfl) (by rfl) (by rfl) ?_
    | refine q_neq_str (by rfl) (by rfl) (by rfl) (by rfl) ?_
    | refine q_neq_bool (by rfl) (by rfl) (by rfl) (by rfl) ?_
    | refine q_neq_flat (by rfl) (by rfl) (by rfl) (by rfl) (by rfl) (by rfl) ?_
    | refine q_len_str (by rfl) (by rfl) (by rfl) ?_
    | refine q_len_slice (by rfl) (by rfl) (by rfl) ?_
    | refine q_not (by rfl) (by rfl) (by rfl) ?_
    | refine q_add (by rfl) (by rfl) (by rfl) (by rfl) (by omega) ?_
    | refine q_sub (by rfl) (by rfl) (by rfl) (by rfl) (by omega) ?_
    | refine q_slice_str (by rfl) (by rfl) (by rfl) (by rfl) (by rfl) (by omega) ?_
    | refine q_slice_from (by rfl) (by rfl) (by rfl) (by rfl) (by omega) ?_
    | refine q_slice_to (by rfl) (by rfl) (by rfl) (by rfl) (by omega) ?_
    | refine q_fieldAddr (by rfl) (by rfl) (by rfl) ?_
    | refine q_indexAddr (by rfl) (by rfl) (by rfl) (by rfl) (by omega) (by omega) ?_
    | refine q_load1 (by rfl) (by rfl) (by rfl) (by assumption) (by rfl) ?_
    | refine wq_skip (by rfl) (by rfl) (by rfl) ?_
    | (refine wq_split_dec (by rfl) (by rfl) (by rfl) (fun _ => ?_) (fun _ => ?_) <;> (try first | contradiction | (exfalso; omega)))
    | (refine wq_split (by rfl) (by rfl) (by rfl) (fun _ => ?_) (fun _ => ?_) <;> (fail_if_success contradiction)))
  have hra := own_reads hta
  have hkA := hk1.trans hk2
  clear hk1 hk2 hta
  obtain ⟨hla, _, _, ea, hca, hra⟩ := hra
  injection ea with ea1 _ ea2
  subst ea1
  subst ea2
  refine wc_loop (fun x : Nat × Nat => [(0, str s), (3, .int .i64 (x.2 : Int)), (10, .slice a0 (Sp.tokens s).length c0), (11, .int .i64 ((Sp.tokens s).length : Int)), (12, .int .i64 ((x.1 : Nat) : Int))])
    (fun x w' => x.1 ≤ (Sp.tokens s).length ∧ Sp.Whole s x.2 ((Sp.tokens s).drop x.1) ∧ x.2 ≤ s.length ∧ Kept [] w2 w') (fun x => (Sp.tokens s).length - x.1) (0, 0) ⟨rfl, rfl, rfl, rfl, rfl, trivial⟩ ⟨by simp, Sp.tokens_whole s, by simp, Kept.refl _ _⟩ ?_
  rintro ⟨k, a⟩ w3 ⟨hk, hwh, hal, hkept⟩
  dsimp only at hk hwh hal ⊢
  by_cases hlt : k < (Sp.tokens s).length
  · obtain ⟨b0, o0, cs0, e0, f0, rfl, hb0, hcur0⟩ := hra (by omega)
    have hb0' := hkept.get0 hb0
    have ht0 : (Sp.tokens s)[k]? = some (Sp.tokens s)[k] := List.getElem?_eq_getElem hlt
    have hcell0 : ∀ (j : Nat) (v : Value), (encTok (Sp.tokens s)[k])[j]? = some v → cs0[o0 + (k : Int).toNat * 3 + j]? = some v := fun j v hv => by
      rw [show o0 + (k : Int).toNat * 3 + j = o0 + (k * 3 + j) by omega]
      exact hcur0 _ _ (encTok_get _ _ _ ht0 j v hv)
    rw [List.drop_eq_getElem_cons hlt] at hwh
    generalize (Sp.tokens s)[k] = t at ht0 hcell0 hwh
    cases hwh with
    | cons hok hat hgap hrest =>
    have hp := hok.pos
    have hl1 := hok.len
    have hl2 := hok.fit
    have htx := hok.text
    have htx2 : List.take (((t.pos : Int) + (t.text.length : Int)).toNat - (t.pos : Int).toNat) (List.drop (t.pos : Int).toNat s) = t.text := by
      rw [htx, Int.toNat_natCast, show ((t.pos : Int) + (((s.drop t.pos).take t.text.length).length : Int)).toNat - t.pos = t.text.length by rw [← htx]; omega]
    have hgt : (((s.length : Nat) : Int) - (t.pos : Int) < (t.text.length : Int)) = False := by rw [eq_iff_iff, iff_false]; omega
    repeat' (first
      | (refine op_loadN (vs := encTok t) (by rfl) (by rfl) (by rfl) hb0' (by rfl) hcell0 ?_)
      | (refine op_alloc (by rfl) (by rfl) ?_; intro b wa zc hbe hzs hba hka)
      | (refine op_store_all (by rfl) (by rfl) (by rfl) (by rfl) hba (by rfl) hzs (by rfl) ?_; intro w4 hb hks; have hkb : Kept [] w3 w4 := hka.step hks (fun x hx => .inr (by simp at hx; omega)))
      | (refine q_call (v := .bool true) (by rfl) (by rfl) (by rfl) (fun w' _ => (c_gap ((s.drop a).take (t.pos - a)) (by simp; omega) w').mono (by rintro u w'' ⟨rfl, rfl⟩; exact ⟨by rw [hgap], Kept.refl _ _⟩)) ?_)
      | (refine wc_quiet (by kernel_rfl) ?_)
      | (refine op_load1 (by rfl) (by rfl) (by rfl) (hkq.get0 hb) (by rfl) ?_)
      | refine op_move (by rfl) (by rfl) (by rfl) ?_
      | refine op_assign (by rfl) (by rfl) (by rfl) ?_
      | refine op_pick_true (by rfl) (by rfl) (by rfl) (by rfl) ?_
      | refine op_pick_false (by rfl) (by rfl) (by rfl) (by rfl) ?_
      | refine op_lss (by rfl) (by rfl) (by rfl) (by rfl) ?_
      | refine op_gtr (by rfl) (by rfl) (by rfl) (by rfl) ?_
      | refine op_eql (by rfl) (by rfl) (by rfl) (by rfl) ?_
      | refine op_neq (by rfl) (by rfl) (by rfl) (by rfl) ?_
      | refine op_eql_str (by rfl) (by rfl) (by rfl) (by rfl) ?_
      | refine op_eql_bool (by rfl) (by rfl) (by rfl) (by rfl) ?_
      | refine op_eql_flat (by rfl) (by rfl) (by rfl) (by rfl) (by rfl) (by rfl) ?_
      | refine op_neq_str (by rfl) (by rfl) (by rfl) (by rfl) ?_
      | refine op_neq_bool (by rfl) (by rfl) (by rfl) (by rfl) ?_
      | refine op_neq_flat (by rfl) (by rfl) (by rfl) (by rfl) (by rfl) (by rfl) ?_
      | refine op_len_str (by rfl) (by rfl) (by rfl) ?_
      | refine op_len_slice (by rfl) (by rfl) (by rfl) ?_
      | refine op_not (by rfl) (by rfl) (by rfl) ?_
      | refine op_add (by rfl) (by rfl) (by rfl) (by rfl) (by omega) ?_
      | refine op_sub (by rfl) (by rfl) (by rfl) (by rfl) (by omega) ?_
      | refine op_slice_str (by rfl) (by rfl) (by rfl) (by rfl) (by rfl) (by omega) ?_
      | refine op_slice_from (by rfl) (by rfl) (by rfl) (by rfl) (by omega) ?_
      | refine op_slice_to (by rfl) (by rfl) (by rfl) (by rfl) (by omega) ?_
      | refine op_fieldAddr (by rfl) (by rfl) (by rfl) ?_
      | refine op_indexAddr (by rfl) (by rfl) (by rfl) (by rfl) (by omega) (by omega) ?_
      | refine op_load1 (by rfl) (by rfl) (by rfl) (by assumption) (by rfl) ?_
      | refine wl_skip (by rfl) (by rfl) (by rfl) ?_
      | (refine wl_split_dec (by rfl) (by rfl) (by rfl) (fun _ => ?_) (fun _ => ?_) <;> (try first | contradiction | (exfalso; omega)))
      | (refine wl_split (by rfl) (by rfl) (by rfl) (fun _ => ?_) (fun _ => ?_) <;> (fail_if_success contradiction))
      | refine wl_nil ?_
      | refine at_then_normal ?_
      | refine at_then_ret ?_
      | refine at_then_exit ?_
      | refine at_block_normal ?_
      | refine at_block_ret ?_
      | refine at_block_exit ?_
      | refine at_block_other (by rfl) ?_
      | refine wc_seq ?_
      | refine wc_region ?_
      | refine wc_block ?_
      | refine wc_skip ?_
      | refine wc_exit ?_
      | refine wc_ret ?_
      | refine at_ret1 (by rfl) (by rfl) ?_
      | refine wc_quiet (by kernel_rfl) ?_
      | (refine wq_nil ?_; intro _ hkq)
      | (refine wq_nil_tail ?_; intro _ hkq)
      | refine wc_cond_true (by rfl) ?_
      | refine wc_cond_false (by rfl) ?_
      | (refine wc_cond_dec (by rfl) (fun _ => ?_) (fun _ => ?_) <;> (try first | contradiction | (exfalso; omega)))
      | refine wc_cond (by rfl) (fun _ => ?_) (fun _ => ?_)
      | refine q_move (by rfl) (by rfl) (by rfl) ?_
      | refine q_assign (by rfl) (by rfl) (by rfl) ?_
      | refine q_pick_true (by rfl) (by rfl) (by rfl) (by rfl) ?_
      | refine q_pick_false (by rfl) (by rfl) (by rfl) (by rfl) ?_
      | refine q_lss (by rfl) (by rfl) (by rfl) (by rfl) ?_
      | refine q_gtr (by rfl) (by rfl) (by rfl) (by rfl) ?_
      | refine q_eql (by rfl) (by rfl) (by rfl) (by rfl) ?_
      | refine q_neq (by rfl) (by rfl) (by rfl) (by rfl) ?_
      | refine q_eql_str (by rfl) (by rfl) (by rfl) (by rfl) ?_
      | refine q_eql_bool (by rfl) (by rfl) (by rfl) (by rfl) ?_
      | refine q_eql_flat (by rfl) (by rfl) (by rfl) (by rfl) (by rfl) (by rfl) ?_
      | refine q_neq_str (by rfl) (by rfl) (by rfl) (by rfl) ?_
      | refine q_neq_bool (by rfl) (by rfl) (by rfl) (by rfl) ?_
      | refine q_neq_flat (by rfl) (by rfl) (by rfl) (by rfl) (by rfl) (by rfl) ?_
      | refine q_len_str (by rfl) (by rfl) (by rfl) ?_
      | refine q_len_slice (by rfl) (by rfl) (by rfl) ?_
      | refine q_not (by rfl) (by rfl) (by rfl) ?_
      | refine q_add (by rfl) (by rfl) (by rfl) (by rfl) (by omega) ?_
      | refine q_sub (by rfl) (by rfl) (by rfl) (by rfl) (by omega) ?_
      | refine q_slice_str (by rfl) (by rfl) (by rfl) (by rfl) (by rfl) (by omega) ?_
      | refine q_slice_from (by rfl) (by rfl) (by rfl) (by rfl) (by omega) ?_
      | refine q_slice_to (by rfl) (by rfl) (by rfl) (by rfl) (by omega) ?_
      | refine q_fieldAddr (by rfl) (by rfl) (by rfl) ?_
      | refine q_indexAddr (by rfl) (by rfl) (by rfl) (by rfl) (by omega) (by omega) ?_
      | refine q_load1 (by rfl) (by rfl) (by rfl) (by assumption) (by rfl) ?_
      | refine wq_skip (by rfl) (by rfl) (by rfl) ?_
      | (refine wq_split_dec (by rfl) (by rfl) (by rfl) (fun _ => ?_) (fun _ => ?_) <;> (try first | contradiction | (exfalso; omega)))
      | (refine wq_split (by rfl) (by rfl) (by rfl) (fun _ => ?_) (fun _ => ?_) <;> (fail_if_success contradiction)))
    refine at_round ((k + 1, t.pos + t.text.length) : Nat × Nat) (by exact ⟨rfl, rfl, rfl, rfl, rfl, trivial⟩) ?_ (by dsimp only; omega)
    exact ⟨by dsimp only; omega, hrest, by dsimp only; omega, (hkept.trans hkb).trans hkq⟩
  · have hk' : k = (Sp.tokens s).length := by omega
    rw [hk', List.drop_length] at hwh
    cases hwh with
    | nil _ hgap =>
    repeat' (first
      | (refine op_call (by rfl) (by rfl) (by rfl) (by exact c_gap (s.drop a) (by simp; omega) _) ?_; rintro _ w9 ⟨rfl, rfl⟩)
      | refine op_move (by rfl) (by rfl) (by rfl) ?_
      | refine op_assign (by rfl) (by rfl) (by rfl) ?_
      | refine op_pick_true (by rfl) (by rfl) (by rfl) (by rfl) ?_
      | refine op_pick_false (by rfl) (by rfl) (by rfl) (by rfl) ?_
      | refine op_lss (by rfl) (by rfl) (by rfl) (by rfl) ?_
      | refine op_gtr (by rfl) (by rfl) (by rfl) (by rfl) ?_
      | refine op_eql (by rfl) (by rfl) (by rfl) (by rfl) ?_
      | refine op_neq (by rfl) (by rfl) (by rfl) (by rfl) ?_
      | refine op_eql_str (by rfl) (by rfl) (by rfl) (by rfl) ?_
      | refine op_eql_bool (by rfl) (by rfl) (by rfl) (by rfl) ?_
      | refine op_eql_flat (by rfl) (by rfl) (by rfl) (by rfl) (by rfl) (by rfl) ?_
      | refine op_neq_str (by rfl) (by rfl) (by rfl) (by rfl) ?_
      | refine op_neq_bool (by rfl) (by rfl) (by rfl) (by rfl) ?_
      | refine op_neq_flat (by rfl) (by rfl) (by rfl) (by rfl) (by rfl) (by rfl) ?_
      | refine op_len_str (by rfl) (by rfl) (by rfl) ?_
      | refine op_len_slice (by rfl) (by rfl) (by rfl) ?_
      | refine op_not (by rfl) (by rfl) (by rfl) ?_
      | refine op_add (by rfl) (by rfl) (by rfl) (by rfl) (by omega) ?_
      | refine op_sub (by rfl) (by rfl) (by rfl) (by rfl) (by omega) ?_
      | refine op_slice_str (by rfl) (by rfl) (by rfl) (by rfl) (by rfl) (by omega) ?_
      | refine op_slice_from (by rfl) (by rfl) (by rfl) (by rfl) (by omega) ?_
      | refine op_slice_to (by rfl) (by rfl) (by rfl) (by rfl) (by omega) ?_
      | refine op_fieldAddr (by rfl) (by rfl) (by rfl) ?_
      | refine op_indexAddr (by rfl) (by rfl) (by rfl) (by rfl) (by omega) (by omega) ?_
      | refine op_load1 (by rfl) (by rfl) (by rfl) (by assumption) (by rfl) ?_
      | refine wl_skip (by rfl) (by rfl) (by rfl) ?_
      | (refine wl_split_dec (by rfl) (by rfl) (by rfl) (fun _ => ?_) (fun _ => ?_) <;> (try first | contradiction | (exfalso; omega)))
      | (refine wl_split (by rfl) (by rfl) (by rfl) (fun _ => ?_) (fun _ => ?_) <;> (fail_if_success contradiction))
      | refine wl_nil ?_
      | refine at_then_normal ?_
      | refine at_then_ret ?_
      | refine at_then_exit ?_
      | refine at_block_normal ?_
      | refine at_block_ret ?_
      | refine at_block_exit ?_
      | refine at_block_other (by rfl) ?_
      | refine wc_seq ?_
      | refine wc_region ?_
      | refine wc_block ?_
      | refine wc_skip ?_
      | refine wc_exit ?_
      | refine wc_ret ?_
      | refine at_ret1 (by rfl) (by rfl) ?_
      | refine wc_quiet (by kernel_rfl) ?_
      | (refine wq_nil ?_; intro _ hkq)
      | (refine wq_nil_tail ?_; intro _ hkq)
      | refine wc_cond_true (by rfl) ?_
      | refine wc_cond_false (by rfl) ?_
      | (refine wc_cond_dec (by rfl) (fun _ => ?_) (fun _ => ?_) <;> (try first | contradiction | (exfalso; omega)))
      | refine wc_cond (by rfl) (fun _ => ?_) (fun _ => ?_)
      | refine q_move (by rfl) (by rfl) (by rfl) ?_
      | refine q_assign (by rfl) (by rfl) (by rfl) ?_
      | refine q_pick_true (by rfl) (by rfl) (by rfl) (by rfl) ?_
      | refine q_pick_false (by rfl) (by rfl) (by rfl) (by rfl) ?_
      | refine q_lss (by rfl) (by rfl) (by rfl) (by rfl) ?_
      | refine q_gtr (by rfl) (by rfl) (by rfl) (by rfl) ?_
      | refine q_eql (by rfl) (by rfl) (by rfl) (by rfl) ?_
      | refine q_neq (by rfl) (by rfl) (by rfl) (by rfl) ?_
      | refine q_eql_str (by rfl) (by rfl) (by rfl) (by rfl) ?_
      | refine q_eql_bool (by rfl) (by rfl) (by rfl) (by rfl) ?_
      | refine q_eql_flat (by rfl) (by rfl) (by rfl) (by rfl) (by rfl) (by rfl) ?_
      | refine q_neq_str (by rfl) (by rfl) (by rfl) (by rfl) ?_
      | refine q_neq_bool (by rfl) (by rfl) (by rfl) (by rfl) ?_
      | refine q_neq_flat (by rfl) (by rfl) (by rfl) (by rfl) (by rfl) (by rfl) ?_
      | refine q_len_str (by rfl) (by rfl) (by rfl) ?_
      | refine q_len_slice (by rfl) (by rfl) (by rfl) ?_
      | refine q_not (by rfl) (by rfl) (by rfl) ?_
      | refine q_add (by rfl) (by rfl) (by rfl) (by rfl) (by omega) ?_
      | refine q_sub (by rfl) (by rfl) (by rfl) (by rfl) (by omega) ?_
      | refine q_slice_str (by rfl) (by rfl) (by rfl) (by rfl) (by rfl) (by omega) ?_
      | refine q_slice_from (by rfl) (by rfl) (by rfl) (by rfl) (by omega) ?_
      | refine q_slice_to (by rfl) (by rfl) (by rfl) (by rfl) (by omega) ?_
      | refine q_fieldAddr (by rfl) (by rfl) (by rfl) ?_
      | refine q_indexAddr (by rfl) (by rfl) (by rfl) (by rfl) (by omega) (by omega) ?_
      | refine q_load1 (by rfl) (by rfl) (by rfl) (by assumption) (by rfl) ?_
      | refine wq_skip (by rfl) (by rfl) (by rfl) ?_
      | (refine wq_split_dec (by rfl) (by rfl) (by rfl) (fun _ => ?_) (fun _ => ?_) <;> (try first | contradiction | (exfalso; omega)))
      | (refine wq_split (by rfl) (by rfl) (by rfl) (fun _ => ?_) (fun _ => ?_) <;> (fail_if_success contradiction)))
    exact ⟨by rw [hgap], hkA.trans hkept⟩
end Go.Proofs.Ythleggomainocaa
