/- Own work: the law that tells of labels: its walk. -/
import Derived.Test.YtgoglhmnfiehoaaDoorLawLabel
namespace Go.Proofs.YtgoglhmnfiehoaaDoor
open Go.Fw
set_option maxHeartbeats 8000000 in
theorem law_tells (a b : Int) (s : List UInt8) (hl : s.length ≤ 1048576) (w : World) (hM : MaxAt w) : Cal Tryd.prog 3 #[.int .i64 a, .int .i64 b, str s] w fun v w' => v = .bool true ∧ Kept [] w w' := by
  refine enter (N := 104) Tryd.func3 rfl [(0, .int .i64 a), (1, .int .i64 b), (2, str s)] args3 rfl ?_
  have hpv := c_parse s hl w hM
  have hrv := c_rlabel s hl
  unfold parseV at hpv hrv
  generalize Sp.parseL s = x at hpv hrv
  obtain ⟨m, e⟩ := x
  dsimp only at hpv hrv
  by_cases ha : 0 ≤ a ∧ a ≤ 255
  case neg =>
    repeat' (first
      | (refine op_call (by rfl) (by rfl) (by rfl) (by exact hpv) ?_; rintro _ w1 ⟨rfl, hk1⟩)
      | (refine op_call (by rfl) (by rfl) (by rfl) (by exact hrv _) ?_; rintro _ w2 ⟨rfl, hk2⟩)
      | (refine op_call (by rfl) (by rfl) (by rfl) (by exact right_no a ha _) ?_; rintro _ w2 ⟨rfl, rfl⟩)
      | refine op_move (by rfl) (by rfl) (by rfl) ?_
      | refine op_assign (by rfl) (by rfl) (by rfl) ?_
      | refine op_pick_true (by rfl) (by rfl) (by rfl) (by rfl) ?_
      | refine op_pick_false (by rfl) (by rfl) (by rfl) (by rfl) ?_
      | refine op_lss (by rfl) (by rfl) (by rfl) (by rfl) ?_
      | refine op_leq (by rfl) (by rfl) (by rfl) (by rfl) ?_
      | refine op_gtr (by rfl) (by rfl) (by rfl) (by rfl) ?_
      | refine op_geq (by rfl) (by rfl) (by rfl) (by rfl) ?_
      | refine op_eql (by rfl) (by rfl) (by rfl) (by rfl) ?_
      | refine op_neq (by rfl) (by rfl) (by rfl) (by rfl) ?_
      | refine op_eql_str (by rfl) (by rfl) (by rfl) (by rfl) ?_
      | refine op_eql_bool (by rfl) (by rfl) (by rfl) (by rfl) ?_
      | refine op_eql_flat (by rfl) (by rfl) (by rfl) (by rfl) (by rfl) (by rfl) ?_
      | refine op_neq_str (by rfl) (by rfl) (by rfl) (by rfl) ?_
      | refine op_neq_bool (by rfl) (by rfl) (by rfl) (by rfl) ?_
      | refine op_neq_flat (by rfl) (by rfl) (by rfl) (by rfl) (by rfl) (by rfl) ?_
      | refine op_extract (by rfl) (by rfl) (by rfl) (by rfl) ?_
      | refine op_add (by rfl) (by rfl) (by rfl) (by rfl) (by omega) ?_
      | refine op_add_u8 (by rfl) (by rfl) (by rfl) (by rfl) (by omega) ?_
      | refine op_index_str (by rfl) (by rfl) (by rfl) (by rfl) (by omega) (by omega) ?_
      | refine wl_skip (by rfl) (by rfl) (by rfl) ?_
      | (refine wl_split_dec (by rfl) (by rfl) (by rfl) (fun _ => ?_) (fun _ => ?_) <;> (try first | contradiction | (exfalso; omega)))
      | (refine wl_split (by rfl) (by rfl) (by rfl) (fun _ => ?_) (fun _ => ?_) <;> (fail_if_success contradiction))
      | refine wl_nil ?_
      | refine at_then_normal ?_
      | refine at_then_ret ?_
      | refine at_then_exit ?_
      | refine at_block_normal ?_
      | refine at_block_ret ?_
      | refine at_block_exit ?_
      | refine at_block_other (by rfl) ?_
      | refine wc_seq ?_
      | refine wc_region ?_
      | refine wc_block ?_
      | refine wc_skip ?_
      | refine wc_exit ?_
      | refine wc_ret ?_
      | refine at_ret1 (by rfl) (by rfl) ?_
      | refine wc_cond_true (by rfl) ?_
      | refine wc_cond_false (by rfl) ?_
      | (refine wc_cond_dec (by rfl) (fun _ => ?_) (fun _ => ?_) <;> (try first | contradiction | (exfalso; omega)))
      | refine wc_cond (by rfl) (fun _ => ?_) (fun _ => ?_))
    all_goals first
      | exact ⟨rfl, hk1.trans hk2⟩
      | (exfalso; rename_i h; rw [decide_eq_false (by omega)] at h; exact h rfl)
      | (exfalso; omega)
  obtain ⟨x, rfl⟩ := Int.eq_ofNat_of_zero_le ha.1
  have hx : x < 256 := by omega
  have hdx : decide ((x : Int) ≤ 255) = true := decide_eq_true (by omega)
  by_cases hb : 0 ≤ b ∧ b ≤ 255
  case neg =>
    repeat' (first
      | (refine op_call (by rfl) (by rfl) (by rfl) (by exact hpv) ?_; rintro _ w1 ⟨rfl, hk1⟩)
      | (refine op_call (by rfl) (by rfl) (by rfl) (by exact hrv _) ?_; rintro _ w2 ⟨rfl, hk2⟩)
      | (refine op_call (by rfl) (by rfl) (by rfl) (by exact right_yes x hx _) ?_; rintro _ w2 ⟨rfl, rfl⟩)
      | refine op_move (by rfl) (by rfl) (by rfl) ?_
      | refine op_assign (by rfl) (by rfl) (by rfl) ?_
      | refine op_pick_true (by rfl) (by rfl) (by rfl) (by rfl) ?_
      | refine op_pick_false (by rfl) (by rfl) (by rfl) (by rfl) ?_
      | refine op_lss (by rfl) (by rfl) (by rfl) (by rfl) ?_
      | refine op_leq (by rfl) (by rfl) (by rfl) (by rfl) ?_
      | refine op_gtr (by rfl) (by rfl) (by rfl) (by rfl) ?_
      | refine op_geq (by rfl) (by rfl) (by rfl) (by rfl) ?_
      | refine op_eql (by rfl) (by rfl) (by rfl) (by rfl) ?_
      | refine op_neq (by rfl) (by rfl) (by rfl) (by rfl) ?_
      | refine op_eql_str (by rfl) (by rfl) (by rfl) (by rfl) ?_
      | refine op_eql_bool (by rfl) (by rfl) (by rfl) (by rfl) ?_
      | refine op_eql_flat (by rfl) (by rfl) (by rfl) (by rfl) (by rfl) (by rfl) ?_
      | refine op_neq_str (by rfl) (by rfl) (by rfl) (by rfl) ?_
      | refine op_neq_bool (by rfl) (by rfl) (by rfl) (by rfl) ?_
      | refine op_neq_flat (by rfl) (by rfl) (by rfl) (by rfl) (by rfl) (by rfl) ?_
      | refine op_extract (by rfl) (by rfl) (by rfl) (by rfl) ?_
      | refine op_add (by rfl) (by rfl) (by rfl) (by rfl) (by omega) ?_
      | refine op_add_u8 (by rfl) (by rfl) (by rfl) (by rfl) (by omega) ?_
      | refine op_index_str (by rfl) (by rfl) (by rfl) (by rfl) (by omega) (by omega) ?_
      | refine wl_skip (by rfl) (by rfl) (by rfl) ?_
      | (refine wl_split_dec (by rfl) (by rfl) (by rfl) (fun _ => ?_) (fun _ => ?_) <;> (try first | contradiction | (exfalso; omega)))
      | (refine wl_split (by rfl) (by rfl) (by rfl) (fun _ => ?_) (fun _ => ?_) <;> (fail_if_success contradiction))
      | refine wl_nil ?_
      | refine at_then_normal ?_
      | refine at_then_ret ?_
      | refine at_then_exit ?_
      | refine at_block_normal ?_
      | refine at_block_ret ?_
      | refine at_block_exit ?_
      | refine at_block_other (by rfl) ?_
      | refine wc_seq ?_
      | refine wc_region ?_
      | refine wc_block ?_
      | refine wc_skip ?_
      | refine wc_exit ?_
      | refine wc_ret ?_
      | refine at_ret1 (by rfl) (by rfl) ?_
      | refine wc_cond_true (by rfl) ?_
      | refine wc_cond_false (by rfl) ?_
      | (refine wc_cond_dec (by rfl) (fun _ => ?_) (fun _ => ?_) <;> (try first | contradiction | (exfalso; omega)))
      | refine wc_cond (by rfl) (fun _ => ?_) (fun _ => ?_))
    all_goals first
      | exact ⟨rfl, hk1.trans hk2⟩
      | (exfalso; rename_i h; rw [hdx] at h; exact h rfl)
      | (exfalso; omega)
  obtain ⟨y, rfl⟩ := Int.eq_ofNat_of_zero_le hb.1
  have hy : y < 256 := by omega
  repeat' (first
    | (refine op_call (by rfl) (by rfl) (by rfl) (by exact hpv) ?_; rintro _ w1 ⟨rfl, hk1⟩)
    | (refine op_call (by rfl) (by rfl) (by rfl) (by exact hrv _) ?_; rintro _ w2 ⟨rfl, hk2⟩)
    | (refine op_call (by rfl) (by rfl) (by rfl) (by exact right_yes x hx _) ?_; rintro _ w2 ⟨rfl, rfl⟩)
    | (refine op_call (by rfl) (by rfl) (by rfl) (by exact c_bits x hx _) ?_; rintro _ w3 ⟨rfl, hk3⟩)
    | refine op_move (by rfl) (by rfl) (by rfl) ?_
    | refine op_assign (by rfl) (by rfl) (by rfl) ?_
    | refine op_pick_true (by rfl) (by rfl) (by rfl) (by rfl) ?_
    | refine op_pick_false (by rfl) (by rfl) (by rfl) (by rfl) ?_
    | refine op_lss (by rfl) (by rfl) (by rfl) (by rfl) ?_
    | refine op_leq (by rfl) (by rfl) (by rfl) (by rfl) ?_
    | refine op_gtr (by rfl) (by rfl) (by rfl) (by rfl) ?_
    | refine op_geq (by rfl) (by rfl) (by rfl) (by rfl) ?_
    | refine op_eql (by rfl) (by rfl) (by rfl) (by rfl) ?_
    | refine op_neq (by rfl) (by rfl) (by rfl) (by rfl) ?_
    | refine op_eql_str (by rfl) (by rfl) (by rfl) (by rfl) ?_
    | refine op_eql_bool (by rfl) (by rfl) (by rfl) (by rfl) ?_
    | refine op_eql_flat (by rfl) (by rfl) (by rfl) (by rfl) (by rfl) (by rfl) ?_
    | refine op_neq_str (by rfl) (by rfl) (by rfl) (by rfl) ?_
    | refine op_neq_bool (by rfl) (by rfl) (by rfl) (by rfl) ?_
    | refine op_neq_flat (by rfl) (by rfl) (by rfl) (by rfl) (by rfl) (by rfl) ?_
    | refine op_extract (by rfl) (by rfl) (by rfl) (by rfl) ?_
    | refine op_add (by rfl) (by rfl) (by rfl) (by rfl) (by omega) ?_
    | refine op_add_u8 (by rfl) (by rfl) (by rfl) (by rfl) (by omega) ?_
    | refine op_index_str (by rfl) (by rfl) (by rfl) (by rfl) (by omega) (by omega) ?_
    | refine wl_skip (by rfl) (by rfl) (by rfl) ?_
    | (refine wl_split_dec (by rfl) (by rfl) (by rfl) (fun _ => ?_) (fun _ => ?_) <;> (try first | contradiction | (exfalso; omega)))
    | (refine wl_split (by rfl) (by rfl) (by rfl) (fun _ => ?_) (fun _ => ?_) <;> (fail_if_success contradiction))
    | refine wl_nil ?_
    | refine at_then_normal ?_
    | refine at_then_ret ?_
    | refine at_then_exit ?_
    | refine at_block_normal ?_
    | refine at_block_ret ?_
    | refine at_block_exit ?_
    | refine at_block_other (by rfl) ?_
    | refine wc_seq ?_
    | refine wc_region ?_
    | refine wc_block ?_
    | refine wc_skip ?_
    | refine wc_exit ?_
    | refine wc_ret ?_
    | refine at_ret1 (by rfl) (by rfl) ?_
    | refine wc_cond_true (by rfl) ?_
    | refine wc_cond_false (by rfl) ?_
    | (refine wc_cond_dec (by rfl) (fun _ => ?_) (fun _ => ?_) <;> (try first | contradiction | (exfalso; omega)))
    | refine wc_cond (by rfl) (fun _ => ?_) (fun _ => ?_))
  · exfalso; rename_i h; rw [hdx] at h; exact h rfl
  refine wc_loop (fun k : Nat => [(0, .int .i64 (x : Int)), (1, .int .i64 (y : Int)), (11, .int .i64 ((Sp.tagsTo x k).length : Int)), (58, .agg (bitsV x).toArray), (59, .int .i64 (k : Int))])
    (fun k w' => k ≤ 8 ∧ w' = w3) (fun k => 8 - k) 0 ⟨rfl, rfl, rfl, rfl, rfl, trivial⟩ ⟨by simp, rfl⟩ ?_
  rintro k w4 ⟨hk, rfl⟩
  by_cases hlt : k < 8
  · have hs := Sp.tagsTo_succ x k
    have hlen := Sp.tagsTo_len x k
    have hbv : (bitsV x)[(k : Int).toNat]? = some (.bool (Sp.bit x k)) := by rw [Int.toNat_natCast]; exact bitsV_get x k hlt
    generalize Sp.bit x k = b at hbv hs
    cases b
    · rw [if_neg (by simp)] at hs
      repeat' (first
        | (refine op_index_arr (by rfl) (by rfl) (by rfl) (by rfl) (by omega) (by omega) hbv ?_)
        | refine op_move (by rfl) (by rfl) (by rfl) ?_
        | refine op_assign (by rfl) (by rfl) (by rfl) ?_
        | refine op_pick_true (by rfl) (by rfl) (by rfl) (by rfl) ?_
        | refine op_pick_false (by rfl) (by rfl) (by rfl) (by rfl) ?_
        | refine op_lss (by rfl) (by rfl) (by rfl) (by rfl) ?_
        | refine op_leq (by rfl) (by rfl) (by rfl) (by rfl) ?_
        | refine op_gtr (by rfl) (by rfl) (by rfl) (by rfl) ?_
        | refine op_geq (by rfl) (by rfl) (by rfl) (by rfl) ?_
        | refine op_eql (by rfl) (by rfl) (by rfl) (by rfl) ?_
        | refine op_neq (by rfl) (by rfl) (by rfl) (by rfl) ?_
        | refine op_eql_str (by rfl) (by rfl) (by rfl) (by rfl) ?_
        | refine op_eql_bool (by rfl) (by rfl) (by rfl) (by rfl) ?_
        | refine op_eql_flat (by rfl) (by rfl) (by rfl) (by rfl) (by rfl) (by rfl) ?_
        | refine op_neq_str (by rfl) (by rfl) (by rfl) (by rfl) ?_
        | refine op_neq_bool (by rfl) (by rfl) (by rfl) (by rfl) ?_
        | refine op_neq_flat (by rfl) (by rfl) (by rfl) (by rfl) (by rfl) (by rfl) ?_
        | refine op_extract (by rfl) (by rfl) (by rfl) (by rfl) ?_
        | refine op_add (by rfl) (by rfl) (by rfl) (by rfl) (by omega) ?_
        | refine op_add_u8 (by rfl) (by rfl) (by rfl) (by rfl) (by omega) ?_
        | refine op_index_str (by rfl) (by rfl) (by rfl) (by rfl) (by omega) (by omega) ?_
        | refine wl_skip (by rfl) (by rfl) (by rfl) ?_
        | (refine wl_split_dec (by rfl) (by rfl) (by rfl) (fun _ => ?_) (fun _ => ?_) <;> (try first | contradiction | (exfalso; omega)))
        | (refine wl_split (by rfl) (by rfl) (by rfl) (fun _ => ?_) (fun _ => ?_) <;> (fail_if_success contradiction))
        | refine wl_nil ?_
        | refine at_then_normal ?_
        | refine at_then_ret ?_
        | refine at_then_exit ?_
        | refine at_block_normal ?_
        | refine at_block_ret ?_
        | refine at_block_exit ?_
        | refine at_block_other (by rfl) ?_
        | refine wc_seq ?_
        | refine wc_region ?_
        | refine wc_block ?_
        | refine wc_skip ?_
        | refine wc_exit ?_
        | refine wc_ret ?_
        | refine at_ret1 (by rfl) (by rfl) ?_
        | refine wc_cond_true (by rfl) ?_
        | refine wc_cond_false (by rfl) ?_
        | (refine wc_cond_dec (by rfl) (fun _ => ?_) (fun _ => ?_) <;> (try first | contradiction | (exfalso; omega)))
        | refine wc_cond (by rfl) (fun _ => ?_) (fun _ => ?_))
      exact at_round (k + 1) (by rw [hs]; exact ⟨rfl, rfl, rfl, rfl, rfl, trivial⟩) ⟨by omega, rfl⟩ (by omega)
    · rw [if_pos rfl] at hs
      have hs2 : (Sp.tagsTo x (k + 1)).length = (Sp.tagsTo x k).length + 1 := by rw [hs, List.length_append]; rfl
      repeat' (first
        | (refine op_index_arr (by rfl) (by rfl) (by rfl) (by rfl) (by omega) (by omega) hbv ?_)
        | refine op_move (by rfl) (by rfl) (by rfl) ?_
        | refine op_assign (by rfl) (by rfl) (by rfl) ?_
        | refine op_pick_true (by rfl) (by rfl) (by rfl) (by rfl) ?_
        | refine op_pick_false (by rfl) (by rfl) (by rfl) (by rfl) ?_
        | refine op_lss (by rfl) (by rfl) (by rfl) (by rfl) ?_
        | refine op_leq (by rfl) (by rfl) (by rfl) (by rfl) ?_
        | refine op_gtr (by rfl) (by rfl) (by rfl) (by rfl) ?_
        | refine op_geq (by rfl) (by rfl) (by rfl) (by rfl) ?_
        | refine op_eql (by rfl) (by rfl) (by rfl) (by rfl) ?_
        | refine op_neq (by rfl) (by rfl) (by rfl) (by rfl) ?_
        | refine op_eql_str (by rfl) (by rfl) (by rfl) (by rfl) ?_
        | refine op_eql_bool (by rfl) (by rfl) (by rfl) (by rfl) ?_
        | refine op_eql_flat (by rfl) (by rfl) (by rfl) (by rfl) (by rfl) (by rfl) ?_
        | refine op_neq_str (by rfl) (by rfl) (by rfl) (by rfl) ?_
        | refine op_neq_bool (by rfl) (by rfl) (by rfl) (by rfl) ?_
        | refine op_neq_flat (by rfl) (by rfl) (by rfl) (by rfl) (by rfl) (by rfl) ?_
        | refine op_extract (by rfl) (by rfl) (by rfl) (by rfl) ?_
        | refine op_add (by rfl) (by rfl) (by rfl) (by rfl) (by omega) ?_
        | refine op_add_u8 (by rfl) (by rfl) (by rfl) (by rfl) (by omega) ?_
        | refine op_index_str (by rfl) (by rfl) (by rfl) (by rfl) (by omega) (by omega) ?_
        | refine wl_skip (by rfl) (by rfl) (by rfl) ?_
        | (refine wl_split_dec (by rfl) (by rfl) (by rfl) (fun _ => ?_) (fun _ => ?_) <;> (try first | contradiction | (exfalso; omega)))
        | (refine wl_split (by rfl) (by rfl) (by rfl) (fun _ => ?_) (fun _ => ?_) <;> (fail_if_success contradiction))
        | refine wl_nil ?_
        | refine at_then_normal ?_
        | refine at_then_ret ?_
        | refine at_then_exit ?_
        | refine at_block_normal ?_
        | refine at_block_ret ?_
        | refine at_block_exit ?_
        | refine at_block_other (by rfl) ?_
        | refine wc_seq ?_
        | refine wc_region ?_
        | refine wc_block ?_
        | refine wc_skip ?_
        | refine wc_exit ?_
        | refine wc_ret ?_
        | refine at_ret1 (by rfl) (by rfl) ?_
        | refine wc_cond_true (by rfl) ?_
        | refine wc_cond_false (by rfl) ?_
        | (refine wc_cond_dec (by rfl) (fun _ => ?_) (fun _ => ?_) <;> (try first | contradiction | (exfalso; omega)))
        | refine wc_cond (by rfl) (fun _ => ?_) (fun _ => ?_))
      exact at_round (k + 1) (by rw [hs2]; exact ⟨rfl, rfl, rfl, rfl, rfl, trivial⟩) ⟨by omega, rfl⟩ (by omega)
  · obtain rfl : k = 8 := by omega
    have hB0 := c_both x y false hx hy
    have hB1 := c_both x y true hx hy
    simp only [both_or x y hx hy] at hB0
    simp only [both_and x y hx] at hB1
    have hC := c_count x hx
    have hC' : (Sp.tagsOf x).length = (Sp.tagsTo x 8).length := rfl
    rw [hC'] at hC
    repeat' (first
      | (refine op_call (by rfl) (by rfl) (by rfl) (by exact c_flows x y hx hy _) ?_; rintro _ w5 ⟨rfl, rfl⟩)
      | (refine op_call (by rfl) (by rfl) (by rfl) (by exact c_rflows x y hx hy _) ?_; rintro _ w6 ⟨rfl, hk6⟩)
      | (refine op_call (by rfl) (by rfl) (by rfl) (by exact c_join x y hx hy _) ?_; rintro _ w7 ⟨rfl, rfl⟩)
      | (refine op_call (by rfl) (by rfl) (by rfl) (by exact hB0 _) ?_; rintro _ w8 ⟨rfl, hk8⟩)
      | (refine op_call (by rfl) (by rfl) (by rfl) (by exact c_meet x y hx hy _) ?_; rintro _ w9 ⟨rfl, rfl⟩)
      | (refine op_call (by rfl) (by rfl) (by rfl) (by exact hB1 _) ?_; rintro _ w10 ⟨rfl, hk10⟩)
      | (refine op_call (by rfl) (by rfl) (by rfl) (by exact hC _) ?_; rintro _ w11 ⟨rfl, rfl⟩)
      | (refine op_call (by rfl) (by rfl) (by rfl) (by exact c_print x hx _) ?_; rintro _ w12 ⟨rfl, hk12⟩)
      | (refine op_call (by rfl) (by rfl) (by rfl) (by exact c_rprint x hx _) ?_; rintro _ w13 ⟨rfl, hk13⟩)
      | refine op_move (by rfl) (by rfl) (by rfl) ?_
      | refine op_assign (by rfl) (by rfl) (by rfl) ?_
      | refine op_pick_true (by rfl) (by rfl) (by rfl) (by rfl) ?_
      | refine op_pick_false (by rfl) (by rfl) (by rfl) (by rfl) ?_
      | refine op_lss (by rfl) (by rfl) (by rfl) (by rfl) ?_
      | refine op_leq (by rfl) (by rfl) (by rfl) (by rfl) ?_
      | refine op_gtr (by rfl) (by rfl) (by rfl) (by rfl) ?_
      | refine op_geq (by rfl) (by rfl) (by rfl) (by rfl) ?_
      | refine op_eql (by rfl) (by rfl) (by rfl) (by rfl) ?_
      | refine op_neq (by rfl) (by rfl) (by rfl) (by rfl) ?_
      | refine op_eql_str (by rfl) (by rfl) (by rfl) (by rfl) ?_
      | refine op_eql_bool (by rfl) (by rfl) (by rfl) (by rfl) ?_
      | refine op_eql_flat (by rfl) (by rfl) (by rfl) (by rfl) (by rfl) (by rfl) ?_
      | refine op_neq_str (by rfl) (by rfl) (by rfl) (by rfl) ?_
      | refine op_neq_bool (by rfl) (by rfl) (by rfl) (by rfl) ?_
      | refine op_neq_flat (by rfl) (by rfl) (by rfl) (by rfl) (by rfl) (by rfl) ?_
      | refine op_extract (by rfl) (by rfl) (by rfl) (by rfl) ?_
      | refine op_add (by rfl) (by rfl) (by rfl) (by rfl) (by omega) ?_
      | refine op_add_u8 (by rfl) (by rfl) (by rfl) (by rfl) (by omega) ?_
      | refine op_index_str (by rfl) (by rfl) (by rfl) (by rfl) (by omega) (by omega) ?_
      | refine wl_skip (by rfl) (by rfl) (by rfl) ?_
      | (refine wl_split_dec (by rfl) (by rfl) (by rfl) (fun _ => ?_) (fun _ => ?_) <;> (try first | contradiction | (exfalso; omega)))
      | (refine wl_split (by rfl) (by rfl) (by rfl) (fun _ => ?_) (fun _ => ?_) <;> (fail_if_success contradiction))
      | refine wl_nil ?_
      | refine at_then_normal ?_
      | refine at_then_ret ?_
      | refine at_then_exit ?_
      | refine at_block_normal ?_
      | refine at_block_ret ?_
      | refine at_block_exit ?_
      | refine at_block_other (by rfl) ?_
      | refine wc_seq ?_
      | refine wc_region ?_
      | refine wc_block ?_
      | refine wc_skip ?_
      | refine wc_exit ?_
      | refine wc_ret ?_
      | refine at_ret1 (by rfl) (by rfl) ?_
      | refine wc_cond_true (by rfl) ?_
      | refine wc_cond_false (by rfl) ?_
      | (refine wc_cond_dec (by rfl) (fun _ => ?_) (fun _ => ?_) <;> (try first | contradiction | (exfalso; omega)))
      | refine wc_cond (by rfl) (fun _ => ?_) (fun _ => ?_))
    exact ⟨congrArg Value.bool (decide_eq_true rfl), ((((((hk1.trans hk2).trans hk3).trans hk6).trans hk8).trans hk10).trans hk12).trans hk13⟩
end Go.Proofs.YtgoglhmnfiehoaaDoor
