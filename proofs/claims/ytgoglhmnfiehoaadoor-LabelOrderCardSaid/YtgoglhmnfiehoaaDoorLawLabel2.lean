/- Own work: the law on the labels' order: its walk. -/
import Derived.Test.YtgoglhmnfiehoaaDoorLawLabel
namespace Go.Proofs.YtgoglhmnfiehoaaDoor
open Go.Fw
set_option maxHeartbeats 8000000 in
theorem law_order (a b c : Int) (w : World) (hM : MaxAt w) : Cal Tryd.prog 4 #[.int .i64 a, .int .i64 b, .int .i64 c] w fun v w' => v = .bool true ∧ Kept [] w w' := by
  refine enter (N := 121) Tryd.func4 rfl [(0, .int .i64 a), (1, .int .i64 b), (2, .int .i64 c)] args3 rfl ?_
  by_cases ha : 0 ≤ a ∧ a ≤ 255
  case neg =>
    repeat' (first
      | (refine op_call (by rfl) (by rfl) (by rfl) (by exact c_alive w hM) ?_; rintro _ w1 ⟨rfl, hk1⟩)
      | (refine op_call (by rfl) (by rfl) (by rfl) (by exact right_no a ha _) ?_; rintro _ w1 ⟨rfl, rfl⟩)
      | refine op_move (by rfl) (by rfl) (by rfl) ?_
      | refine op_assign (by rfl) (by rfl) (by rfl) ?_
      | refine op_pick_true (by rfl) (by rfl) (by rfl) (by rfl) ?_
      | refine op_pick_false (by rfl) (by rfl) (by rfl) (by rfl) ?_
      | refine op_eql (by rfl) (by rfl) (by rfl) (by rfl) ?_
      | refine op_neq (by rfl) (by rfl) (by rfl) (by rfl) ?_
      | refine op_eql_str (by rfl) (by rfl) (by rfl) (by rfl) ?_
      | refine op_eql_bool (by rfl) (by rfl) (by rfl) (by rfl) ?_
      | refine op_eql_flat (by rfl) (by rfl) (by rfl) (by rfl) (by rfl) (by rfl) ?_
      | refine op_neq_str (by rfl) (by rfl) (by rfl) (by rfl) ?_
      | refine op_neq_bool (by rfl) (by rfl) (by rfl) (by rfl) ?_
      | refine op_neq_flat (by rfl) (by rfl) (by rfl) (by rfl) (by rfl) (by rfl) ?_
      | refine op_not (by rfl) (by rfl) (by rfl) ?_
      | refine wl_skip (by rfl) (by rfl) (by rfl) ?_
      | (refine wl_split_dec (by rfl) (by rfl) (by rfl) (fun _ => ?_) (fun _ => ?_) <;> (try first | contradiction | (exfalso; omega)))
      | (refine wl_split (by rfl) (by rfl) (by rfl) (fun _ => ?_) (fun _ => ?_) <;> (fail_if_success contradiction))
      | refine wl_nil ?_
      | refine at_then_normal ?_
      | refine at_then_ret ?_
      | refine wc_seq ?_
      | refine wc_region ?_
      | refine wc_skip ?_
      | refine wc_ret ?_
      | refine at_ret1 (by rfl) (by rfl) ?_
      | refine wc_cond_true (by rfl) ?_
      | refine wc_cond_false (by rfl) ?_
      | (refine wc_cond_dec (by rfl) (fun _ => ?_) (fun _ => ?_) <;> (try first | contradiction | (exfalso; omega)))
      | refine wc_cond (by rfl) (fun _ => ?_) (fun _ => ?_))
    exact ⟨rfl, hk1⟩
  obtain ⟨x, rfl⟩ := Int.eq_ofNat_of_zero_le ha.1
  have hx : x < 256 := by omega
  by_cases hb : 0 ≤ b ∧ b ≤ 255
  case neg =>
    repeat' (first
      | (refine op_call (by rfl) (by rfl) (by rfl) (by exact c_alive w hM) ?_; rintro _ w1 ⟨rfl, hk1⟩)
      | (refine op_call (by rfl) (by rfl) (by rfl) (by exact right_yes x hx _) ?_; rintro _ w1 ⟨rfl, rfl⟩)
      | (refine op_call (by rfl) (by rfl) (by rfl) (by exact right_no b hb _) ?_; rintro _ w1 ⟨rfl, rfl⟩)
      | refine op_move (by rfl) (by rfl) (by rfl) ?_
      | refine op_assign (by rfl) (by rfl) (by rfl) ?_
      | refine op_pick_true (by rfl) (by rfl) (by rfl) (by rfl) ?_
      | refine op_pick_false (by rfl) (by rfl) (by rfl) (by rfl) ?_
      | refine op_eql (by rfl) (by rfl) (by rfl) (by rfl) ?_
      | refine op_neq (by rfl) (by rfl) (by rfl) (by rfl) ?_
      | refine op_eql_str (by rfl) (by rfl) (by rfl) (by rfl) ?_
      | refine op_eql_bool (by rfl) (by rfl) (by rfl) (by rfl) ?_
      | refine op_eql_flat (by rfl) (by rfl) (by rfl) (by rfl) (by rfl) (by rfl) ?_
      | refine op_neq_str (by rfl) (by rfl) (by rfl) (by rfl) ?_
      | refine op_neq_bool (by rfl) (by rfl) (by rfl) (by rfl) ?_
      | refine op_neq_flat (by rfl) (by rfl) (by rfl) (by rfl) (by rfl) (by rfl) ?_
      | refine op_not (by rfl) (by rfl) (by rfl) ?_
      | refine wl_skip (by rfl) (by rfl) (by rfl) ?_
      | (refine wl_split_dec (by rfl) (by rfl) (by rfl) (fun _ => ?_) (fun _ => ?_) <;> (try first | contradiction | (exfalso; omega)))
      | (refine wl_split (by rfl) (by rfl) (by rfl) (fun _ => ?_) (fun _ => ?_) <;> (fail_if_success contradiction))
      | refine wl_nil ?_
      | refine at_then_normal ?_
      | refine at_then_ret ?_
      | refine wc_seq ?_
      | refine wc_region ?_
      | refine wc_skip ?_
      | refine wc_ret ?_
      | refine at_ret1 (by rfl) (by rfl) ?_
      | refine wc_cond_true (by rfl) ?_
      | refine wc_cond_false (by rfl) ?_
      | (refine wc_cond_dec (by rfl) (fun _ => ?_) (fun _ => ?_) <;> (try first | contradiction | (exfalso; omega)))
      | refine wc_cond (by rfl) (fun _ => ?_) (fun _ => ?_))
    exact ⟨rfl, hk1⟩
  obtain ⟨y, rfl⟩ := Int.eq_ofNat_of_zero_le hb.1
  have hy : y < 256 := by omega
  by_cases hc : 0 ≤ c ∧ c ≤ 255
  case neg =>
    repeat' (first
      | (refine op_call (by rfl) (by rfl) (by rfl) (by exact c_alive w hM) ?_; rintro _ w1 ⟨rfl, hk1⟩)
      | (refine op_call (by rfl) (by rfl) (by rfl) (by exact right_yes x hx _) ?_; rintro _ w1 ⟨rfl, rfl⟩)
      | (refine op_call (by rfl) (by rfl) (by rfl) (by exact right_yes y hy _) ?_; rintro _ w1 ⟨rfl, rfl⟩)
      | (refine op_call (by rfl) (by rfl) (by rfl) (by exact right_no c hc _) ?_; rintro _ w1 ⟨rfl, rfl⟩)
      | refine op_move (by rfl) (by rfl) (by rfl) ?_
      | refine op_assign (by rfl) (by rfl) (by rfl) ?_
      | refine op_pick_true (by rfl) (by rfl) (by rfl) (by rfl) ?_
      | refine op_pick_false (by rfl) (by rfl) (by rfl) (by rfl) ?_
      | refine op_eql (by rfl) (by rfl) (by rfl) (by rfl) ?_
      | refine op_neq (by rfl) (by rfl) (by rfl) (by rfl) ?_
      | refine op_eql_str (by rfl) (by rfl) (by rfl) (by rfl) ?_
      | refine op_eql_bool (by rfl) (by rfl) (by rfl) (by rfl) ?_
      | refine op_eql_flat (by rfl) (by rfl) (by rfl) (by rfl) (by rfl) (by rfl) ?_
      | refine op_neq_str (by rfl) (by rfl) (by rfl) (by rfl) ?_
      | refine op_neq_bool (by rfl) (by rfl) (by rfl) (by rfl) ?_
      | refine op_neq_flat (by rfl) (by rfl) (by rfl) (by rfl) (by rfl) (by rfl) ?_
      | refine op_not (by rfl) (by rfl) (by rfl) ?_
      | refine wl_skip (by rfl) (by rfl) (by rfl) ?_
      | (refine wl_split_dec (by rfl) (by rfl) (by rfl) (fun _ => ?_) (fun _ => ?_) <;> (try first | contradiction | (exfalso; omega)))
      | (refine wl_split (by rfl) (by rfl) (by rfl) (fun _ => ?_) (fun _ => ?_) <;> (fail_if_success contradiction))
      | refine wl_nil ?_
      | refine at_then_normal ?_
      | refine at_then_ret ?_
      | refine wc_seq ?_
      | refine wc_region ?_
      | refine wc_skip ?_
      | refine wc_ret ?_
      | refine at_ret1 (by rfl) (by rfl) ?_
      | refine wc_cond_true (by rfl) ?_
      | refine wc_cond_false (by rfl) ?_
      | (refine wc_cond_dec (by rfl) (fun _ => ?_) (fun _ => ?_) <;> (try first | contradiction | (exfalso; omega)))
      | refine wc_cond (by rfl) (fun _ => ?_) (fun _ => ?_))
    exact ⟨rfl, hk1⟩
  obtain ⟨z, rfl⟩ := Int.eq_ofNat_of_zero_le hc.1
  have hz : z < 256 := by omega
  have hj : x ||| y < 256 := Sp.or_lt hx hy
  have hm : x &&& y < 256 := Sp.and_lt hx
  have Fxx : ∀ w, Cal Tryd.prog 10 #[.int .i64 x, .int .i64 x] w fun v w' => v = .bool true ∧ w' = w := fun w => by
    have h := c_flows x x hx hx w
    rwa [Sp.flows_refl] at h
  have hor := Sp.flows_or x y (x ||| y)
  rw [Sp.flows_refl] at hor
  have hand := Sp.flows_and x y (x &&& y)
  rw [Sp.flows_refl] at hand
  have hor' : Sp.flows x (x ||| y) = true ∧ Sp.flows y (x ||| y) = true := by simpa using hor.symm
  have hand' : Sp.flows (x &&& y) x = true ∧ Sp.flows (x &&& y) y = true := by simpa using hand.symm
  have Fxj : ∀ w, Cal Tryd.prog 10 #[.int .i64 x, .int .i64 ((x ||| y : Nat) : Int)] w fun v w' => v = .bool true ∧ w' = w := fun w => by
    have h := c_flows x (x ||| y) hx hj w
    rwa [hor'.1] at h
  have Fyj : ∀ w, Cal Tryd.prog 10 #[.int .i64 y, .int .i64 ((x ||| y : Nat) : Int)] w fun v w' => v = .bool true ∧ w' = w := fun w => by
    have h := c_flows y (x ||| y) hy hj w
    rwa [hor'.2] at h
  have Fmx : ∀ w, Cal Tryd.prog 10 #[.int .i64 ((x &&& y : Nat) : Int), .int .i64 x] w fun v w' => v = .bool true ∧ w' = w := fun w => by
    have h := c_flows (x &&& y) x hm hx w
    rwa [hand'.1] at h
  have Fmy : ∀ w, Cal Tryd.prog 10 #[.int .i64 ((x &&& y : Nat) : Int), .int .i64 y] w fun v w' => v = .bool true ∧ w' = w := fun w => by
    have h := c_flows (x &&& y) y hm hy w
    rwa [hand'.2] at h
  have Fjz : ∀ w, Cal Tryd.prog 10 #[.int .i64 ((x ||| y : Nat) : Int), .int .i64 z] w fun v w' => v = .bool (Sp.flows x z && Sp.flows y z) ∧ w' = w := fun w => by
    have h := c_flows (x ||| y) z hj hz w
    rwa [Sp.flows_or] at h
  have Fzm : ∀ w, Cal Tryd.prog 10 #[.int .i64 z, .int .i64 ((x &&& y : Nat) : Int)] w fun v w' => v = .bool (Sp.flows z x && Sp.flows z y) ∧ w' = w := fun w => by
    have h := c_flows z (x &&& y) hz hm w
    rwa [Sp.flows_and] at h
  have Fxy := c_flows x y hx hy
  have Fyx := c_flows y x hy hx
  have Fyz := c_flows y z hy hz
  have Fxz := c_flows x z hx hz
  have Fzx := c_flows z x hz hx
  have Fzy := c_flows z y hz hy
  have han : Sp.flows x y = true → Sp.flows y x = true → x = y := Sp.flows_anti hx hy
  have htr : Sp.flows x y = true → Sp.flows y z = true → Sp.flows x z = true := Sp.flows_trans
  have hjm : x ||| (x &&& y) = x := Sp.or_and_self x y
  have Jj := c_join x y hx hy
  have Mm := c_meet x y hx hy
  have Jm := c_join x (x &&& y) hx hm
  rw [hjm] at Jm
  clear hor hand hor' hand' hjm
  generalize Sp.flows x y = fxy at Fxy han htr
  generalize Sp.flows y x = fyx at Fyx han
  generalize Sp.flows y z = fyz at Fyz htr Fjz
  generalize Sp.flows x z = fxz at Fxz htr Fjz
  generalize Sp.flows z x = fzx at Fzx Fzm
  generalize Sp.flows z y = fzy at Fzy Fzm
  generalize x ||| y = j at hj Fxj Fyj Fjz Jj
  generalize x &&& y = m at hm Fmx Fmy Fzm Mm Jm
  repeat' (first
    | (refine op_call (by rfl) (by rfl) (by rfl) (by exact c_alive w hM) ?_; rintro _ w1 ⟨rfl, hk1⟩)
    | (refine op_call (by rfl) (by rfl) (by rfl) (by exact right_yes x hx _) ?_; rintro _ w1 ⟨rfl, rfl⟩)
    | (refine op_call (by rfl) (by rfl) (by rfl) (by exact right_yes y hy _) ?_; rintro _ w1 ⟨rfl, rfl⟩)
    | (refine op_call (by rfl) (by rfl) (by rfl) (by exact right_yes z hz _) ?_; rintro _ w1 ⟨rfl, rfl⟩)
    | (refine op_call (by rfl) (by rfl) (by rfl) (by exact Jm _) ?_; rintro _ w1 ⟨rfl, rfl⟩)
    | (refine op_call (by rfl) (by rfl) (by rfl) (by exact Jj _) ?_; rintro _ w1 ⟨rfl, rfl⟩)
    | (refine op_call (by rfl) (by rfl) (by rfl) (by exact Mm _) ?_; rintro _ w1 ⟨rfl, rfl⟩)
    | (refine op_call (by rfl) (by rfl) (by rfl) (by exact Fxx _) ?_; rintro _ w1 ⟨rfl, rfl⟩)
    | (refine op_call (by rfl) (by rfl) (by rfl) (by exact Fxj _) ?_; rintro _ w1 ⟨rfl, rfl⟩)
    | (refine op_call (by rfl) (by rfl) (by rfl) (by exact Fyj _) ?_; rintro _ w1 ⟨rfl, rfl⟩)
    | (refine op_call (by rfl) (by rfl) (by rfl) (by exact Fmx _) ?_; rintro _ w1 ⟨rfl, rfl⟩)
    | (refine op_call (by rfl) (by rfl) (by rfl) (by exact Fmy _) ?_; rintro _ w1 ⟨rfl, rfl⟩)
    | (refine op_call (by rfl) (by rfl) (by rfl) (by exact Fjz _) ?_; rintro _ w1 ⟨rfl, rfl⟩)
    | (refine op_call (by rfl) (by rfl) (by rfl) (by exact Fzm _) ?_; rintro _ w1 ⟨rfl, rfl⟩)
    | (refine op_call (by rfl) (by rfl) (by rfl) (by exact Fxy _) ?_; rintro _ w1 ⟨rfl, rfl⟩; cases fxy)
    | (refine op_call (by rfl) (by rfl) (by rfl) (by exact Fxy _) ?_; rintro _ w1 ⟨rfl, rfl⟩)
    | (refine op_call (by rfl) (by rfl) (by rfl) (by exact Fyx _) ?_; rintro _ w1 ⟨rfl, rfl⟩; cases fyx)
    | (refine op_call (by rfl) (by rfl) (by rfl) (by exact Fyx _) ?_; rintro _ w1 ⟨rfl, rfl⟩)
    | (refine op_call (by rfl) (by rfl) (by rfl) (by exact Fyz _) ?_; rintro _ w1 ⟨rfl, rfl⟩; cases fyz)
    | (refine op_call (by rfl) (by rfl) (by rfl) (by exact Fyz _) ?_; rintro _ w1 ⟨rfl, rfl⟩)
    | (refine op_call (by rfl) (by rfl) (by rfl) (by exact Fxz _) ?_; rintro _ w1 ⟨rfl, rfl⟩; cases fxz)
    | (refine op_call (by rfl) (by rfl) (by rfl) (by exact Fxz _) ?_; rintro _ w1 ⟨rfl, rfl⟩)
    | (refine op_call (by rfl) (by rfl) (by rfl) (by exact Fzx _) ?_; rintro _ w1 ⟨rfl, rfl⟩; cases fzx)
    | (refine op_call (by rfl) (by rfl) (by rfl) (by exact Fzx _) ?_; rintro _ w1 ⟨rfl, rfl⟩)
    | (refine op_call (by rfl) (by rfl) (by rfl) (by exact Fzy _) ?_; rintro _ w1 ⟨rfl, rfl⟩; cases fzy)
    | (refine op_call (by rfl) (by rfl) (by rfl) (by exact Fzy _) ?_; rintro _ w1 ⟨rfl, rfl⟩)
    | (refine wc_cut_reg 6 (fun _ : Unit => [(0, .int .i64 x), (1, .int .i64 y), (2, .int .i64 z), (7, .int .i64 j), (8, .int .i64 m)]) (fun _ w' => w' = w1) ?_ ?_)
    | (refine wc_cut_reg 8 (fun _ : Unit => [(0, .int .i64 x), (1, .int .i64 y), (2, .int .i64 z), (7, .int .i64 j), (8, .int .i64 m)]) (fun _ w' => w' = w1) ?_ ?_)
    | (rintro ⟨⟩ w1 rfl)
    | refine op_move (by rfl) (by rfl) (by rfl) ?_
    | refine op_assign (by rfl) (by rfl) (by rfl) ?_
    | refine op_pick_true (by rfl) (by rfl) (by rfl) (by rfl) ?_
    | refine op_pick_false (by rfl) (by rfl) (by rfl) (by rfl) ?_
    | refine op_eql (by rfl) (by rfl) (by rfl) (by rfl) ?_
    | refine op_neq (by rfl) (by rfl) (by rfl) (by rfl) ?_
    | refine op_eql_str (by rfl) (by rfl) (by rfl) (by rfl) ?_
    | refine op_eql_bool (by rfl) (by rfl) (by rfl) (by rfl) ?_
    | refine op_eql_flat (by rfl) (by rfl) (by rfl) (by rfl) (by rfl) (by rfl) ?_
    | refine op_neq_str (by rfl) (by rfl) (by rfl) (by rfl) ?_
    | refine op_neq_bool (by rfl) (by rfl) (by rfl) (by rfl) ?_
    | refine op_neq_flat (by rfl) (by rfl) (by rfl) (by rfl) (by rfl) (by rfl) ?_
    | refine op_not (by rfl) (by rfl) (by rfl) ?_
    | refine wl_skip (by rfl) (by rfl) (by rfl) ?_
    | (refine wl_split_dec (by rfl) (by rfl) (by rfl) (fun _ => ?_) (fun _ => ?_) <;> (try first | contradiction | (exfalso; omega)))
    | (refine wl_split (by rfl) (by rfl) (by rfl) (fun _ => ?_) (fun _ => ?_) <;> (fail_if_success contradiction))
    | refine wl_nil ?_
    | refine at_then_normal ?_
    | refine at_then_ret ?_
    | refine wc_seq ?_
    | refine wc_region ?_
    | refine wc_skip ?_
    | refine wc_ret ?_
    | refine at_ret1 (by rfl) (by rfl) ?_
    | refine wc_cond_true (by rfl) ?_
    | refine wc_cond_false (by rfl) ?_
    | (refine wc_cond_dec (by rfl) (fun _ => ?_) (fun _ => ?_) <;> (try first | contradiction | (exfalso; omega)))
    | refine wc_cond (by rfl) (fun _ => ?_) (fun _ => ?_))
  all_goals first
    | exact at_cut () ⟨rfl, rfl, rfl, rfl, rfl, trivial⟩ rfl
    | exact ⟨rfl, hk1⟩
    | exact ⟨congrArg Value.bool (decide_eq_true rfl), hk1⟩
    | (exfalso; have := han rfl rfl; omega)
    | (exfalso; have := htr rfl rfl; cases this)
    | (exfalso; rename_i h; revert h; decide)
    | skip
end Go.Proofs.YtgoglhmnfiehoaaDoor
