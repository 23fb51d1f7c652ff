/- Own work: what the small functions of package label return. -/
import Derived.Test.YtgoglhmnfiehoaaDoorFwTy
import Derived.Test.YtgoglhmnfiehoaaDoorFwMem4
import Derived.Test.YtgoglhmnfiehoaaDoorSpecLabel
namespace Go.Proofs.YtgoglhmnfiehoaaDoor
open Go.Fw

theorem c_right (a : Int) (w : World) : Cal Tryd.prog 8 #[.int .i64 a] w fun v w' => v = .bool (decide (0 ≤ a ∧ a ≤ 255)) ∧ w' = w := by
  refine enter (N := 9) Tryd.func8 rfl [(0, .int .i64 a)] args1 rfl ?_
  repeat' (first
    | refine op_move (by rfl) (by rfl) (by rfl) ?_
    | refine op_assign (by rfl) (by rfl) (by rfl) ?_
    | refine op_pick_true (by rfl) (by rfl) (by rfl) (by rfl) ?_
    | refine op_pick_false (by rfl) (by rfl) (by rfl) (by rfl) ?_
    | refine op_leq (by rfl) (by rfl) (by rfl) (by rfl) ?_
    | refine op_geq (by rfl) (by rfl) (by rfl) (by rfl) ?_
    | refine wl_skip (by rfl) (by rfl) (by rfl) ?_
    | (refine wl_split_dec (by rfl) (by rfl) (by rfl) (fun _ => ?_) (fun _ => ?_) <;> (try first | contradiction | (exfalso; omega)))
    | (refine wl_split (by rfl) (by rfl) (by rfl) (fun _ => ?_) (fun _ => ?_) <;> (fail_if_success contradiction))
    | refine wl_nil ?_
    | refine at_then_normal ?_
    | refine at_then_ret ?_
    | refine wc_seq ?_
    | refine wc_region ?_
    | refine wc_skip ?_
    | refine wc_ret ?_
    | refine at_ret1 (by rfl) (by rfl) ?_)
  all_goals (refine ⟨congrArg Value.bool ?_, rfl⟩; rw [Bool.eq_iff_iff]; simp; omega)
theorem c_flows (a b : Nat) (ha : a < 256) (hb : b < 256) (w : World) : Cal Tryd.prog 10 #[.int .i64 a, .int .i64 b] w fun v w' => v = .bool (Sp.flows a b) ∧ w' = w := by
  refine enter (N := 9) Tryd.func10 rfl [(0, .int .i64 a), (1, .int .i64 b)] args2 rfl ?_
  repeat' (first
    | refine op_move (by rfl) (by rfl) (by rfl) ?_
    | refine op_assign (by rfl) (by rfl) (by rfl) ?_
    | refine op_eql (by rfl) (by rfl) (by rfl) (by rfl) ?_
    | refine op_eql_str (by rfl) (by rfl) (by rfl) (by rfl) ?_
    | refine op_eql_bool (by rfl) (by rfl) (by rfl) (by rfl) ?_
    | refine op_eql_flat (by rfl) (by rfl) (by rfl) (by rfl) (by rfl) (by rfl) ?_
    | refine op_andNot (by rfl) (by rfl) (by rfl) (by rfl) (by omega) (by omega) ?_
    | refine wl_nil ?_
    | refine at_then_normal ?_
    | refine at_then_ret ?_
    | refine wc_seq ?_
    | refine wc_region ?_
    | refine wc_skip ?_
    | refine wc_ret ?_
    | refine at_ret1 (by rfl) (by rfl) ?_)
  refine ⟨congrArg Value.bool ?_, rfl⟩
  rw [Bool.eq_iff_iff, decide_eq_true_eq, Int.toNat_natCast, Int.toNat_natCast, ← Sp.andNot_zero ha hb]
  omega
theorem c_join (a b : Nat) (ha : a < 256) (hb : b < 256) (w : World) : Cal Tryd.prog 12 #[.int .i64 a, .int .i64 b] w fun v w' => v = .int .i64 ((a ||| b : Nat) : Int) ∧ w' = w := by
  refine enter (N := 8) Tryd.func12 rfl [(0, .int .i64 a), (1, .int .i64 b)] args2 rfl ?_
  repeat' (first
    | refine op_move (by rfl) (by rfl) (by rfl) ?_
    | refine op_assign (by rfl) (by rfl) (by rfl) ?_
    | refine op_or (by rfl) (by rfl) (by rfl) (by rfl) (by omega) (by omega) ?_
    | refine wl_nil ?_
    | refine at_then_normal ?_
    | refine at_then_ret ?_
    | refine wc_seq ?_
    | refine wc_region ?_
    | refine wc_skip ?_
    | refine wc_ret ?_
    | refine at_ret1 (by rfl) (by rfl) ?_)
  exact ⟨rfl, rfl⟩
theorem c_meet (a b : Nat) (ha : a < 256) (hb : b < 256) (w : World) : Cal Tryd.prog 14 #[.int .i64 a, .int .i64 b] w fun v w' => v = .int .i64 ((a &&& b : Nat) : Int) ∧ w' = w := by
  refine enter (N := 8) Tryd.func14 rfl [(0, .int .i64 a), (1, .int .i64 b)] args2 rfl ?_
  repeat' (first
    | refine op_move (by rfl) (by rfl) (by rfl) ?_
    | refine op_assign (by rfl) (by rfl) (by rfl) ?_
    | refine op_and (by rfl) (by rfl) (by rfl) (by rfl) (by omega) (by omega) ?_
    | refine wl_nil ?_
    | refine at_then_normal ?_
    | refine at_then_ret ?_
    | refine wc_seq ?_
    | refine wc_region ?_
    | refine wc_skip ?_
    | refine wc_ret ?_
    | refine at_ret1 (by rfl) (by rfl) ?_)
  exact ⟨rfl, rfl⟩
end Go.Proofs.YtgoglhmnfiehoaaDoor
