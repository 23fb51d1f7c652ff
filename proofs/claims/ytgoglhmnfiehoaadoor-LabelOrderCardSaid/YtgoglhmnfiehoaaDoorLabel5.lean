/- Own work: what label.Count, label.Print and the reference's Print return. -/
import Derived.Test.YtgoglhmnfiehoaaDoorSpecLabel2
import Derived.Test.YtgoglhmnfiehoaaDoorFwInt2
import Derived.Test.YtgoglhmnfiehoaaDoorShelf
namespace Go.Proofs.YtgoglhmnfiehoaaDoor
open Go.Fw

theorem c_ones64 (n : Nat) (hn : n < 256) (w : World) : Cal Tryd.prog 24 #[.int .u64 n] w fun v w' => v = .int .i64 (((Sp.tagsOf n).length : Nat) : Int) ∧ w' = w := by
  refine enter (N := 35) Tryd.func24 rfl [(0, .int .u64 n)] args1 rfl ?_
  repeat' (first
    | (refine op_shr_u64 (by rfl) (by rfl) (by rfl) (by rfl) (by decide) ?_)
    | (refine op_and_u64 (b := 6148914691236517205) (by rfl) (by rfl) (by rfl) (by rfl) (by revert hn; revert n; decide +kernel) (by decide) ?_)
    | (refine op_and_u64 (b := 3689348814741910323) (by rfl) (by rfl) (by rfl) (by rfl) (by revert hn; revert n; decide +kernel) (by decide) ?_)
    | (refine op_and_u64 (b := 1085102592571150095) (by rfl) (by rfl) (by rfl) (by rfl) (by revert hn; revert n; decide +kernel) (by decide) ?_)
    | (refine op_add_u64 (by rfl) (by rfl) (by rfl) (by rfl) (by revert hn; revert n; decide +kernel) ?_)
    | (refine op_convert (by rfl) (by rfl) (by rfl) ?_)
    | (refine op_and (by rfl) (by rfl) (by rfl) (by rfl) (by revert hn; revert n; decide +kernel) (by decide) ?_)
    | refine op_move (by rfl) (by rfl) (by rfl) ?_
    | refine op_assign (by rfl) (by rfl) (by rfl) ?_
    | refine op_add (by rfl) (by rfl) (by rfl) (by rfl) (by omega) ?_
    | refine op_add_u8 (by rfl) (by rfl) (by rfl) (by rfl) (by omega) ?_
    | refine op_and (by rfl) (by rfl) (by rfl) (by rfl) (by omega) (by omega) ?_
    | refine op_convert (by rfl) (by rfl) (by rfl) ?_
    | refine wl_nil ?_
    | refine at_then_normal ?_
    | refine at_then_ret ?_
    | refine wc_seq ?_
    | refine wc_region ?_
    | refine wc_skip ?_
    | refine wc_ret ?_
    | refine at_ret1 (by rfl) (by rfl) ?_)
  refine ⟨congrArg (Value.int .i64) ?_, rfl⟩
  revert hn; revert n; decide +kernel
theorem c_ones (n : Nat) (hn : n < 256) (w : World) : Cal Tryd.prog 20 #[.int .u64 n] w fun v w' => v = .int .i64 (((Sp.tagsOf n).length : Nat) : Int) ∧ w' = w := by
  refine enter (N := 8) Tryd.func20 rfl [(0, .int .u64 n)] args1 rfl ?_
  repeat' (first
    | (refine op_call (by rfl) (by rfl) (by rfl) (by exact c_ones64 n hn _) ?_; rintro _ w1 ⟨rfl, rfl⟩)
    | refine op_move (by rfl) (by rfl) (by rfl) ?_
    | refine op_assign (by rfl) (by rfl) (by rfl) ?_
    | refine op_convert (by rfl) (by rfl) (by rfl) ?_
    | refine wl_nil ?_
    | refine at_then_normal ?_
    | refine at_then_ret ?_
    | refine wc_seq ?_
    | refine wc_region ?_
    | refine wc_skip ?_
    | refine wc_ret ?_
    | refine at_ret1 (by rfl) (by rfl) ?_
    | refine wc_cond_true (by rfl) ?_
    | refine wc_cond_false (by rfl) ?_
    | (refine wc_cond_dec (by rfl) (fun _ => ?_) (fun _ => ?_) <;> (try first | contradiction | (exfalso; omega)))
    | refine wc_cond (by rfl) (fun _ => ?_) (fun _ => ?_))
  exact ⟨rfl, rfl⟩
end Go.Proofs.YtgoglhmnfiehoaaDoor
