/- Own work: what the functions of package lex return. -/
import Derived.Test.YthleggomainocaaFwTy
import Derived.Test.YthleggomainocaaSpec
namespace Go.Proofs.Ythleggomainocaa
open Go.Fw

theorem c_letter (c : UInt8) (w : World) :
    Cal Try.prog 17 #[.int .u8 (c.toNat : Int)] w fun v w' => v = .bool (Sp.isLetter c) ∧ w' = w := by
  refine enter (N := 21) Try.func17 rfl [(0, .int .u8 (c.toNat : Int))] args1 rfl ?_
  repeat' (first
    | refine op_move (by rfl) (by rfl) (by rfl) ?_
    | refine op_assign (by rfl) (by rfl) (by rfl) ?_
    | refine op_pick_true (by rfl) (by rfl) (by rfl) (by rfl) ?_
    | refine op_pick_false (by rfl) (by rfl) (by rfl) (by rfl) ?_
    | refine op_leq (by rfl) (by rfl) (by rfl) (by rfl) ?_
    | refine op_geq (by rfl) (by rfl) (by rfl) (by rfl) ?_
    | refine op_eql (by rfl) (by rfl) (by rfl) (by rfl) ?_
    | refine op_eql_str (by rfl) (by rfl) (by rfl) (by rfl) ?_
    | refine op_eql_bool (by rfl) (by rfl) (by rfl) (by rfl) ?_
    | refine op_eql_flat (by rfl) (by rfl) (by rfl) (by rfl) (by rfl) (by rfl) ?_
    | refine wl_skip (by rfl) (by rfl) (by rfl) ?_
    | (refine wl_split_dec (by rfl) (by rfl) (by rfl) (fun _ => ?_) (fun _ => ?_) <;> (try first | contradiction | (exfalso; omega)))
    | refine wl_split (by rfl) (by rfl) (by rfl) (fun _ => ?_) (fun _ => ?_)
    | refine wl_nil ?_
    | refine at_then_normal ?_
    | refine at_then_ret ?_
    | refine wc_seq ?_
    | refine wc_region ?_
    | refine wc_skip ?_
    | refine wc_ret ?_
    | refine at_ret1 (by rfl) (by rfl) ?_)
  all_goals (refine ⟨congrArg Value.bool ?_, rfl⟩; unfold Sp.isLetter; rw [Bool.eq_iff_iff]; simp; omega)
theorem c_digit (c : UInt8) (w : World) :
    Cal Try.prog 19 #[.int .u8 (c.toNat : Int)] w fun v w' => v = .bool (Sp.isDigit c) ∧ w' = w := by
  refine enter (N := 9) Try.func19 rfl [(0, .int .u8 (c.toNat : Int))] args1 rfl ?_
  repeat' (first
    | refine op_move (by rfl) (by rfl) (by rfl) ?_
    | refine op_assign (by rfl) (by rfl) (by rfl) ?_
    | refine op_pick_true (by rfl) (by rfl) (by rfl) (by rfl) ?_
    | refine op_pick_false (by rfl) (by rfl) (by rfl) (by rfl) ?_
    | refine op_leq (by rfl) (by rfl) (by rfl) (by rfl) ?_
    | refine op_geq (by rfl) (by rfl) (by rfl) (by rfl) ?_
    | refine wl_skip (by rfl) (by rfl) (by rfl) ?_
    | (refine wl_split_dec (by rfl) (by rfl) (by rfl) (fun _ => ?_) (fun _ => ?_) <;> (try first | contradiction | (exfalso; omega)))
    | refine wl_split (by rfl) (by rfl) (by rfl) (fun _ => ?_) (fun _ => ?_)
    | refine wl_nil ?_
    | refine at_then_normal ?_
    | refine at_then_ret ?_
    | refine wc_seq ?_
    | refine wc_region ?_
    | refine wc_skip ?_
    | refine wc_ret ?_
    | refine at_ret1 (by rfl) (by rfl) ?_)
  all_goals (refine ⟨congrArg Value.bool ?_, rfl⟩; unfold Sp.isDigit; rw [Bool.eq_iff_iff]; simp; omega)
theorem c_blank (c : UInt8) (w : World) :
    Cal Try.prog 21 #[.int .u8 (c.toNat : Int)] w fun v w' => v = .bool (Sp.isBlank c) ∧ w' = w := by
  refine enter (N := 13) Try.func21 rfl [(0, .int .u8 (c.toNat : Int))] args1 rfl ?_
  repeat' (first
    | refine op_move (by rfl) (by rfl) (by rfl) ?_
    | refine op_assign (by rfl) (by rfl) (by rfl) ?_
    | refine op_pick_true (by rfl) (by rfl) (by rfl) (by rfl) ?_
    | refine op_pick_false (by rfl) (by rfl) (by rfl) (by rfl) ?_
    | refine op_eql (by rfl) (by rfl) (by rfl) (by rfl) ?_
    | refine op_eql_str (by rfl) (by rfl) (by rfl) (by rfl) ?_
    | refine op_eql_bool (by rfl) (by rfl) (by rfl) (by rfl) ?_
    | refine op_eql_flat (by rfl) (by rfl) (by rfl) (by rfl) (by rfl) (by rfl) ?_
    | refine wl_skip (by rfl) (by rfl) (by rfl) ?_
    | (refine wl_split_dec (by rfl) (by rfl) (by rfl) (fun _ => ?_) (fun _ => ?_) <;> (try first | contradiction | (exfalso; omega)))
    | refine wl_split (by rfl) (by rfl) (by rfl) (fun _ => ?_) (fun _ => ?_)
    | refine wl_nil ?_
    | refine at_then_normal ?_
    | refine at_then_ret ?_
    | refine wc_seq ?_
    | refine wc_region ?_
    | refine wc_skip ?_
    | refine wc_ret ?_
    | refine at_ret1 (by rfl) (by rfl) ?_)
  all_goals (refine ⟨congrArg Value.bool ?_, rfl⟩; unfold Sp.isBlank; rw [Bool.eq_iff_iff]; simp; omega)
theorem toNat_inj {a b : UInt8} (h : (a.toNat : Int) = b.toNat) : a = b := UInt8.toNat_inj.1 (by omega)
theorem c_sign (c : UInt8) (w : World) :
    Cal Try.prog 29 #[.int .u8 (c.toNat : Int)] w fun v w' => v = .bool (Sp.isSign c) ∧ w' = w := by
  refine enter (N := 12) Try.func29 rfl [(0, .int .u8 (c.toNat : Int))] args1 rfl ?_
  repeat' (first
    | refine op_move (by rfl) (by rfl) (by rfl) ?_
    | refine op_assign (by rfl) (by rfl) (by rfl) ?_
    | refine op_lss (by rfl) (by rfl) (by rfl) (by rfl) ?_
    | refine op_eql (by rfl) (by rfl) (by rfl) (by rfl) ?_
    | refine op_eql_str (by rfl) (by rfl) (by rfl) (by rfl) ?_
    | refine op_eql_bool (by rfl) (by rfl) (by rfl) (by rfl) ?_
    | refine op_eql_flat (by rfl) (by rfl) (by rfl) (by rfl) (by rfl) (by rfl) ?_
    | refine op_add (by rfl) (by rfl) (by rfl) (by rfl) (by omega) ?_
    | refine op_index_str (by rfl) (by rfl) (by rfl) (by rfl) (by omega) (by omega) ?_
    | refine wl_nil ?_
    | refine at_then_normal ?_
    | refine at_then_ret ?_
    | refine at_then_exit ?_
    | refine at_block_normal ?_
    | refine at_block_ret ?_
    | refine at_block_exit ?_
    | refine at_block_other (by rfl) ?_
    | refine wc_seq ?_
    | refine wc_region ?_
    | refine wc_block ?_
    | refine wc_skip ?_
    | refine wc_exit ?_
    | refine wc_ret ?_
    | refine at_ret1 (by rfl) (by rfl) ?_
    | refine wc_cond_true (by rfl) ?_
    | refine wc_cond_false (by rfl) ?_
    | (refine wc_cond_dec (by rfl) (fun _ => ?_) (fun _ => ?_) <;> (try first | contradiction | (exfalso; omega)))
    | refine wc_cond (by rfl) (fun _ => ?_) (fun _ => ?_))
  refine wc_loop (fun k => [(0, .int .u8 (c.toNat : Int)), (4, .int .i64 ((k : Nat) : Int))]) (fun k w' => w' = w ∧ k ≤ 12 ∧ ∀ j, j < k → Sp.signs.getD j 0 ≠ c) (fun k => 12 - k) 0 ⟨rfl, rfl, trivial⟩ ⟨rfl, by omega, by omega⟩ ?_
  rintro k w ⟨rfl, hk, hn⟩
  repeat' (first
    | refine op_move (by rfl) (by rfl) (by rfl) ?_
    | refine op_assign (by rfl) (by rfl) (by rfl) ?_
    | refine op_lss (by rfl) (by rfl) (by rfl) (by rfl) ?_
    | refine op_eql (by rfl) (by rfl) (by rfl) (by rfl) ?_
    | refine op_eql_str (by rfl) (by rfl) (by rfl) (by rfl) ?_
    | refine op_eql_bool (by rfl) (by rfl) (by rfl) (by rfl) ?_
    | refine op_eql_flat (by rfl) (by rfl) (by rfl) (by rfl) (by rfl) (by rfl) ?_
    | refine op_add (by rfl) (by rfl) (by rfl) (by rfl) (by omega) ?_
    | refine op_index_str (by rfl) (by rfl) (by rfl) (by rfl) (by omega) (by omega) ?_
    | refine wl_nil ?_
    | refine at_then_normal ?_
    | refine at_then_ret ?_
    | refine at_then_exit ?_
    | refine at_block_normal ?_
    | refine at_block_ret ?_
    | refine at_block_exit ?_
    | refine at_block_other (by rfl) ?_
    | refine wc_seq ?_
    | refine wc_region ?_
    | refine wc_block ?_
    | refine wc_skip ?_
    | refine wc_exit ?_
    | refine wc_ret ?_
    | refine at_ret1 (by rfl) (by rfl) ?_
    | refine wc_cond_true (by rfl) ?_
    | refine wc_cond_false (by rfl) ?_
    | (refine wc_cond_dec (by rfl) (fun _ => ?_) (fun _ => ?_) <;> (try first | contradiction | (exfalso; omega)))
    | refine wc_cond (by rfl) (fun _ => ?_) (fun _ => ?_))
  · refine ⟨congrArg Value.bool (Eq.symm ?_), rfl⟩
    rename_i h1 h2
    have h3 : Sp.signs.getD k 0 = c := toNat_inj h2
    have h4 : k < Sp.signs.length := by simp [Sp.signs]; omega
    unfold Sp.isSign
    rw [List.any_eq_true]
    refine ⟨c, ?_, by simp⟩
    rw [← h3, List.getD_eq_getElem?_getD, List.getElem?_eq_getElem h4]
    exact List.getElem_mem h4
  · rename_i h1 h2
    refine at_round (k + 1) ⟨rfl, rfl, trivial⟩ ⟨rfl, by omega, fun j hj => ?_⟩ (by omega)
    by_cases hjk : j = k
    · subst hjk; exact fun e => h2 (by rw [← e]; rfl)
    · exact hn j (by omega)
  · refine ⟨congrArg Value.bool (Eq.symm ?_), rfl⟩
    rename_i h1
    obtain rfl : k = 12 := by omega
    unfold Sp.isSign
    rw [List.any_eq_false]
    intro x hx
    obtain ⟨j, hj, rfl⟩ := List.mem_iff_getElem.1 hx
    have := hn j (by simpa [Sp.signs] using hj)
    rw [List.getD_eq_getElem?_getD, List.getElem?_eq_getElem hj] at this
    simpa using this
theorem c_noLine (c : UInt8) (w : World) :
    Cal Try.prog 27 #[.int .u8 (c.toNat : Int)] w fun v w' => v = .bool (Sp.noLine c) ∧ w' = w := by
  refine enter (N := 5) Try.func27 rfl [(0, .int .u8 (c.toNat : Int))] args1 rfl ?_
  repeat' (first
    | refine op_move (by rfl) (by rfl) (by rfl) ?_
    | refine op_assign (by rfl) (by rfl) (by rfl) ?_
    | refine op_neq (by rfl) (by rfl) (by rfl) (by rfl) ?_
    | refine op_neq_str (by rfl) (by rfl) (by rfl) (by rfl) ?_
    | refine op_neq_bool (by rfl) (by rfl) (by rfl) (by rfl) ?_
    | refine op_neq_flat (by rfl) (by rfl) (by rfl) (by rfl) (by rfl) (by rfl) ?_
    | refine wl_nil ?_
    | refine at_then_normal ?_
    | refine at_then_ret ?_
    | refine wc_seq ?_
    | refine wc_region ?_
    | refine wc_skip ?_
    | refine wc_ret ?_
    | refine at_ret1 (by rfl) (by rfl) ?_)
  all_goals (refine ⟨congrArg Value.bool ?_, rfl⟩; unfold Sp.noLine; rw [Bool.eq_iff_iff]; simp; omega)
theorem c_isWord (c : UInt8) (w : World) :
    Cal Try.prog 28 #[.int .u8 (c.toNat : Int)] w fun v w' => v = .bool (Sp.isWord c) ∧ w' = w := by
  refine enter (N := 9) Try.func28 rfl [(0, .int .u8 (c.toNat : Int))] args1 rfl ?_
  repeat' (first
    | (refine op_call (by rfl) (by rfl) (by rfl) (by exact c_letter c _) ?_; rintro _ _ ⟨rfl, rfl⟩)
    | (refine op_call (by rfl) (by rfl) (by rfl) (by exact c_digit c _) ?_; rintro _ _ ⟨rfl, rfl⟩)
    | refine op_move (by rfl) (by rfl) (by rfl) ?_
    | refine op_assign (by rfl) (by rfl) (by rfl) ?_
    | refine op_pick_true (by rfl) (by rfl) (by rfl) (by rfl) ?_
    | refine op_pick_false (by rfl) (by rfl) (by rfl) (by rfl) ?_
    | refine wl_skip (by rfl) (by rfl) (by rfl) ?_
    | (refine wl_split_dec (by rfl) (by rfl) (by rfl) (fun _ => ?_) (fun _ => ?_) <;> (try first | contradiction | (exfalso; omega)))
    | refine wl_split (by rfl) (by rfl) (by rfl) (fun _ => ?_) (fun _ => ?_)
    | refine wl_nil ?_
    | refine at_then_normal ?_
    | refine at_then_ret ?_
    | refine wc_seq ?_
    | refine wc_region ?_
    | refine wc_skip ?_
    | refine wc_ret ?_
    | refine at_ret1 (by rfl) (by rfl) ?_)
  all_goals (refine ⟨congrArg Value.bool ?_, rfl⟩; unfold Sp.isWord; simp [*])

/-- 'same': how many bytes from the second one on 'F' holds of. -/
theorem c_same (fi : FuncId) [Own Try.prog fi] (F : UInt8 → Bool) (hF : ∀ c w, Cal Try.prog fi #[.int .u8 (c.toNat : Int)] w fun v w' => v = .bool (F c) ∧ w' = w)
    (s : List UInt8) (hs : s ≠ []) (hl : s.length ≤ 9223372036854775807) (b : Nat) (w : World) (hb : w.heap[b]? = some (.cells (str s).cells 9 (0, 0))) :
    Cal Try.prog 26 #[.func (.func fi) #[] #[], .pointer (some ⟨b, 0, none⟩)] w fun v w' => v = .int .i64 (Sp.run F s.tail : Int) ∧ w' = w := by
  have hs' : 0 < s.length := List.length_pos_iff.2 hs
  refine enter (N := 19) Try.func26 rfl [(0, .func (.func fi) #[] #[]), (1, .pointer (some ⟨b, 0, none⟩))] args2 rfl ?_
  repeat' (first
    | refine op_move (by rfl) (by rfl) (by rfl) ?_
    | refine op_assign (by rfl) (by rfl) (by rfl) ?_
    | refine op_pick_true (by rfl) (by rfl) (by rfl) (by rfl) ?_
    | refine op_pick_false (by rfl) (by rfl) (by rfl) (by rfl) ?_
    | refine op_lss (by rfl) (by rfl) (by rfl) (by rfl) ?_
    | refine op_len_str (by rfl) (by rfl) (by rfl) ?_
    | refine op_len_slice (by rfl) (by rfl) (by rfl) ?_
    | refine op_add (by rfl) (by rfl) (by rfl) (by rfl) (by omega) ?_
    | refine op_index_str (by rfl) (by rfl) (by rfl) (by rfl) (by omega) (by omega) ?_
    | refine op_load1 (by rfl) (by rfl) (by rfl) (by assumption) (by rfl) ?_
    | refine wl_skip (by rfl) (by rfl) (by rfl) ?_
    | (refine wl_split_dec (by rfl) (by rfl) (by rfl) (fun _ => ?_) (fun _ => ?_) <;> (try first | contradiction | (exfalso; omega)))
    | refine wl_split (by rfl) (by rfl) (by rfl) (fun _ => ?_) (fun _ => ?_)
    | refine wl_nil ?_
    | refine at_then_normal ?_
    | refine at_then_ret ?_
    | refine at_then_exit ?_
    | refine at_block_normal ?_
    | refine at_block_ret ?_
    | refine at_block_exit ?_
    | refine at_block_other (by rfl) ?_
    | refine wc_seq ?_
    | refine wc_region ?_
    | refine wc_block ?_
    | refine wc_skip ?_
    | refine wc_exit ?_
    | refine wc_ret ?_
    | refine at_ret1 (by rfl) (by rfl) ?_
    | refine wc_cond_true (by rfl) ?_
    | refine wc_cond_false (by rfl) ?_
    | (refine wc_cond_dec (by rfl) (fun _ => ?_) (fun _ => ?_) <;> (try first | contradiction | (exfalso; omega)))
    | refine wc_cond (by rfl) (fun _ => ?_) (fun _ => ?_))
  refine wc_loop (fun k => [(0, .func (.func fi) #[] #[]), (1, .pointer (some ⟨b, 0, none⟩)), (4, .int .i64 ((k : Nat) : Int))])
    (fun k w' => w' = w ∧ 1 ≤ k ∧ k ≤ s.length ∧ ∀ j, 1 ≤ j → j < k → F (s.getD j 0) = true) (fun k => s.length - k) 1 ⟨rfl, rfl, rfl, trivial⟩ ⟨rfl, by omega, by omega, by omega⟩ ?_
  rintro k w ⟨rfl, hk0, hk, hn⟩
  repeat' (first
    | (refine op_callv (by rfl) (by rfl) (by rfl) (by rfl) (by exact hF _ _) ?_; rintro _ _ ⟨rfl, rfl⟩)
    | refine op_move (by rfl) (by rfl) (by rfl) ?_
    | refine op_assign (by rfl) (by rfl) (by rfl) ?_
    | refine op_pick_true (by rfl) (by rfl) (by rfl) (by rfl) ?_
    | refine op_pick_false (by rfl) (by rfl) (by rfl) (by rfl) ?_
    | refine op_lss (by rfl) (by rfl) (by rfl) (by rfl) ?_
    | refine op_len_str (by rfl) (by rfl) (by rfl) ?_
    | refine op_len_slice (by rfl) (by rfl) (by rfl) ?_
    | refine op_add (by rfl) (by rfl) (by rfl) (by rfl) (by omega) ?_
    | refine op_index_str (by rfl) (by rfl) (by rfl) (by rfl) (by omega) (by omega) ?_
    | refine op_load1 (by rfl) (by rfl) (by rfl) (by assumption) (by rfl) ?_
    | refine wl_skip (by rfl) (by rfl) (by rfl) ?_
    | (refine wl_split_dec (by rfl) (by rfl) (by rfl) (fun _ => ?_) (fun _ => ?_) <;> (try first | contradiction | (exfalso; omega)))
    | refine wl_split (by rfl) (by rfl) (by rfl) (fun _ => ?_) (fun _ => ?_)
    | refine wl_nil ?_
    | refine at_then_normal ?_
    | refine at_then_ret ?_
    | refine at_then_exit ?_
    | refine at_block_normal ?_
    | refine at_block_ret ?_
    | refine at_block_exit ?_
    | refine at_block_other (by rfl) ?_
    | refine wc_seq ?_
    | refine wc_region ?_
    | refine wc_block ?_
    | refine wc_skip ?_
    | refine wc_exit ?_
    | refine wc_ret ?_
    | refine at_ret1 (by rfl) (by rfl) ?_
    | refine wc_cond_true (by rfl) ?_
    | refine wc_cond_false (by rfl) ?_
    | (refine wc_cond_dec (by rfl) (fun _ => ?_) (fun _ => ?_) <;> (try first | contradiction | (exfalso; omega)))
    | refine wc_cond (by rfl) (fun _ => ?_) (fun _ => ?_))
  · rename_i h1 h2
    refine at_round (k + 1) ⟨rfl, rfl, rfl, trivial⟩ ⟨rfl, by omega, by omega, fun j h3 h4 => ?_⟩ (by omega)
    by_cases hjk : j = k
    · subst hjk; exact h2
    · exact hn j h3 (by omega)
  · rename_i h1 h2
    refine ⟨?_, rfl⟩
    rw [Sp.run_eq F s k hk0 hn hk (.inr h2)]
  · rename_i h1
    refine ⟨?_, rfl⟩
    rw [Sp.run_eq F s k hk0 hn hk (.inl (by omega))]

theorem c_one (s : List UInt8) (hs : s ≠ []) (hl : s.length ≤ 9223372036854775807) (w : World) :
    Cal Try.prog 24 #[str s] w fun v w' => v = .tuple #[.int .i64 ((Sp.one s).1 : Int), .int .i64 ((Sp.one s).2 : Int)] ∧ Kept [] w w' := by
  have hs' : 0 < s.length := List.length_pos_iff.2 hs
  refine enter (N := 32) Try.func24 rfl [(0, str s)] args1 rfl ?_
  repeat' (first
    | (refine op_box (by rfl) (by rfl) (by rfl) ?_; intro b w1 hbe hb hk)
    | (refine op_call (by rfl) (by rfl) (by rfl) (by exact c_blank _ _) ?_; rintro _ _ ⟨rfl, rfl⟩)
    | (refine op_call (by rfl) (by rfl) (by rfl) (by exact c_letter _ _) ?_; rintro _ _ ⟨rfl, rfl⟩)
    | (refine op_call (by rfl) (by rfl) (by rfl) (by exact c_digit _ _) ?_; rintro _ _ ⟨rfl, rfl⟩)
    | (refine op_call (by rfl) (by rfl) (by rfl) (by exact c_sign _ _) ?_; rintro _ _ ⟨rfl, rfl⟩)
    | (refine op_callv (by rfl) (by rfl) (by rfl) (by rfl) (by exact c_same _ Sp.isBlank c_blank s hs hl _ _ (by assumption)) ?_; rintro _ _ ⟨rfl, rfl⟩)
    | (refine op_callv (by rfl) (by rfl) (by rfl) (by rfl) (by exact c_same _ Sp.noLine c_noLine s hs hl _ _ (by assumption)) ?_; rintro _ _ ⟨rfl, rfl⟩)
    | (refine op_callv (by rfl) (by rfl) (by rfl) (by rfl) (by exact c_same _ Sp.isWord c_isWord s hs hl _ _ (by assumption)) ?_; rintro _ _ ⟨rfl, rfl⟩)
    | (refine op_callv (by rfl) (by rfl) (by rfl) (by rfl) (by exact c_same _ Sp.isDigit c_digit s hs hl _ _ (by assumption)) ?_; rintro _ _ ⟨rfl, rfl⟩)
    | refine op_move (by rfl) (by rfl) (by rfl) ?_
    | refine op_assign (by rfl) (by rfl) (by rfl) ?_
    | refine op_eql (by rfl) (by rfl) (by rfl) (by rfl) ?_
    | refine op_eql_str (by rfl) (by rfl) (by rfl) (by rfl) ?_
    | refine op_eql_bool (by rfl) (by rfl) (by rfl) (by rfl) ?_
    | refine op_eql_flat (by rfl) (by rfl) (by rfl) (by rfl) (by rfl) (by rfl) ?_
    | refine op_makeFunc (by rfl) (by rfl) (by rfl) ?_
    | refine op_index_str (by rfl) (by rfl) (by rfl) (by rfl) (by omega) (by omega) ?_
    | refine op_load1 (by rfl) (by rfl) (by rfl) (by assumption) (by rfl) ?_
    | refine wl_nil ?_
    | refine at_then_normal ?_
    | refine at_then_ret ?_
    | refine at_then_exit ?_
    | refine at_block_normal ?_
    | refine at_block_ret ?_
    | refine at_block_exit ?_
    | refine at_block_other (by rfl) ?_
    | refine wc_seq ?_
    | refine wc_region ?_
    | refine wc_block ?_
    | refine wc_skip ?_
    | refine wc_exit ?_
    | refine wc_ret ?_
    | refine at_ret2 (by rfl) (by rfl) (by rfl) ?_
    | refine wc_cond_true (by rfl) ?_
    | refine wc_cond_false (by rfl) ?_
    | (refine wc_cond_dec (by rfl) (fun _ => ?_) (fun _ => ?_) <;> (try first | contradiction | (exfalso; omega)))
    | refine wc_cond (by rfl) (fun _ => ?_) (fun _ => ?_))
  all_goals
    refine ⟨?_, hk⟩
    cases s with
    | nil => exact absurd rfl hs
    | cons c r =>
      simp only [List.getD_cons_zero, Int.toNat_zero, List.tail_cons] at *
      have e : ∀ m : Nat, ((m : Int) = 35 ↔ m = 35) := fun m => by omega
      simp_all [Sp.one]

/-- a token's cells. -/
def encTok (t : Sp.Tok) : List Value := [.int .i64 (t.kind : Int), str t.text, .int .i64 (t.pos : Int)]
theorem encTok_len (l : List Sp.Tok) : (l.flatMap encTok).length = l.length * 3 := by
  induction l with
  | nil => rfl
  | cons t l ih => simp only [List.flatMap_cons, List.length_append, ih, List.length_cons, encTok]; simp; omega

/-- what is there, and what is to come. -/
structure TokLoop where
  at_ : Nat
  out : Value
  acc : List Sp.Tok

theorem c_tokens (s : List UInt8) (hl : s.length ≤ 1099511627776) (w : World) :
    Cal Try.prog 9 #[str s] w fun v w' => w'.ownsRow w.heap.size 33 3 v (Sp.tokens s).length ((Sp.tokens s).flatMap encTok) ∧ Kept [] w w' := by
  refine enter (N := 36) Try.func9 rfl [(0, str s)] args1 rfl ?_
  repeat' (first
    | refine op_move (by rfl) (by rfl) (by rfl) ?_
    | refine op_assign (by rfl) (by rfl) (by rfl) ?_
    | refine op_lss (by rfl) (by rfl) (by rfl) (by rfl) ?_
    | refine op_gtr (by rfl) (by rfl) (by rfl) (by rfl) ?_
    | refine op_len_str (by rfl) (by rfl) (by rfl) ?_
    | refine op_len_slice (by rfl) (by rfl) (by rfl) ?_
    | refine op_extract (by rfl) (by rfl) (by rfl) (by rfl) ?_
    | refine op_add (by rfl) (by rfl) (by rfl) (by rfl) (by omega) ?_
    | refine op_slice_str (by rfl) (by rfl) (by rfl) (by rfl) (by rfl) (by omega) ?_
    | refine op_slice_from (by rfl) (by rfl) (by rfl) (by rfl) (by omega) ?_
    | refine op_slice_to (by rfl) (by rfl) (by rfl) (by rfl) (by omega) ?_
    | refine op_struct (by rfl) (by rfl) (by rfl) (by rfl) ?_
    | refine op_build (by rfl) (by rfl) (by rfl) (fun _ => (by rfl)) ?_
    | refine wl_nil ?_
    | refine at_then_normal ?_
    | refine at_then_ret ?_
    | refine at_then_exit ?_
    | refine at_block_normal ?_
    | refine at_block_ret ?_
    | refine at_block_exit ?_
    | refine at_block_other (by rfl) ?_
    | refine wc_seq ?_
    | refine wc_region ?_
    | refine wc_block ?_
    | refine wc_skip ?_
    | refine wc_exit ?_
    | refine wc_ret ?_
    | refine at_ret1 (by rfl) (by rfl) ?_
    | refine wc_cond_true (by rfl) ?_
    | refine wc_cond_false (by rfl) ?_
    | (refine wc_cond_dec (by rfl) (fun _ => ?_) (fun _ => ?_) <;> (try first | contradiction | (exfalso; omega)))
    | refine wc_cond (by rfl) (fun _ => ?_) (fun _ => ?_))
  refine wc_loop (fun x : TokLoop => [(0, str s), (3, x.out), (4, .int .i64 (x.at_ : Int))])
    (fun x w' => x.at_ ≤ s.length ∧ x.acc.length ≤ x.at_ ∧ x.acc ++ Sp.toksAt s x.at_ = Sp.tokens s ∧ w'.ownsRow w.heap.size 33 3 x.out x.acc.length (x.acc.flatMap encTok) ∧ Kept [] w w')
    (fun x => s.length - x.at_) ⟨0, .slice none 0 0, []⟩ ⟨rfl, rfl, rfl, trivial⟩ ⟨by simp, by simp, by simp [Sp.tokens_eq], World.ownsRow_nil _ _ _ _, Kept.refl _ _⟩ ?_
  rintro ⟨k, out, acc⟩ w1 ⟨hk, hacc, heq, hown, hkept⟩
  dsimp only at hk hacc heq hown hkept ⊢
  have hone := fun h : s.drop k ≠ [] => Sp.one_le _ h
  have hstep := fun h : k < s.length => Sp.toksAt_step s k h
  repeat' (first
    | (refine op_call (by rfl) (by rfl) (by rfl) (by exact c_one (s.drop k) (by simp; omega) (by simp; omega) _) ?_; rintro _ w2 ⟨rfl, hk2⟩; have h1 := hone (by simp; omega); simp only [List.length_drop] at h1)
    | (refine op_append1 (by rfl) (by rfl) (by rfl) (by rfl) (by rfl) (by exact hk2.own hown (by simp)) (by rfl) (by rfl) (by omega) (by omega) (by omega) (by have := hkept.size; have := hk2.size; omega) ?_; intro v3 w3 hown3 hk3 hb3)
    | refine op_move (by rfl) (by rfl) (by rfl) ?_
    | refine op_assign (by rfl) (by rfl) (by rfl) ?_
    | refine op_lss (by rfl) (by rfl) (by rfl) (by rfl) ?_
    | refine op_gtr (by rfl) (by rfl) (by rfl) (by rfl) ?_
    | refine op_len_str (by rfl) (by rfl) (by rfl) ?_
    | refine op_len_slice (by rfl) (by rfl) (by rfl) ?_
    | refine op_extract (by rfl) (by rfl) (by rfl) (by rfl) ?_
    | refine op_add (by rfl) (by rfl) (by rfl) (by rfl) (by omega) ?_
    | refine op_slice_str (by rfl) (by rfl) (by rfl) (by rfl) (by rfl) (by omega) ?_
    | refine op_slice_from (by rfl) (by rfl) (by rfl) (by rfl) (by omega) ?_
    | refine op_slice_to (by rfl) (by rfl) (by rfl) (by rfl) (by omega) ?_
    | refine op_struct (by rfl) (by rfl) (by rfl) (by rfl) ?_
    | refine op_build (by rfl) (by rfl) (by rfl) (fun _ => (by rfl)) ?_
    | refine wl_nil ?_
    | refine at_then_normal ?_
    | refine at_then_ret ?_
    | refine at_then_exit ?_
    | refine at_block_normal ?_
    | refine at_block_ret ?_
    | refine at_block_exit ?_
    | refine at_block_other (by rfl) ?_
    | refine wc_seq ?_
    | refine wc_region ?_
    | refine wc_block ?_
    | refine wc_skip ?_
    | refine wc_exit ?_
    | refine wc_ret ?_
    | refine at_ret1 (by rfl) (by rfl) ?_
    | refine wc_cond_true (by rfl) ?_
    | refine wc_cond_false (by rfl) ?_
    | (refine wc_cond_dec (by rfl) (fun _ => ?_) (fun _ => ?_) <;> (try first | contradiction | (exfalso; omega)))
    | refine wc_cond (by rfl) (fun _ => ?_) (fun _ => ?_))
  · rename_i h0 h2
    have hst := hstep (by omega)
    rw [if_pos (by omega)] at hst
    refine at_round (⟨k + (Sp.one (s.drop k)).2, v3, acc ++ [⟨(Sp.one (s.drop k)).1, (s.drop k).take (Sp.one (s.drop k)).2, k⟩]⟩ : TokLoop) (by exact ⟨rfl, rfl, rfl, trivial⟩) ?_ ?_
    · refine ⟨by dsimp only; omega, by simp; omega, by rw [← heq, hst]; simp, ?_, ?_⟩
      · have e : ((k : Int) + ((Sp.one (s.drop k)).2 : Int)).toNat - (k : Int).toNat = (Sp.one (s.drop k)).2 := by omega
        rw [e] at hown3
        simpa [encTok, List.flatMap_append, Value.cells] using hown3
      · exact (hkept.step0 hk2).step hk3 (fun x hx => .inr (by
          cases ho : out.ownBlock with
          | none => simp [ho] at hx
          | some g => simp [ho] at hx; subst hx; exact (hown.lt _ ho).1))
    · dsimp only; omega
  · rename_i h0 h2
    have hst := hstep (by omega)
    rw [if_neg (by omega), List.nil_append] at hst
    refine at_round (⟨k + (Sp.one (s.drop k)).2, out, acc⟩ : TokLoop) (by exact ⟨rfl, rfl, rfl, trivial⟩) ?_ ?_
    · exact ⟨by dsimp only; omega, by dsimp only; omega, by rw [← heq, hst], hk2.own hown (by simp), hkept.step0 hk2⟩
    · dsimp only; omega
  · rename_i h0
    rw [Sp.toksAt_end s k (by omega), List.append_nil] at heq
    rw [← heq]
    exact ⟨hown, hkept⟩
end Go.Proofs.Ythleggomainocaa
