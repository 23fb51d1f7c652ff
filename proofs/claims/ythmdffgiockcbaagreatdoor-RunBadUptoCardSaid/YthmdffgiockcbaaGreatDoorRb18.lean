/- Own work: texts PLex, PpB, one behind the other. -/
import Derived.Test.YthmdffgiockcbaaGreatDoorRb17
section
namespace Go.Proofs.YthmdffgiockcbaaGreatDoor
open Go.Fw
theorem c_letter (c : UInt8) (w : World) :
    Cal Tryz.prog 117 #[.int .u8 (c.toNat : Int)] w fun v w' => v = .bool (Sp.isLetter c) ∧ w' = w := by
  refine enter (N := 21) Tryz.func117 rfl [(0, .int .u8 (c.toNat : Int))] args1 rfl ?_
  repeat' (first|refine op_move (k:=?_)|refine op_assign (k:=?_)|refine op_pick_true (k:=?_)|refine op_pick_false (k:=?_)|refine op_leq (k:=?_)|refine op_geq (k:=?_)|refine op_eql (k:=?_)|refine wl_skip (k:=?_)|(refine wl_split_dec (h1:=fun _ => ?_) (h0:=fun _ => ?_)<;> (try first | contradiction | (exfalso; omega)))|refine wl_nil ?_|refine at_then_normal ?_|refine wc_seq ?_|refine wc_region ?_|refine wc_ret ?_|refine at_ret1 (h:=?_))
  all_goals (refine ⟨congrArg Value.bool ?_, rfl⟩; unfold Sp.isLetter; rw [Bool.eq_iff_iff]; simp; omega)
theorem c_digit (c : UInt8) (w : World) :
    Cal Tryz.prog 118 #[.int .u8 (c.toNat : Int)] w fun v w' => v = .bool (Sp.isDigit c) ∧ w' = w := by
  refine enter (N := 9) Tryz.func118 rfl [(0, .int .u8 (c.toNat : Int))] args1 rfl ?_
  repeat' (first|refine op_move (k:=?_)|refine op_assign (k:=?_)|refine op_pick_true (k:=?_)|refine op_pick_false (k:=?_)|refine op_leq (k:=?_)|refine op_geq (k:=?_)|refine wl_skip (k:=?_)|(refine wl_split_dec (h1:=fun _ => ?_) (h0:=fun _ => ?_)<;> (try first | contradiction | (exfalso; omega)))|refine wl_nil ?_|refine at_then_normal ?_|refine wc_seq ?_|refine wc_region ?_|refine wc_ret ?_|refine at_ret1 (h:=?_))
  all_goals (refine ⟨congrArg Value.bool ?_, rfl⟩; unfold Sp.isDigit; rw [Bool.eq_iff_iff]; simp; omega)
theorem c_blank (c : UInt8) (w : World) :
    Cal Tryz.prog 160 #[.int .u8 (c.toNat : Int)] w fun v w' => v = .bool (Sp.isBlank c) ∧ w' = w := by
  refine enter (N := 13) Tryz.func160 rfl [(0, .int .u8 (c.toNat : Int))] args1 rfl ?_
  repeat' (first|refine op_move (k:=?_)|refine op_assign (k:=?_)|refine op_pick_true (k:=?_)|refine op_pick_false (k:=?_)|refine op_eql (k:=?_)|refine wl_skip (k:=?_)|(refine wl_split_dec (h1:=fun _ => ?_) (h0:=fun _ => ?_)<;> (try first | contradiction | (exfalso; omega)))|refine wl_nil ?_|refine at_then_normal ?_|refine wc_seq ?_|refine wc_region ?_|refine wc_ret ?_|refine at_ret1 (h:=?_))
  all_goals (refine ⟨congrArg Value.bool ?_, rfl⟩; unfold Sp.isBlank; rw [Bool.eq_iff_iff]; simp; omega)
theorem c_sign (c : UInt8) (w : World) :
    Cal Tryz.prog 163 #[.int .u8 (c.toNat : Int)] w fun v w' => v = .bool (Sp.isSign c) ∧ w' = w := by
  refine enter (N := 12) Tryz.func163 rfl [(0, .int .u8 (c.toNat : Int))] args1 rfl ?_
  repeat' (first|refine op_move (k:=?_)|refine op_assign (k:=?_)|refine wl_nil ?_|refine at_then_normal ?_|refine wc_seq ?_|refine wc_region ?_|refine wc_block ?_)
  refine wc_loop (fun k => [(0, .int .u8 (c.toNat : Int)), (4, .int .i64 ((k : Nat) : Int))]) (fun k w' => w' = w ∧ k ≤ 12 ∧ ∀ j, j < k → Sp.signs.getD j 0 ≠ c) (fun k => 12 - k) 0 ⟨rfl, rfl, trivial⟩ ⟨rfl, by omega, by omega⟩ ?_
  rintro k w ⟨rfl, hk, hn⟩
  repeat' (first|refine op_move (k:=?_)|refine op_assign (k:=?_)|refine op_lss (k:=?_)|refine op_eql (k:=?_)|refine op_add (k:=?_)|refine op_index_str (k:=?_)|refine wl_nil ?_|refine at_then_normal ?_|refine at_then_ret ?_|refine at_then_exit ?_|refine at_block_normal ?_|refine at_block_ret ?_|refine at_block_exit ?_|refine wc_seq ?_|refine wc_region ?_|refine wc_block ?_|refine wc_skip ?_|refine wc_exit ?_|refine wc_ret ?_|refine at_ret1 (h:=?_)|(refine wc_cond_dec (ht:=fun _ => ?_) (hf:=fun _ => ?_)<;> (try first | contradiction | (exfalso; omega))))
  · refine ⟨congrArg Value.bool (Eq.symm ?_), rfl⟩
    rename_i h1 h2
    have h3 : Sp.signs.getD k 0 = c := toNat_inj h2
    have h4 : k < Sp.signs.length := by simp [Sp.signs]; omega
    unfold Sp.isSign
    rw [List.any_eq_true]
    refine ⟨c, ?_, by simp⟩
    rw [← h3, List.getD_eq_getElem?_getD, List.getElem?_eq_getElem h4]
    exact List.getElem_mem h4
  · rename_i h1 h2
    refine at_round (k + 1) ⟨rfl, rfl, trivial⟩ ⟨rfl, by omega, fun j hj => ?_⟩ (by omega)
    by_cases hjk : j = k
    · subst hjk; exact fun e => h2 (by rw [← e]; rfl)
    · exact hn j (by omega)
  · refine ⟨congrArg Value.bool (Eq.symm ?_), rfl⟩
    rename_i h1
    obtain rfl : k = 12 := by omega
    unfold Sp.isSign
    rw [List.any_eq_false]
    intro x hx
    obtain ⟨j, hj, rfl⟩ := List.mem_iff_getElem.1 hx
    have := hn j (by simpa [Sp.signs] using hj)
    rw [List.getD_eq_getElem?_getD, List.getElem?_eq_getElem hj] at this
    simpa using this
theorem c_noLine (c : UInt8) (w : World) :
    Cal Tryz.prog 161 #[.int .u8 (c.toNat : Int)] w fun v w' => v = .bool (Sp.noLine c) ∧ w' = w := by
  refine enter (N := 5) Tryz.func161 rfl [(0, .int .u8 (c.toNat : Int))] args1 rfl ?_
  repeat' (first|refine op_move (k:=?_)|refine op_assign (k:=?_)|refine op_neq (k:=?_)|refine wl_nil ?_|refine at_then_normal ?_|refine wc_seq ?_|refine wc_region ?_|refine wc_ret ?_|refine at_ret1 (h:=?_))
  all_goals (refine ⟨congrArg Value.bool ?_, rfl⟩; unfold Sp.noLine; rw [Bool.eq_iff_iff]; simp; omega)
theorem c_isWord (c : UInt8) (w : World) :
    Cal Tryz.prog 162 #[.int .u8 (c.toNat : Int)] w fun v w' => v = .bool (Sp.isWord c) ∧ w' = w := by
  refine enter (N := 9) Tryz.func162 rfl [(0, .int .u8 (c.toNat : Int))] args1 rfl ?_
  repeat' (first|(refine op_call (hc:=by exact c_letter c _) (k:=?_); rintro _ _ ⟨rfl, rfl⟩)|(refine op_call (hc:=by exact c_digit c _) (k:=?_); rintro _ _ ⟨rfl, rfl⟩)|refine op_move (k:=?_)|refine op_assign (k:=?_)|refine op_pick_true (k:=?_)|refine op_pick_false (k:=?_)|refine wl_skip (k:=?_)|(refine wl_split (h1:=fun _ => ?_) (h0:=fun _ => ?_)<;> (fail_if_success contradiction))|refine wl_nil ?_|refine at_then_normal ?_|refine wc_seq ?_|refine wc_region ?_|refine wc_ret ?_|refine at_ret1 (h:=?_))
  all_goals (refine ⟨congrArg Value.bool ?_, rfl⟩; unfold Sp.isWord; simp [*])

theorem c_same (fi : FuncId) [Own Tryz.prog fi] (F : UInt8 → Bool) (hF : ∀ c w, Cal Tryz.prog fi #[.int .u8 (c.toNat : Int)] w fun v w' => v = .bool (F c) ∧ w' = w)
    (s : List UInt8) (hs : s ≠ []) (hl : s.length ≤ 9223372036854775807) (b : Nat) (w : World) (hb : w.heap[b]? = some (.cells (str s).cells 9 (0, 0))) :
    Cal Tryz.prog 159 #[.func (.func fi) #[] #[], .pointer (some ⟨b, 0, none⟩)] w fun v w' => v = .int .i64 (Sp.run F s.tail : Int) ∧ w' = w := by
  have hs' : 0 < s.length := List.length_pos_iff.2 hs
  refine enter (N := 19) Tryz.func159 rfl [(0, .func (.func fi) #[] #[]), (1, .pointer (some ⟨b, 0, none⟩))] args2 rfl ?_
  repeat' (first|refine op_assign (k:=?_)|refine wl_nil ?_|refine at_then_normal ?_|refine wc_seq ?_|refine wc_region ?_|refine wc_block ?_)
  refine wc_loop (fun k => [(0, .func (.func fi) #[] #[]), (1, .pointer (some ⟨b, 0, none⟩)), (4, .int .i64 ((k : Nat) : Int))])
    (fun k w' => w' = w ∧ 1 ≤ k ∧ k ≤ s.length ∧ ∀ j, 1 ≤ j → j < k → F (s.getD j 0) = true) (fun k => s.length - k) 1 ⟨rfl, rfl, rfl, trivial⟩ ⟨rfl, by omega, by omega, by omega⟩ ?_
  rintro k w ⟨rfl, hk0, hk, hn⟩
  repeat' (first|(refine op_callv (hc:=by exact hF _ _) (k:=?_); rintro _ _ ⟨rfl, rfl⟩)|refine op_move (k:=?_)|refine op_assign (k:=?_)|refine op_pick_true (k:=?_)|refine op_pick_false (k:=?_)|refine op_lss (k:=?_)|refine op_len_str (k:=?_)|refine op_add (k:=?_)|refine op_index_str (k:=?_)|refine op_load1 (k:=?_)|refine wl_skip (k:=?_)|(refine wl_split_dec (h1:=fun _ => ?_) (h0:=fun _ => ?_)<;> (try first | contradiction | (exfalso; omega)))|refine wl_nil ?_|refine at_then_normal ?_|refine at_then_exit ?_|refine at_block_normal ?_|refine at_block_exit ?_|refine wc_seq ?_|refine wc_region ?_|refine wc_block ?_|refine wc_skip ?_|refine wc_exit ?_|refine wc_ret ?_|refine at_ret1 (h:=?_)|refine wc_cond_false (hf:=?_)|refine wc_cond (ht:=fun _ => ?_) (hf:=fun _ => ?_))
  · rename_i h1 h2
    refine at_round (k + 1) ⟨rfl, rfl, rfl, trivial⟩ ⟨rfl, by omega, by omega, fun j h3 h4 => ?_⟩ (by omega)
    by_cases hjk : j = k
    · subst hjk; exact h2
    · exact hn j h3 (by omega)
  · rename_i h1 h2
    refine ⟨?_, rfl⟩
    rw [Sp.run_eq F s k hk0 hn hk (.inr h2)]
  · rename_i h1
    refine ⟨?_, rfl⟩
    rw [Sp.run_eq F s k hk0 hn hk (.inl (by omega))]

set_option maxHeartbeats 1000000 in
theorem c_one (s : List UInt8) (hs : s ≠ []) (hl : s.length ≤ 9223372036854775807) (w : World) :
    Cal Tryz.prog 127 #[str s] w fun v w' => v = .tuple #[.int .i64 ((Sp.one s).1 : Int), .int .i64 ((Sp.one s).2 : Int)] ∧ Kept [] w w' := by
  have hs' : 0 < s.length := List.length_pos_iff.2 hs
  refine enter (N := 32) Tryz.func127 rfl [(0, str s)] args1 rfl ?_
  repeat' (first|(refine op_box (k:=?_); intro b w1 hbe hb hk)|(refine op_call (hc:=by exact c_blank _ _) (k:=?_); rintro _ _ ⟨rfl, rfl⟩)|(refine op_call (hc:=by exact c_letter _ _) (k:=?_); rintro _ _ ⟨rfl, rfl⟩)|(refine op_call (hc:=by exact c_digit _ _) (k:=?_); rintro _ _ ⟨rfl, rfl⟩)|(refine op_call (hc:=by exact c_sign _ _) (k:=?_); rintro _ _ ⟨rfl, rfl⟩)|(refine op_callv (hc:=by exact c_same _ Sp.isBlank c_blank s hs hl _ _ (by assumption)) (k:=?_); rintro _ _ ⟨rfl, rfl⟩)|(refine op_callv (hc:=by exact c_same _ Sp.noLine c_noLine s hs hl _ _ (by assumption)) (k:=?_); rintro _ _ ⟨rfl, rfl⟩)|(refine op_callv (hc:=by exact c_same _ Sp.isWord c_isWord s hs hl _ _ (by assumption)) (k:=?_); rintro _ _ ⟨rfl, rfl⟩)|(refine op_callv (hc:=by exact c_same _ Sp.isDigit c_digit s hs hl _ _ (by assumption)) (k:=?_); rintro _ _ ⟨rfl, rfl⟩)|refine op_move (k:=?_)|refine op_assign (k:=?_)|refine op_eql (k:=?_)|refine op_makeFunc (k:=?_)|refine op_index_str (k:=?_)|refine op_load1 (k:=?_)|refine wl_nil ?_|refine at_then_normal ?_|refine at_then_ret ?_|refine at_block_normal ?_|refine at_block_ret ?_|refine wc_seq ?_|refine wc_region ?_|refine wc_block ?_|refine wc_skip ?_|refine wc_ret ?_|refine at_ret2 (h:=?_)|(refine wc_cond_dec (ht:=fun _ => ?_) (hf:=fun _ => ?_)<;> (try first | contradiction | (exfalso; omega)))|refine wc_cond (ht:=fun _ => ?_) (hf:=fun _ => ?_))
  all_goals
    refine ⟨?_, hk⟩
    cases s with
    | nil => exact absurd rfl hs
    | cons c r =>
      simp only [List.getD_cons_zero, Int.toNat_zero, List.tail_cons] at *
      have e : ∀ m : Nat, ((m : Int) = 35 ↔ m = 35) := fun m => by omega
      simp_all [Sp.one]

structure TokLoop where
  at_ : Nat
  out : Value
  acc : List Sp.Tok

set_option maxHeartbeats 1000000 in
theorem c_tokens (s : List UInt8) (hl : s.length ≤ 1099511627776) (w : World) :
    Cal Tryz.prog 97 #[str s] w fun v w' => w'.ownsRow w.heap.size 81 3 v (Sp.tokens s).length ((Sp.tokens s).flatMap encTok) ∧ Kept [] w w' := by
  refine enter (N := 36) Tryz.func97 rfl [(0, str s)] args1 rfl ?_
  repeat' (first|refine op_assign (k:=?_)|refine wl_nil ?_|refine at_then_normal ?_|refine wc_seq ?_|refine wc_region ?_|refine wc_block ?_)
  refine wc_loop (fun x : TokLoop => [(0, str s), (3, x.out), (4, .int .i64 (x.at_ : Int))])
    (fun x w' => x.at_ ≤ s.length ∧ x.acc.length ≤ x.at_ ∧ x.acc ++ Sp.toksAt s x.at_ = Sp.tokens s ∧ w'.ownsRow w.heap.size 81 3 x.out x.acc.length (x.acc.flatMap encTok) ∧ Kept [] w w')
    (fun x => s.length - x.at_) ⟨0, .slice none 0 0, []⟩ ⟨rfl, rfl, rfl, trivial⟩ ⟨by simp, by simp, by simp [Sp.tokens_eq], World.ownsRow_nil _ _ _ _, Kept.refl _ _⟩ ?_
  rintro ⟨k, out, acc⟩ w1 ⟨hk, hacc, heq, hown, hkept⟩
  dsimp only at hk hacc heq hown hkept ⊢
  have hone := fun h : s.drop k ≠ [] => Sp.one_le _ h
  have hstep := fun h : k < s.length => Sp.toksAt_step s k h
  repeat' (first|(refine op_call (hc:=by exact c_one (s.drop k) (by simp; omega) (by simp; omega) _) (k:=?_); rintro _ w2 ⟨rfl, hk2⟩; have h1 := hone (by simp; omega); simp only [List.length_drop] at h1)|(refine op_append1 (hown:=by exact hk2.own hown (by simp)) (hbase:=by have := hkept.size; have := hk2.size; omega) (k:=?_); intro v3 w3 hown3 hk3 hb3)|refine op_move (k:=?_)|refine op_assign (k:=?_)|refine op_lss (k:=?_)|refine op_gtr (k:=?_)|refine op_len_str (k:=?_)|refine op_extract (k:=?_)|refine op_add (k:=?_)|refine op_slice_str (k:=?_)|refine op_slice_from (k:=?_)|refine op_struct (k:=?_)|refine wl_nil ?_|refine at_then_normal ?_|refine at_then_exit ?_|refine at_block_normal ?_|refine at_block_exit ?_|refine wc_seq ?_|refine wc_region ?_|refine wc_block ?_|refine wc_skip ?_|refine wc_exit ?_|refine wc_ret ?_|refine at_ret1 (h:=?_)|(refine wc_cond_dec (ht:=fun _ => ?_) (hf:=fun _ => ?_)<;> (try first | contradiction | (exfalso; omega))))
  · rename_i h0 h2
    have hst := hstep (by omega)
    rw [if_pos (by omega)] at hst
    refine at_round (⟨k + (Sp.one (s.drop k)).2, v3, acc ++ [⟨(Sp.one (s.drop k)).1, (s.drop k).take (Sp.one (s.drop k)).2, k⟩]⟩ : TokLoop) (by exact ⟨rfl, rfl, rfl, trivial⟩) ?_ ?_
    · refine ⟨by dsimp only; omega, by simp; omega, by rw [← heq, hst]; simp, ?_, ?_⟩
      · have e : ((k : Int) + ((Sp.one (s.drop k)).2 : Int)).toNat - (k : Int).toNat = (Sp.one (s.drop k)).2 := by omega
        rw [e] at hown3
        simpa [encTok, List.flatMap_append, Value.cells] using hown3
      · exact (hkept.step0 hk2).step hk3 (fun x hx => .inr (by
          cases ho : out.ownBlock with
          | none => simp [ho] at hx
          | some g => simp [ho] at hx; subst hx; exact (hown.lt _ ho).1))
    · dsimp only; omega
  · rename_i h0 h2
    have hst := hstep (by omega)
    rw [if_neg (by omega), List.nil_append] at hst
    refine at_round (⟨k + (Sp.one (s.drop k)).2, out, acc⟩ : TokLoop) (by exact ⟨rfl, rfl, rfl, trivial⟩) ?_ ?_
    · exact ⟨by dsimp only; omega, by dsimp only; omega, by rw [← heq, hst], hk2.own hown (by simp), hkept.step0 hk2⟩
    · dsimp only; omega
  · rename_i h0
    rw [Sp.toksAt_end s k (by omega), List.append_nil] at heq
    rw [← heq]
    exact ⟨hown, hkept⟩
theorem c_own (w : World) : Cal Tryz.prog 87 #[] w fun v w' => w'.ownsRow w.heap.size 9 1 v 9 (Sp.ownWords.map str) ∧ Kept [] w w' := by
  refine enter (N := 2) Tryz.func87 rfl [] args0 rfl ?_
  repeat' (first|(refine op_buildSlice (by rfl) (by rfl) (by rfl) (by rfl) (by rfl) (by decide) ?_; intro b w1 hbe hb hk)|refine op_assign (k:=?_)|refine wl_nil ?_|refine at_then_normal ?_|refine wc_seq ?_|refine wc_region ?_|refine wc_ret ?_|refine at_ret1 (h:=?_))
  exact ⟨own_of_block hb (by rfl) (by omega) (by decide), hk⟩
theorem c_word (s : List UInt8) (hl : s.length ≤ 9223372036854775807) (w : World) : Cal Tryz.prog 88 #[str s] w fun v w' => v = .bool (Sp.word s) ∧ w' = w := by
  refine enter (N := 36) Tryz.func88 rfl [(0, str s)] args1 rfl ?_
  repeat' (first|(refine op_call (hc:=by exact c_letter _ _) (k:=?_); rintro _ w ⟨rfl, rfl⟩)|refine op_move (k:=?_)|refine op_assign (k:=?_)|refine op_pick_true (k:=?_)|refine op_pick_false (k:=?_)|refine op_lss (k:=?_)|refine op_gtr (k:=?_)|refine op_len_str (k:=?_)|refine op_not (k:=?_)|refine op_index_str (k:=?_)|refine wl_skip (k:=?_)|(refine wl_split_dec (h1:=fun _ => ?_) (h0:=fun _ => ?_)<;> (try first | contradiction | (exfalso; omega)))|refine wl_nil ?_|refine at_then_normal ?_|refine at_then_ret ?_|refine wc_seq ?_|refine wc_region ?_|refine wc_block ?_|refine wc_skip ?_|refine wc_ret ?_|refine at_ret1 (h:=?_)|refine wc_cond_true (ht:=?_)|refine wc_cond (ht:=fun _ => ?_) (hf:=fun _ => ?_))
  · refine ⟨?_, rfl⟩; rename_i h; rw [show Sp.word s = false by simp [Sp.word]; omega]
  · refine ⟨?_, rfl⟩; rename_i h h1; rw [show Sp.word s = false by simp [Sp.word]; omega]
  · refine ⟨?_, rfl⟩; rename_i h h1 h2; have h2' : Sp.isLetter (s.getD 0 0) = false := by simpa using h2
    rw [show Sp.word s = false by unfold Sp.word; rw [h2']; simp]
  · rename_i h0 h1 h2
    have h2' : Sp.isLetter (s.getD 0 0) = true := by simpa using h2
    refine wc_loop (fun k => [(0, str s), (19, .int .i64 (s.length : Int)), (20, .int .i64 ((k : Nat) : Int))]) (fun k w' => w' = w ∧ k ≤ s.length ∧ ∀ j, j < k → Sp.isWord (s.getD j 0) = true) (fun k => s.length - k) 0 ⟨rfl, rfl, rfl, trivial⟩ ⟨rfl, by omega, by omega⟩ ?_
    rintro k w ⟨rfl, hk, hn⟩
    repeat' (first|(refine op_call (hc:=by exact c_letter _ _) (k:=?_); rintro _ w ⟨rfl, rfl⟩)|(refine op_call (hc:=by exact c_digit _ _) (k:=?_); rintro _ w ⟨rfl, rfl⟩)|refine op_move (k:=?_)|refine op_assign (k:=?_)|refine op_pick_true (k:=?_)|refine op_pick_false (k:=?_)|refine op_lss (k:=?_)|refine op_not (k:=?_)|refine op_add (k:=?_)|refine op_index_str (k:=?_)|refine wl_skip (k:=?_)|(refine wl_split (h1:=fun _ => ?_) (h0:=fun _ => ?_)<;> (fail_if_success contradiction))|refine wl_nil ?_|refine at_then_normal ?_|refine at_then_ret ?_|refine at_then_exit ?_|refine at_block_normal ?_|refine at_block_ret ?_|refine at_block_exit ?_|refine wc_seq ?_|refine wc_region ?_|refine wc_block ?_|refine wc_skip ?_|refine wc_exit ?_|refine wc_ret ?_|refine at_ret1 (h:=?_)|refine wc_cond_false (hf:=?_)|(refine wc_cond_dec (ht:=fun _ => ?_) (hf:=fun _ => ?_)<;> (try first | contradiction | (exfalso; omega)))|refine wc_cond (ht:=fun _ => ?_) (hf:=fun _ => ?_))
    · rename_i h3 h4 h5
      refine ⟨?_, rfl⟩
      rw [word_no (k := k) (by omega) (by simp at h4 h5; simp [Sp.isWord, h4, h5])]
    · rename_i h3 h4 h5
      refine at_round (k + 1) (by exact ⟨rfl, rfl, rfl, trivial⟩) ⟨rfl, by omega, fun j hj => ?_⟩ (by omega)
      by_cases hjk : j = k
      · subst hjk; simp at h5; simp [Sp.isWord, h5]
      · exact hn j (by omega)
    · rename_i h3 h4
      refine at_round (k + 1) (by exact ⟨rfl, rfl, rfl, trivial⟩) ⟨rfl, by omega, fun j hj => ?_⟩ (by omega)
      by_cases hjk : j = k
      · subst hjk; simp at h4; simp [Sp.isWord, h4]
      · exact hn j (by omega)
    · rename_i h3
      refine ⟨?_, rfl⟩
      have ha : s.all Sp.isWord = true := (Sp.all_iff _ _).2 (fun j hj => hn j (by omega))
      rw [show Sp.word s = true by unfold Sp.word; rw [h2', ha]; simp; omega]
theorem c_name (s : List UInt8) (hl : s.length ≤ 9223372036854775807) (w : World) : Cal Tryz.prog 59 #[str s] w fun v w' => v = .bool (Sp.name s) ∧ Kept [] w w' := by
  refine enter (N := 17) Tryz.func59 rfl [(0, str s)] args1 rfl ?_
  repeat' (first|(refine op_call (hc:=by exact c_own _) (k:=?_); rintro _ w1 ⟨hown, hk1⟩; obtain ⟨g, cap, cur, rfl, hbg, hg, hcap, hcur, _⟩ := own_open hown (by decide))|refine op_move (k:=?_)|refine op_assign (k:=?_)|refine op_len_slice (k:=?_)|refine wl_nil ?_|refine at_then_normal ?_|refine wc_seq ?_|refine wc_region ?_|refine wc_block ?_)
  refine wc_loop (fun k => [(0, str s), (5, .slice (some ⟨g, 0, none⟩) 9 cap), (6, .int .i64 9), (7, .int .i64 ((k : Nat) : Int))]) (fun k w' => w' = w1 ∧ k ≤ 9 ∧ ∀ j, j < k → s ≠ Sp.ownWords.getD j []) (fun k => 9 - k) 0 ⟨rfl, rfl, rfl, rfl, trivial⟩ ⟨rfl, by omega, by omega⟩ ?_
  rintro k w1 ⟨rfl, hk, hn⟩
  have hcell : k < 9 → cur[0 + (k : Int).toNat * 1]? = some (str (Sp.ownWords.getD k [])) := fun h => hcur _ _ (by
    have h9 : k < Sp.ownWords.length := h
    simp [List.getD_eq_getElem?_getD, List.getElem?_eq_getElem h9])
  repeat' (first|(refine op_load1 (hc:=by exact hcell (by omega)) (k:=?_))|(refine op_call (hc:=by exact c_word s hl _) (k:=?_); rintro _ w ⟨rfl, rfl⟩)|refine op_move (k:=?_)|refine op_assign (k:=?_)|refine op_lss (k:=?_)|refine op_eql_str (k:=?_)|refine op_add (k:=?_)|refine op_indexAddr (k:=?_)|refine wl_nil ?_|refine at_then_normal ?_|refine at_then_ret ?_|refine at_then_exit ?_|refine at_block_normal ?_|refine at_block_ret ?_|refine at_block_exit ?_|refine wc_seq ?_|refine wc_region ?_|refine wc_block ?_|refine wc_skip ?_|refine wc_exit ?_|refine wc_ret ?_|refine at_ret1 (h:=?_)|(refine wc_cond_dec (ht:=fun _ => ?_) (hf:=fun _ => ?_)<;> (try first | contradiction | (exfalso; omega))))
  · rename_i h0 h1
    refine ⟨?_, hk1⟩
    have h9 : k < Sp.ownWords.length := show k < 9 by omega
    have : Sp.ownWords.any (fun w => decide (s = w)) = true := by
      rw [List.any_eq_true]
      exact ⟨_, List.getElem_mem h9, by rw [h1, List.getD_eq_getElem?_getD, List.getElem?_eq_getElem h9]; simp⟩
    simp only [Sp.name, this, Bool.not_true, Bool.false_and]
  · rename_i h0 h1
    refine at_round (k + 1) (by exact ⟨rfl, rfl, rfl, rfl, trivial⟩) ⟨rfl, by omega, fun j hj => ?_⟩ (by omega)
    by_cases hjk : j = k
    · subst hjk; exact h1
    · exact hn j (by omega)
  · rename_i h0
    refine ⟨?_, hk1⟩
    have : Sp.ownWords.any (fun w => decide (s = w)) = false := by
      rw [List.any_eq_false]
      intro x hx
      obtain ⟨j, hj, rfl⟩ := List.mem_iff_getElem.1 hx
      have := hn j (by have : j < 9 := hj; omega)
      rw [List.getD_eq_getElem?_getD, List.getElem?_eq_getElem hj] at this
      simpa using this
    simp only [Sp.name, this, Bool.not_false, Bool.true_and]
structure CLoop where
  at_ : Nat
  out : Value
  acc : List Nat
set_option maxHeartbeats 1000000 in
theorem c_cuts (s : List UInt8) (hl : s.length ≤ 1099511627776) (w : World) :
    Cal Tryz.prog 71 #[str s] w fun v w' => w'.ownsRow w.heap.size 3 1 v (Sp.cuts s).length ((Sp.cuts s).flatMap encInt) ∧ Kept [] w w' := by
  refine enter (N := 53) Tryz.func71 rfl [(0, str s)] args1 rfl ?_
  repeat' (first|(refine op_call (hc:=by exact c_tokens s hl _) (k:=?_); rintro tv w1 ⟨htv, hk1⟩; obtain ⟨ta, tc, rfl⟩ := own_val htv)|refine op_move (k:=?_)|refine op_assign (k:=?_)|refine op_len_slice (k:=?_)|refine wl_nil ?_|refine at_then_normal ?_|refine wc_seq ?_|refine wc_region ?_|refine wc_block ?_)
  have htl := toks_len s
  refine wc_loop (fun x : CLoop => [(0, str s), (3, x.out), (8, .slice ta (Sp.tokens s).length tc), (9, .int .i64 ((Sp.tokens s).length : Int)), (10, .int .i64 (x.at_ : Int))])
    (fun x w' => x.at_ ≤ (Sp.tokens s).length ∧ x.acc.length ≤ x.at_ ∧ x.acc = ((Sp.tokens s).take x.at_).foldl (Sp.cutStep s) [] ∧ w'.ownsRow w1.heap.size 3 1 x.out x.acc.length (x.acc.flatMap encInt) ∧ Kept [] w1 w')
    (fun x => (Sp.tokens s).length - x.at_) ⟨0, .slice none 0 0, []⟩ ⟨rfl, rfl, rfl, rfl, rfl, trivial⟩ ⟨by simp, by simp, by simp, World.ownsRow_nil _ _ _ _, Kept.refl _ _⟩ ?_
  rintro ⟨k, out, acc⟩ w2 ⟨hk, hacc, heq, hown, hkept⟩
  dsimp only at hk hacc heq hown hkept ⊢
  by_cases hlt : k < (Sp.tokens s).length
  · obtain ⟨g, cap, cur, htve, hbg, hg, hcap, hcur, hsz⟩ := own_open htv (by omega)
    injection htve with e1 e2 e3
    subst e1
    have hg2 := hkept.get0 hg
    have htok : (Sp.tokens s)[k]? = some (Sp.tokens s)[k] := List.getElem?_eq_getElem hlt
    have hok := Sp.tokens_ok s _ (List.getElem_mem hlt)
    have hfold := Sp.fold_take (Sp.cutStep s) [] _ _ _ htok
    have hcell : ∀ (j : Nat) (v : Value), (encTok (Sp.tokens s)[k])[j]? = some v → cur[0 + (k : Int).toNat * 3 + j]? = some v := fun j v hv => by
      rw [show 0 + (k : Int).toNat * 3 + j = k * 3 + j by omega]
      exact hcur _ _ (encTok_get _ _ _ htok j v hv)
    generalize (Sp.tokens s)[k] = t at htok hok hfold hcell
    have hp1 := hok.pos
    obtain ⟨oa, oc, rfl⟩ := own_val hown
    repeat' (first|(refine op_loadN (vs:=encTok t) (hb:=hg2) (hc:=hcell) (k:=?_))|(refine op_var (k:=?_); intro b w3 hbe hb hkb)|(refine op_append1 (hown:=by exact hkb.own hown (by simp)) (hbase:=by have := hkept.size; have := hkb.size; omega) (k:=?_); intro v3 w4 hown3 hk3 hb3)|refine op_move (k:=?_)|refine op_assign (k:=?_)|refine op_pick_true (k:=?_)|refine op_pick_false (k:=?_)|refine op_lss (k:=?_)|refine op_eql (k:=?_)|refine op_eql_str (k:=?_)|refine op_len_slice (k:=?_)|refine op_add (k:=?_)|refine op_sub (k:=?_)|refine op_index_str (k:=?_)|refine op_fieldAddr (k:=?_)|refine op_indexAddr (k:=?_)|refine op_load1 (k:=?_)|refine wl_skip (k:=?_)|(refine wl_split_dec (h1:=fun _ => ?_) (h0:=fun _ => ?_)<;> (try first | contradiction | (exfalso; omega)))|refine wl_nil ?_|refine at_then_normal ?_|refine at_block_normal ?_|refine wc_seq ?_|refine wc_region ?_|refine wc_block ?_|refine wc_skip ?_|refine wc_cond_true (ht:=?_)|(refine wc_cond_dec (ht:=fun _ => ?_) (hf:=fun _ => ?_)<;> (try first | contradiction | (exfalso; omega))))
    all_goals
      have e10 : ((t.pos : Int) - 1).toNat = t.pos - 1 := by omega
      rw [← heq] at hfold
    all_goals first
      | (have hst : Sp.begins s t = true ∨ acc = [] := by
          simp only [Sp.begins, Bool.and_eq_true, Bool.or_eq_true, decide_eq_true_eq, ← e10]
          simp only [Sp.wFn, Sp.wChan]
          first
            | exact .inr (List.eq_nil_of_length_eq_zero (by omega))
            | exact .inl ⟨⟨by omega, .inl (by assumption)⟩, by omega⟩
            | exact .inl ⟨⟨by omega, .inr (by assumption)⟩, by omega⟩
         rw [Sp.cutStep, if_pos hst] at hfold
         refine at_round (⟨k + 1, v3, acc ++ [t.pos]⟩ : CLoop) (by exact ⟨rfl, rfl, rfl, rfl, rfl, trivial⟩) ?_ (by dsimp only; omega)
         refine ⟨by dsimp only; omega, by simp; omega, hfold.symm, ?_, ?_⟩
         · simpa [encInt, List.flatMap_append, Value.cells, encTok] using hown3
         · exact (hkept.step0 hkb).step hk3 (fun x hx => .inr (by
            cases oa with
            | none => simp [Value.ownBlock] at hx
            | some a => simp [Value.ownBlock] at hx; subst hx; exact (hown.lt _ rfl).1)))
      | (have hst : ¬ (Sp.begins s t = true ∨ acc = []) := by
          rintro (h | h)
          · simp only [Sp.begins, Bool.and_eq_true, Bool.or_eq_true, decide_eq_true_eq, ← e10] at h
            simp only [Sp.wFn, Sp.wChan] at h
            obtain ⟨⟨h1, h2⟩, h3⟩ := h
            rcases h2 with h2 | h2 <;> first | omega | exact absurd h2 (by assumption)
          · have h0 : acc.length = 0 := by rw [h]; rfl
            omega
         rw [Sp.cutStep, if_neg hst] at hfold
         refine at_round (⟨k + 1, .slice oa acc.length oc, acc⟩ : CLoop) (by exact ⟨rfl, rfl, rfl, rfl, rfl, trivial⟩) ?_ (by dsimp only; omega)
         exact ⟨by dsimp only; omega, by dsimp only; omega, hfold.symm, hkb.own hown (by simp), hkept.step0 hkb⟩)
  · have hkk : k = (Sp.tokens s).length := by omega
    have hcs : Sp.cuts s = acc := by rw [heq, hkk, List.take_length]; rfl
    repeat' (first|refine op_move (k:=?_)|refine op_assign (k:=?_)|refine op_lss (k:=?_)|refine wl_nil ?_|refine at_then_normal ?_|refine at_then_exit ?_|refine at_block_exit ?_|refine wc_seq ?_|refine wc_region ?_|refine wc_exit ?_|refine wc_ret ?_|refine at_ret1 (h:=?_)|(refine wc_cond_dec (ht:=fun _ => ?_) (hf:=fun _ => ?_)<;> (try first | contradiction | (exfalso; omega))))
    rw [hcs]
    exact ⟨ownsRow_base hown hk1.size, hk1.trans hkept⟩
end Go.Proofs.YthmdffgiockcbaaGreatDoor
end
section
namespace Go.Proofs.YthmdffgiockcbaaGreatDoor
open Go.Fw
abbrev ToQ (pb : Nat) (la : Option Addr) (lc : Nat) (T : Sp.Src) (deep : Nat) (I : Imm) (s : Sp.St) (val : Value) : Value → Imm → List HItem → Prop :=
  fun v I' H' => v = val ∧ I = I' ∧ ∃ da dc, H' = QSt pb la lc T s deep da dc
theorem QSt_snoc (pb : Nat) (la : Option Addr) (lc : Nat) (T : Sp.Src) (s : Sp.St) (g : Sp.Dg) (deep : Nat) (da : Option Addr) (dc : Nat) :
    [.obj pb (.cells [.slice la T.l.length lc, nt s.i, nt T.size, .slice da (s.ds.length + 1) dc, nt deep].toArray 182 (0, 0)), .row (.slice da (s.ds.length + 1) dc) 154 4 (s.ds.length + 1) (s.ds.flatMap encDg ++ encDg g)] = QSt pb la lc T ⟨s.i, s.ds ++ [g]⟩ deep da dc := by
  simp [List.flatMap_append]
section
variable {I : Imm} {pb deep lc dc : Nat} {la da : Option Addr} {T : Sp.Src}

theorem p_eat (s : Sp.St) (t : List UInt8) (_ht : t ≠ []) (hr : TokR I T la lc) (hT : Ok T) (hi : s.i ≤ T.l.length) :
    CalM Tryz.prog 98 #[ptr pb, str t] I (QSt pb la lc T s deep da dc) (ToQ pb la lc T deep I (if T.is s.i t = true then s.next else s) (.bool (T.is s.i t))) := by
  refine CalM.of fun w E hm => enter (N := 28) Tryz.func98 rfl [(0, ptr pb), (1, str t)] args2 rfl ?_
  have h2 := hT.size
  have h3 := hT.len
  by_cases hq : T.is s.i t = true
  · have hlt := Sp.is_lt hq
    have hte : (T.tok s.i).text = t := by simp only [Sp.Src.is, Bool.and_eq_true, decide_eq_true_eq] at hq; exact hq.2
    rw [if_pos hq, hq]
    have hpk := p_peek (pb := pb) (deep := deep) (da := da) (dc := dc) s hr
    rw [hte] at hpk
    repeat' (first|(refine mq_readC hm (hc:=hpk) (k:=?_))|refine m_load1 hm (k:=?_)|refine mq_load1 hm (k:=?_)|(refine m_store1 hm (k:=?_); clear hm; intro _ hm; try simp only [setn] at hm)|refine op_move (k:=?_)|refine op_assign (k:=?_)|refine op_nilCheck (k:=?_)|refine op_add (k:=?_)|refine op_fieldAddr (k:=?_)|refine wl_nil ?_|refine at_then_normal ?_|refine wc_seq ?_|refine wc_region ?_|refine wc_skip ?_|refine wc_ret ?_|refine at_ret1 (h:=?_)|refine wc_quiet (h:=?_)|(refine wq_nil ?_; intro _ hkq; replace hm := hm.kept0 hkq; clear hkq)|(refine wc_cond_dec (ht:=fun _ => ?_) (hf:=fun _ => ?_)<;> (try first | contradiction | (exfalso; omega)))|refine q_move (k:=?_)|refine q_pick_false (k:=?_)|refine q_eql (k:=?_)|refine q_neq_str (k:=?_)|refine q_len_slice (k:=?_)|refine q_nilCheck (k:=?_)|refine q_fieldAddr (k:=?_)|(refine wq_split_dec (h1:=fun _ => ?_) (h0:=fun _ => ?_)<;> (try first | contradiction | (exfalso; omega))))
    all_goals try (exfalso; first | omega | simp_all; done)
    exact ⟨I, _, ⟨rfl, rfl, da, dc, rfl⟩, hm⟩
  · rw [if_neg hq, show T.is s.i t = false by simpa using hq]
    by_cases hlt : s.i < T.l.length
    · have hte : (T.tok s.i).text ≠ t := by
        intro e; exact hq (by simp [Sp.Src.is, hlt, e])
      repeat' (first|(refine mq_readC hm (hc:=p_peek s hr) (k:=?_))|refine op_assign (k:=?_)|refine wl_nil ?_|refine at_then_normal ?_|refine at_then_ret ?_|refine wc_seq ?_|refine wc_region ?_|refine wc_ret ?_|refine at_ret1 (h:=?_)|refine wc_quiet (h:=?_)|(refine wq_nil ?_; intro _ hkq; replace hm := hm.kept0 hkq; clear hkq)|refine wc_cond_true (ht:=?_)|refine q_move (k:=?_)|refine q_pick_true (k:=?_)|refine q_neq_str (k:=?_)|refine wq_skip (k:=?_)|(refine wq_split_dec (h1:=fun _ => ?_) (h0:=fun _ => ?_)<;> (try first | contradiction | (exfalso; omega))))
      all_goals try (exfalso; first | omega | simp_all; done)
      all_goals exact ⟨I, _, ⟨rfl, rfl, da, dc, rfl⟩, hm⟩
    · have hei : s.i = T.l.length := by omega
      repeat' (first|(refine mq_readC hm (hc:=p_peek s hr) (k:=?_))|refine mq_load1 hm (k:=?_)|refine op_assign (k:=?_)|refine wl_nil ?_|refine at_then_normal ?_|refine at_then_ret ?_|refine wc_seq ?_|refine wc_region ?_|refine wc_ret ?_|refine at_ret1 (h:=?_)|refine wc_quiet (h:=?_)|(refine wq_nil ?_; intro _ hkq; replace hm := hm.kept0 hkq; clear hkq)|refine wc_cond_true (ht:=?_)|(refine wc_cond_dec (ht:=fun _ => ?_) (hf:=fun _ => ?_)<;> (try first | contradiction | (exfalso; omega)))|refine q_move (k:=?_)|refine q_pick_true (k:=?_)|refine q_pick_false (k:=?_)|refine q_eql (k:=?_)|refine q_neq_str (k:=?_)|refine q_len_slice (k:=?_)|refine q_nilCheck (k:=?_)|refine q_fieldAddr (k:=?_)|refine wq_skip (k:=?_)|(refine wq_split_dec (h1:=fun _ => ?_) (h0:=fun _ => ?_)<;> (try first | contradiction | (exfalso; omega))))
      all_goals try (exfalso; first | omega | simp_all; done)
      all_goals exact ⟨I, _, ⟨rfl, rfl, da, dc, rfl⟩, hm⟩
theorem p_tell (s : Sp.St) (e : Nat) (hr : TokR I T la lc) (hT : Ok T) (hi : s.i ≤ T.l.length) (hd : s.ds.length < 1099511627776) :
    CalM Tryz.prog 104 #[ptr pb, nt e] I (QSt pb la lc T s deep da dc) (ToQ pb la lc T deep I (s.bad T e) (.tuple #[])) := by
  refine CalM.of fun w E hm => enter (N := 59) Tryz.func104 rfl [(0, ptr pb), (1, nt e)] args2 rfl ?_
  have h1 := hT.at_ s.i
  have h2 := hT.size
  have h3 := hT.len
  by_cases hlt : s.i < T.l.length
  · have htk := tok_get hlt
    repeat' (first|(refine iq_indexFlat (hr:=by exact hr) (he:=by intro _; rfl) (hz:=by exact htk) (k:=?_); intro b1 o1 hp1)|(refine wc_semi_memL (id:=3) (hm.perm pm1_1) [0,1,2,3,4,5,7,8,9] [6,10,11,12,13] 14 (h:=?_); clear hm; intro wd hR hm)|(refine mt_readR (d:=53) hR hm (hc:=p_peek s hr) (k:=?_); clear hm; intro _ hm)|(refine mt_readR (d:=49) hR hm (hc:=p_here s hr) (k:=?_); clear hm; intro _ hm)|refine mw_load1 hR (k:=?_)|refine mt_struct hm (k:=?_)|(refine mt_push (d:=56) hm (k:=?_); clear hm; intro a56 cp56 _ _ hm; replace hm := hR.back hm; clear hR; try simp only [setn] at hm)|refine m_load1 hm (k:=?_)|refine mq_load1 hm (k:=?_)|refine iq_load1 hm (k:=?_)|(refine m_store1 hm (k:=?_); clear hm; intro _ hm; try simp only [setn] at hm)|refine op_move (k:=?_)|refine op_assign (k:=?_)|refine op_nilCheck (k:=?_)|refine op_fieldAddr (k:=?_)|refine wl_nil ?_|refine at_then_normal ?_|refine wc_seq ?_|refine wc_region ?_|refine at_end0 (h:=?_)|refine wc_quiet (h:=?_)|(refine wq_nil ?_; intro _ hkq; replace hm := hm.kept0 hkq; clear hkq)|(refine wc_cond_dec (ht:=fun _ => ?_) (hf:=fun _ => ?_)<;> (try first | contradiction | (exfalso; omega)))|refine q_move (k:=?_)|refine q_assign (k:=?_)|refine q_lss (k:=?_)|refine q_len_str (k:=?_)|refine q_len_slice (k:=?_)|refine q_nilCheck (k:=?_)|refine q_add (k:=?_)|refine q_fieldAddr (k:=?_)|refine v_move (k:=?_)|refine v_nilCheck (k:=?_)|refine v_fieldAddr (k:=?_)|refine wv_nil ?_)
    exact ⟨I, _, ⟨rfl, rfl, _, _, QSt_snoc _ _ _ _ _ ⟨_, _, _, _⟩ _ _ _⟩, hm.swap⟩
  · have he : T.tok s.i = ⟨0, [], T.size⟩ := Sp.tok_end (by omega)
    rw [Sp.St.bad, he]
    have hpk := p_peek (pb := pb) (deep := deep) (da := da) (dc := dc) s hr
    have hhr := p_here (pb := pb) (deep := deep) (da := da) (dc := dc) s hr
    rw [he] at hpk hhr
    repeat' (first|(refine wc_semi_memL (id:=3) (hm.perm pm1_1) [0,1,2,3,4,5,7,8,9] [6,10,11,12,13] 14 (h:=?_); clear hm; intro wd hR hm)|(refine mt_readR (d:=53) hR hm (hc:=hpk) (k:=?_); clear hm; intro _ hm)|(refine mt_readR (d:=49) hR hm (hc:=hhr) (k:=?_); clear hm; intro _ hm)|refine mw_load1 hR (k:=?_)|refine mt_struct hm (k:=?_)|(refine mt_push (d:=56) hm (k:=?_); clear hm; intro a56 cp56 _ _ hm; replace hm := hR.back hm; clear hR; try simp only [setn] at hm)|refine m_load1 hm (k:=?_)|refine mq_load1 hm (k:=?_)|(refine m_store1 hm (k:=?_); clear hm; intro _ hm; try simp only [setn] at hm)|refine op_move (k:=?_)|refine op_assign (k:=?_)|refine op_nilCheck (k:=?_)|refine op_fieldAddr (k:=?_)|refine wl_nil ?_|refine at_then_normal ?_|refine wc_seq ?_|refine wc_region ?_|refine wc_skip ?_|refine at_end0 (h:=?_)|refine wc_quiet (h:=?_)|(refine wq_nil ?_; intro _ hkq; replace hm := hm.kept0 hkq; clear hkq)|(refine wc_cond_dec (ht:=fun _ => ?_) (hf:=fun _ => ?_)<;> (try first | contradiction | (exfalso; omega)))|refine q_move (k:=?_)|refine q_lss (k:=?_)|refine q_len_slice (k:=?_)|refine q_nilCheck (k:=?_)|refine q_fieldAddr (k:=?_)|refine v_move (k:=?_)|refine v_nilCheck (k:=?_)|refine v_fieldAddr (k:=?_)|refine wv_nil ?_)
    exact ⟨I, _, ⟨rfl, rfl, _, _, QSt_snoc _ _ _ _ _ ⟨_, _, _, _⟩ _ _ _⟩, hm.swap⟩
end
end Go.Proofs.YthmdffgiockcbaaGreatDoor
end
