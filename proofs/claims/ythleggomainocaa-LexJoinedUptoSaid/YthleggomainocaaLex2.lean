/- Own work: package lex: words, names, and the reference's. -/
import Derived.Test.YthleggomainocaaLex
import Derived.Test.YthleggomainocaaFwMem4
namespace Go.Proofs.Ythleggomainocaa
open Go.Fw

theorem c_own (w : World) : Cal Try.prog 15 #[] w fun v w' => w'.ownsRow w.heap.size 9 1 v 9 (Sp.ownWords.map str) ∧ Kept [] w w' := by
  refine enter (N := 2) Try.func15 rfl [] args0 rfl ?_
  repeat' (first
    | (refine op_buildSlice (by rfl) (by rfl) (by rfl) (by rfl) (by rfl) (by decide) ?_; intro b w1 hbe hb hk)
    | refine op_assign (by rfl) (by rfl) (by rfl) ?_
    | refine wl_nil ?_
    | refine at_then_normal ?_
    | refine at_then_ret ?_
    | refine wc_seq ?_
    | refine wc_region ?_
    | refine wc_skip ?_
    | refine wc_ret ?_
    | refine at_ret1 (by rfl) (by rfl) ?_)
  exact ⟨own_of_block hb (by rfl) (by omega) (by decide), hk⟩
theorem c_rown (w : World) : Cal Try.prog 16 #[] w fun v w' => w'.ownsRow w.heap.size 9 1 v 9 (Sp.ownWords.map str) ∧ Kept [] w w' := by
  refine enter (N := 2) Try.func16 rfl [] args0 rfl ?_
  repeat' (first
    | (refine op_buildSlice (by rfl) (by rfl) (by rfl) (by rfl) (by rfl) (by decide) ?_; intro b w1 hbe hb hk)
    | refine op_assign (by rfl) (by rfl) (by rfl) ?_
    | refine wl_nil ?_
    | refine at_then_normal ?_
    | refine at_then_ret ?_
    | refine wc_seq ?_
    | refine wc_region ?_
    | refine wc_skip ?_
    | refine wc_ret ?_
    | refine at_ret1 (by rfl) (by rfl) ?_)
  exact ⟨own_of_block hb (by rfl) (by omega) (by decide), hk⟩

theorem word_no {s : List UInt8} {k : Nat} (h : k < s.length) (hf : Sp.isWord (s.getD k 0) = false) : Sp.word s = false := by
  have : s.all Sp.isWord = false := by
    rw [Bool.eq_false_iff]; intro h1
    have := (Sp.all_iff _ _).1 h1 k h
    rw [hf] at this; cases this
  simp [Sp.word, this]
theorem c_word (s : List UInt8) (hl : s.length ≤ 9223372036854775807) (w : World) : Cal Try.prog 11 #[str s] w fun v w' => v = .bool (Sp.word s) ∧ w' = w := by
  refine enter (N := 36) Try.func11 rfl [(0, str s)] args1 rfl ?_
  repeat' (first
    | (refine op_call (by rfl) (by rfl) (by rfl) (by exact c_letter _ _) ?_; rintro _ w ⟨rfl, rfl⟩)
    | (refine op_call (by rfl) (by rfl) (by rfl) (by exact c_digit _ _) ?_; rintro _ w ⟨rfl, rfl⟩)
    | refine op_move (by rfl) (by rfl) (by rfl) ?_
    | refine op_assign (by rfl) (by rfl) (by rfl) ?_
    | refine op_pick_true (by rfl) (by rfl) (by rfl) (by rfl) ?_
    | refine op_pick_false (by rfl) (by rfl) (by rfl) (by rfl) ?_
    | refine op_lss (by rfl) (by rfl) (by rfl) (by rfl) ?_
    | refine op_gtr (by rfl) (by rfl) (by rfl) (by rfl) ?_
    | refine op_len_str (by rfl) (by rfl) (by rfl) ?_
    | refine op_len_slice (by rfl) (by rfl) (by rfl) ?_
    | refine op_not (by rfl) (by rfl) (by rfl) ?_
    | refine op_add (by rfl) (by rfl) (by rfl) (by rfl) (by omega) ?_
    | refine op_index_str (by rfl) (by rfl) (by rfl) (by rfl) (by omega) (by omega) ?_
    | refine wl_skip (by rfl) (by rfl) (by rfl) ?_
    | (refine wl_split_dec (by rfl) (by rfl) (by rfl) (fun _ => ?_) (fun _ => ?_) <;> (try first | contradiction | (exfalso; omega)))
    | refine wl_split (by rfl) (by rfl) (by rfl) (fun _ => ?_) (fun _ => ?_)
    | refine wl_nil ?_
    | refine at_then_normal ?_
    | refine at_then_ret ?_
    | refine at_then_exit ?_
    | refine at_block_normal ?_
    | refine at_block_ret ?_
    | refine at_block_exit ?_
    | refine at_block_other (by rfl) ?_
    | refine wc_seq ?_
    | refine wc_region ?_
    | refine wc_block ?_
    | refine wc_skip ?_
    | refine wc_exit ?_
    | refine wc_ret ?_
    | refine at_ret1 (by rfl) (by rfl) ?_
    | refine wc_cond_true (by rfl) ?_
    | refine wc_cond_false (by rfl) ?_
    | (refine wc_cond_dec (by rfl) (fun _ => ?_) (fun _ => ?_) <;> (try first | contradiction | (exfalso; omega)))
    | refine wc_cond (by rfl) (fun _ => ?_) (fun _ => ?_))
  · refine ⟨?_, rfl⟩; rename_i h; rw [show Sp.word s = false by simp [Sp.word]; omega]
  · refine ⟨?_, rfl⟩; rename_i h h1; rw [show Sp.word s = false by simp [Sp.word]; omega]
  · refine ⟨?_, rfl⟩; rename_i h h1 h2; have h2' : Sp.isLetter (s.getD 0 0) = false := by simpa using h2
    rw [show Sp.word s = false by unfold Sp.word; rw [h2']; simp]
  · rename_i h0 h1 h2
    have h2' : Sp.isLetter (s.getD 0 0) = true := by simpa using h2
    refine wc_loop (fun k => [(0, str s), (19, .int .i64 (s.length : Int)), (20, .int .i64 ((k : Nat) : Int))]) (fun k w' => w' = w ∧ k ≤ s.length ∧ ∀ j, j < k → Sp.isWord (s.getD j 0) = true) (fun k => s.length - k) 0 ⟨rfl, rfl, rfl, trivial⟩ ⟨rfl, by omega, by omega⟩ ?_
    rintro k w ⟨rfl, hk, hn⟩
    repeat' (first
      | (refine op_call (by rfl) (by rfl) (by rfl) (by exact c_letter _ _) ?_; rintro _ w ⟨rfl, rfl⟩)
      | (refine op_call (by rfl) (by rfl) (by rfl) (by exact c_digit _ _) ?_; rintro _ w ⟨rfl, rfl⟩)
      | refine op_move (by rfl) (by rfl) (by rfl) ?_
      | refine op_assign (by rfl) (by rfl) (by rfl) ?_
      | refine op_pick_true (by rfl) (by rfl) (by rfl) (by rfl) ?_
      | refine op_pick_false (by rfl) (by rfl) (by rfl) (by rfl) ?_
      | refine op_lss (by rfl) (by rfl) (by rfl) (by rfl) ?_
      | refine op_gtr (by rfl) (by rfl) (by rfl) (by rfl) ?_
      | refine op_len_str (by rfl) (by rfl) (by rfl) ?_
      | refine op_len_slice (by rfl) (by rfl) (by rfl) ?_
      | refine op_not (by rfl) (by rfl) (by rfl) ?_
      | refine op_add (by rfl) (by rfl) (by rfl) (by rfl) (by omega) ?_
      | refine op_index_str (by rfl) (by rfl) (by rfl) (by rfl) (by omega) (by omega) ?_
      | refine wl_skip (by rfl) (by rfl) (by rfl) ?_
      | (refine wl_split_dec (by rfl) (by rfl) (by rfl) (fun _ => ?_) (fun _ => ?_) <;> (try first | contradiction | (exfalso; omega)))
      | refine wl_split (by rfl) (by rfl) (by rfl) (fun _ => ?_) (fun _ => ?_)
      | refine wl_nil ?_
      | refine at_then_normal ?_
      | refine at_then_ret ?_
      | refine at_then_exit ?_
      | refine at_block_normal ?_
      | refine at_block_ret ?_
      | refine at_block_exit ?_
      | refine at_block_other (by rfl) ?_
      | refine wc_seq ?_
      | refine wc_region ?_
      | refine wc_block ?_
      | refine wc_skip ?_
      | refine wc_exit ?_
      | refine wc_ret ?_
      | refine at_ret1 (by rfl) (by rfl) ?_
      | refine wc_cond_true (by rfl) ?_
      | refine wc_cond_false (by rfl) ?_
      | (refine wc_cond_dec (by rfl) (fun _ => ?_) (fun _ => ?_) <;> (try first | contradiction | (exfalso; omega)))
      | refine wc_cond (by rfl) (fun _ => ?_) (fun _ => ?_))
    · rename_i h3 h4 h5
      refine ⟨?_, rfl⟩
      rw [word_no (k := k) (by omega) (by simp at h4 h5; simp [Sp.isWord, h4, h5])]
    · rename_i h3 h4 h5
      refine at_round (k + 1) (by exact ⟨rfl, rfl, rfl, trivial⟩) ⟨rfl, by omega, fun j hj => ?_⟩ (by omega)
      by_cases hjk : j = k
      · subst hjk; simp at h5; simp [Sp.isWord, h5]
      · exact hn j (by omega)
    · rename_i h3 h4
      refine at_round (k + 1) (by exact ⟨rfl, rfl, rfl, trivial⟩) ⟨rfl, by omega, fun j hj => ?_⟩ (by omega)
      by_cases hjk : j = k
      · subst hjk; simp at h4; simp [Sp.isWord, h4]
      · exact hn j (by omega)
    · rename_i h3
      refine ⟨?_, rfl⟩
      have ha : s.all Sp.isWord = true := (Sp.all_iff _ _).2 (fun j hj => hn j (by omega))
      rw [show Sp.word s = true by unfold Sp.word; rw [h2', ha]; simp; omega]
theorem c_name (s : List UInt8) (hl : s.length ≤ 9223372036854775807) (w : World) : Cal Try.prog 13 #[str s] w fun v w' => v = .bool (Sp.name s) ∧ Kept [] w w' := by
  refine enter (N := 17) Try.func13 rfl [(0, str s)] args1 rfl ?_
  repeat' (first
    | (refine op_call (by rfl) (by rfl) (by rfl) (by exact c_own _) ?_; rintro _ w1 ⟨hown, hk1⟩; obtain ⟨g, cap, cur, rfl, hbg, hg, hcap, hcur, _⟩ := own_open hown (by decide))
    | refine op_move (by rfl) (by rfl) (by rfl) ?_
    | refine op_assign (by rfl) (by rfl) (by rfl) ?_
    | refine op_lss (by rfl) (by rfl) (by rfl) (by rfl) ?_
    | refine op_eql (by rfl) (by rfl) (by rfl) (by rfl) ?_
    | refine op_eql_str (by rfl) (by rfl) (by rfl) (by rfl) ?_
    | refine op_eql_bool (by rfl) (by rfl) (by rfl) (by rfl) ?_
    | refine op_eql_flat (by rfl) (by rfl) (by rfl) (by rfl) (by rfl) (by rfl) ?_
    | refine op_len_str (by rfl) (by rfl) (by rfl) ?_
    | refine op_len_slice (by rfl) (by rfl) (by rfl) ?_
    | refine op_add (by rfl) (by rfl) (by rfl) (by rfl) (by omega) ?_
    | refine op_indexAddr (by rfl) (by rfl) (by rfl) (by rfl) (by omega) (by omega) ?_
    | refine op_load1 (by rfl) (by rfl) (by rfl) (by assumption) (by rfl) ?_
    | refine wl_nil ?_
    | refine at_then_normal ?_
    | refine at_then_ret ?_
    | refine at_then_exit ?_
    | refine at_block_normal ?_
    | refine at_block_ret ?_
    | refine at_block_exit ?_
    | refine at_block_other (by rfl) ?_
    | refine wc_seq ?_
    | refine wc_region ?_
    | refine wc_block ?_
    | refine wc_skip ?_
    | refine wc_exit ?_
    | refine wc_ret ?_
    | refine at_ret1 (by rfl) (by rfl) ?_
    | refine wc_cond_true (by rfl) ?_
    | refine wc_cond_false (by rfl) ?_
    | (refine wc_cond_dec (by rfl) (fun _ => ?_) (fun _ => ?_) <;> (try first | contradiction | (exfalso; omega)))
    | refine wc_cond (by rfl) (fun _ => ?_) (fun _ => ?_))
  refine wc_loop (fun k => [(0, str s), (5, .slice (some ⟨g, 0, none⟩) 9 cap), (6, .int .i64 9), (7, .int .i64 ((k : Nat) : Int))]) (fun k w' => w' = w1 ∧ k ≤ 9 ∧ ∀ j, j < k → s ≠ Sp.ownWords.getD j []) (fun k => 9 - k) 0 ⟨rfl, rfl, rfl, rfl, trivial⟩ ⟨rfl, by omega, by omega⟩ ?_
  rintro k w1 ⟨rfl, hk, hn⟩
  have hcell : k < 9 → cur[0 + (k : Int).toNat * 1]? = some (str (Sp.ownWords.getD k [])) := fun h => hcur _ _ (by
    have h9 : k < Sp.ownWords.length := h
    simp [List.getD_eq_getElem?_getD, List.getElem?_eq_getElem h9])
  repeat' (first
    | (refine op_load1 (by rfl) (by rfl) (by rfl) (by assumption) (by exact hcell (by omega)) ?_)
    | (refine op_call (by rfl) (by rfl) (by rfl) (by exact c_word s hl _) ?_; rintro _ w ⟨rfl, rfl⟩)
    | refine op_move (by rfl) (by rfl) (by rfl) ?_
    | refine op_assign (by rfl) (by rfl) (by rfl) ?_
    | refine op_lss (by rfl) (by rfl) (by rfl) (by rfl) ?_
    | refine op_eql (by rfl) (by rfl) (by rfl) (by rfl) ?_
    | refine op_eql_str (by rfl) (by rfl) (by rfl) (by rfl) ?_
    | refine op_eql_bool (by rfl) (by rfl) (by rfl) (by rfl) ?_
    | refine op_eql_flat (by rfl) (by rfl) (by rfl) (by rfl) (by rfl) (by rfl) ?_
    | refine op_len_str (by rfl) (by rfl) (by rfl) ?_
    | refine op_len_slice (by rfl) (by rfl) (by rfl) ?_
    | refine op_add (by rfl) (by rfl) (by rfl) (by rfl) (by omega) ?_
    | refine op_indexAddr (by rfl) (by rfl) (by rfl) (by rfl) (by omega) (by omega) ?_
    | refine op_load1 (by rfl) (by rfl) (by rfl) (by assumption) (by rfl) ?_
    | refine wl_nil ?_
    | refine at_then_normal ?_
    | refine at_then_ret ?_
    | refine at_then_exit ?_
    | refine at_block_normal ?_
    | refine at_block_ret ?_
    | refine at_block_exit ?_
    | refine at_block_other (by rfl) ?_
    | refine wc_seq ?_
    | refine wc_region ?_
    | refine wc_block ?_
    | refine wc_skip ?_
    | refine wc_exit ?_
    | refine wc_ret ?_
    | refine at_ret1 (by rfl) (by rfl) ?_
    | refine wc_cond_true (by rfl) ?_
    | refine wc_cond_false (by rfl) ?_
    | (refine wc_cond_dec (by rfl) (fun _ => ?_) (fun _ => ?_) <;> (try first | contradiction | (exfalso; omega)))
    | refine wc_cond (by rfl) (fun _ => ?_) (fun _ => ?_))
  · rename_i h0 h1
    refine ⟨?_, hk1⟩
    have h9 : k < Sp.ownWords.length := show k < 9 by omega
    have : Sp.ownWords.any (fun w => decide (s = w)) = true := by
      rw [List.any_eq_true]
      exact ⟨_, List.getElem_mem h9, by rw [h1, List.getD_eq_getElem?_getD, List.getElem?_eq_getElem h9]; simp⟩
    simp only [Sp.name, this, Bool.not_true, Bool.false_and]
  · rename_i h0 h1
    refine at_round (k + 1) (by exact ⟨rfl, rfl, rfl, rfl, trivial⟩) ⟨rfl, by omega, fun j hj => ?_⟩ (by omega)
    by_cases hjk : j = k
    · subst hjk; exact h1
    · exact hn j (by omega)
  · rename_i h0
    refine ⟨?_, hk1⟩
    have : Sp.ownWords.any (fun w => decide (s = w)) = false := by
      rw [List.any_eq_false]
      intro x hx
      obtain ⟨j, hj, rfl⟩ := List.mem_iff_getElem.1 hx
      have := hn j (by have : j < 9 := hj; omega)
      rw [List.getD_eq_getElem?_getD, List.getElem?_eq_getElem hj] at this
      simpa using this
    simp only [Sp.name, this, Bool.not_false, Bool.true_and]
end Go.Proofs.Ythleggomainocaa
