/- Own work: the reference's words, names, tokens. -/
import Derived.Test.YthleggomainocaaLex2
namespace Go.Proofs.Ythleggomainocaa
open Go.Fw

theorem c_rletter (c : UInt8) (w : World) :
    Cal Try.prog 18 #[.int .u8 (c.toNat : Int)] w fun v w' => v = .bool (Sp.isLetter c) ∧ w' = w := by
  refine enter (N := 21) Try.func18 rfl [(0, .int .u8 (c.toNat : Int))] args1 rfl ?_
  repeat' (first
    | refine op_move (by rfl) (by rfl) (by rfl) ?_
    | refine op_assign (by rfl) (by rfl) (by rfl) ?_
    | refine op_pick_true (by rfl) (by rfl) (by rfl) (by rfl) ?_
    | refine op_pick_false (by rfl) (by rfl) (by rfl) (by rfl) ?_
    | refine op_leq (by rfl) (by rfl) (by rfl) (by rfl) ?_
    | refine op_geq (by rfl) (by rfl) (by rfl) (by rfl) ?_
    | refine op_eql (by rfl) (by rfl) (by rfl) (by rfl) ?_
    | refine op_eql_str (by rfl) (by rfl) (by rfl) (by rfl) ?_
    | refine op_eql_bool (by rfl) (by rfl) (by rfl) (by rfl) ?_
    | refine op_eql_flat (by rfl) (by rfl) (by rfl) (by rfl) (by rfl) (by rfl) ?_
    | refine wl_skip (by rfl) (by rfl) (by rfl) ?_
    | (refine wl_split_dec (by rfl) (by rfl) (by rfl) (fun _ => ?_) (fun _ => ?_) <;> (try first | contradiction | (exfalso; omega)))
    | refine wl_split (by rfl) (by rfl) (by rfl) (fun _ => ?_) (fun _ => ?_)
    | refine wl_nil ?_
    | refine at_then_normal ?_
    | refine at_then_ret ?_
    | refine wc_seq ?_
    | refine wc_region ?_
    | refine wc_skip ?_
    | refine wc_ret ?_
    | refine at_ret1 (by rfl) (by rfl) ?_)
  all_goals (refine ⟨congrArg Value.bool ?_, rfl⟩; unfold Sp.isLetter; rw [Bool.eq_iff_iff]; simp; omega)
theorem c_rdigit (c : UInt8) (w : World) :
    Cal Try.prog 20 #[.int .u8 (c.toNat : Int)] w fun v w' => v = .bool (Sp.isDigit c) ∧ w' = w := by
  refine enter (N := 9) Try.func20 rfl [(0, .int .u8 (c.toNat : Int))] args1 rfl ?_
  repeat' (first
    | refine op_move (by rfl) (by rfl) (by rfl) ?_
    | refine op_assign (by rfl) (by rfl) (by rfl) ?_
    | refine op_pick_true (by rfl) (by rfl) (by rfl) (by rfl) ?_
    | refine op_pick_false (by rfl) (by rfl) (by rfl) (by rfl) ?_
    | refine op_leq (by rfl) (by rfl) (by rfl) (by rfl) ?_
    | refine op_geq (by rfl) (by rfl) (by rfl) (by rfl) ?_
    | refine wl_skip (by rfl) (by rfl) (by rfl) ?_
    | (refine wl_split_dec (by rfl) (by rfl) (by rfl) (fun _ => ?_) (fun _ => ?_) <;> (try first | contradiction | (exfalso; omega)))
    | refine wl_split (by rfl) (by rfl) (by rfl) (fun _ => ?_) (fun _ => ?_)
    | refine wl_nil ?_
    | refine at_then_normal ?_
    | refine at_then_ret ?_
    | refine wc_seq ?_
    | refine wc_region ?_
    | refine wc_skip ?_
    | refine wc_ret ?_
    | refine at_ret1 (by rfl) (by rfl) ?_)
  all_goals (refine ⟨congrArg Value.bool ?_, rfl⟩; unfold Sp.isDigit; rw [Bool.eq_iff_iff]; simp; omega)
theorem c_rsign (c : UInt8) (w : World) :
    Cal Try.prog 25 #[.int .u8 (c.toNat : Int)] w fun v w' => v = .bool (Sp.isSign c) ∧ w' = w := by
  have hs : Sp.isSign c = (decide (c.toNat = 40) || decide (c.toNat = 41) || decide (c.toNat = 123) || decide (c.toNat = 125) || decide (c.toNat = 44) || decide (c.toNat = 58) || decide (c.toNat = 59) || decide (c.toNat = 61) || decide (c.toNat = 43) || decide (c.toNat = 45) || decide (c.toNat = 42) || decide (c.toNat = 60)) := by
    have e : ∀ n : UInt8, decide (n = c) = decide (c.toNat = n.toNat) := fun n => by
      rw [Bool.eq_iff_iff, decide_eq_true_eq, decide_eq_true_eq, ← UInt8.toNat_inj]; omega
    simp only [Sp.isSign, Sp.signs, List.any_cons, List.any_nil, e, Bool.or_false, Bool.or_assoc]
    rfl
  rw [hs]
  clear hs
  refine enter (N := 17) Try.func25 rfl [(0, .int .u8 (c.toNat : Int))] args1 rfl ?_
  repeat' (first
    | refine op_move (by rfl) (by rfl) (by rfl) ?_
    | refine op_assign (by rfl) (by rfl) (by rfl) ?_
    | refine op_eql (by rfl) (by rfl) (by rfl) (by rfl) ?_
    | refine op_eql_str (by rfl) (by rfl) (by rfl) (by rfl) ?_
    | refine op_eql_bool (by rfl) (by rfl) (by rfl) (by rfl) ?_
    | refine op_eql_flat (by rfl) (by rfl) (by rfl) (by rfl) (by rfl) (by rfl) ?_
    | refine wl_nil ?_
    | refine at_then_normal ?_
    | refine at_then_ret ?_
    | refine at_then_exit ?_
    | refine at_block_normal ?_
    | refine at_block_ret ?_
    | refine at_block_exit ?_
    | refine at_block_other (by rfl) ?_
    | refine wc_seq ?_
    | refine wc_region ?_
    | refine wc_block ?_
    | refine wc_skip ?_
    | refine wc_exit ?_
    | refine wc_ret ?_
    | refine at_ret1 (by rfl) (by rfl) ?_
    | refine wc_cond_true (by rfl) ?_
    | refine wc_cond_false (by rfl) ?_
    | (refine wc_cond_dec (by rfl) (fun _ => ?_) (fun _ => ?_) <;> (try first | contradiction | (exfalso; omega)))
    | refine wc_cond (by rfl) (fun _ => ?_) (fun _ => ?_))
  all_goals (refine ⟨congrArg Value.bool ?_, rfl⟩; rw [Bool.eq_iff_iff]; simp; omega)

theorem c_rword (s : List UInt8) (hl : s.length ≤ 9223372036854775807) (w : World) : Cal Try.prog 12 #[str s] w fun v w' => v = .bool (Sp.word s) ∧ w' = w := by
  refine enter (N := 34) Try.func12 rfl [(0, str s)] args1 rfl ?_
  repeat' (first
    | refine op_move (by rfl) (by rfl) (by rfl) ?_
    | refine op_assign (by rfl) (by rfl) (by rfl) ?_
    | refine op_pick_true (by rfl) (by rfl) (by rfl) (by rfl) ?_
    | refine op_pick_false (by rfl) (by rfl) (by rfl) (by rfl) ?_
    | refine op_lss (by rfl) (by rfl) (by rfl) (by rfl) ?_
    | refine op_leq (by rfl) (by rfl) (by rfl) (by rfl) ?_
    | refine op_gtr (by rfl) (by rfl) (by rfl) (by rfl) ?_
    | refine op_eql (by rfl) (by rfl) (by rfl) (by rfl) ?_
    | refine op_eql_str (by rfl) (by rfl) (by rfl) (by rfl) ?_
    | refine op_eql_bool (by rfl) (by rfl) (by rfl) (by rfl) ?_
    | refine op_eql_flat (by rfl) (by rfl) (by rfl) (by rfl) (by rfl) (by rfl) ?_
    | refine op_len_str (by rfl) (by rfl) (by rfl) ?_
    | refine op_len_slice (by rfl) (by rfl) (by rfl) ?_
    | refine op_not (by rfl) (by rfl) (by rfl) ?_
    | refine op_add (by rfl) (by rfl) (by rfl) (by rfl) (by omega) ?_
    | refine op_index_str (by rfl) (by rfl) (by rfl) (by rfl) (by omega) (by omega) ?_
    | refine wl_skip (by rfl) (by rfl) (by rfl) ?_
    | (refine wl_split_dec (by rfl) (by rfl) (by rfl) (fun _ => ?_) (fun _ => ?_) <;> (try first | contradiction | (exfalso; omega)))
    | refine wl_split (by rfl) (by rfl) (by rfl) (fun _ => ?_) (fun _ => ?_)
    | refine wl_nil ?_
    | refine at_then_normal ?_
    | refine at_then_ret ?_
    | refine at_then_exit ?_
    | refine at_block_normal ?_
    | refine at_block_ret ?_
    | refine at_block_exit ?_
    | refine at_block_other (by rfl) ?_
    | refine wc_seq ?_
    | refine wc_region ?_
    | refine wc_block ?_
    | refine wc_skip ?_
    | refine wc_exit ?_
    | refine wc_ret ?_
    | refine at_ret1 (by rfl) (by rfl) ?_
    | refine wc_cond_true (by rfl) ?_
    | refine wc_cond_false (by rfl) ?_
    | (refine wc_cond_dec (by rfl) (fun _ => ?_) (fun _ => ?_) <;> (try first | contradiction | (exfalso; omega)))
    | refine wc_cond (by rfl) (fun _ => ?_) (fun _ => ?_))
  refine wc_loop (fun k => [(0, str s), (5, .int .i64 (s.length : Int)), (6, .int .i64 ((k : Nat) : Int))]) (fun k w' => w' = w ∧ k ≤ s.length ∧ (0 < k → Sp.isLetter (s.getD 0 0) = true) ∧ ∀ j, j < k → Sp.isWord (s.getD j 0) = true) (fun k => s.length - k) 0 ⟨rfl, rfl, rfl, trivial⟩ ⟨rfl, by omega, by omega, by omega⟩ ?_
  rintro k w ⟨rfl, hk, h0, hn⟩
  repeat' (first
    | (refine op_call (by rfl) (by rfl) (by rfl) (by exact c_rletter _ _) ?_; rintro _ w ⟨rfl, rfl⟩)
    | (refine op_call (by rfl) (by rfl) (by rfl) (by exact c_rdigit _ _) ?_; rintro _ w ⟨rfl, rfl⟩)
    | refine op_move (by rfl) (by rfl) (by rfl) ?_
    | refine op_assign (by rfl) (by rfl) (by rfl) ?_
    | refine op_pick_true (by rfl) (by rfl) (by rfl) (by rfl) ?_
    | refine op_pick_false (by rfl) (by rfl) (by rfl) (by rfl) ?_
    | refine op_lss (by rfl) (by rfl) (by rfl) (by rfl) ?_
    | refine op_leq (by rfl) (by rfl) (by rfl) (by rfl) ?_
    | refine op_gtr (by rfl) (by rfl) (by rfl) (by rfl) ?_
    | refine op_eql (by rfl) (by rfl) (by rfl) (by rfl) ?_
    | refine op_eql_str (by rfl) (by rfl) (by rfl) (by rfl) ?_
    | refine op_eql_bool (by rfl) (by rfl) (by rfl) (by rfl) ?_
    | refine op_eql_flat (by rfl) (by rfl) (by rfl) (by rfl) (by rfl) (by rfl) ?_
    | refine op_len_str (by rfl) (by rfl) (by rfl) ?_
    | refine op_len_slice (by rfl) (by rfl) (by rfl) ?_
    | refine op_not (by rfl) (by rfl) (by rfl) ?_
    | refine op_add (by rfl) (by rfl) (by rfl) (by rfl) (by omega) ?_
    | refine op_index_str (by rfl) (by rfl) (by rfl) (by rfl) (by omega) (by omega) ?_
    | refine wl_skip (by rfl) (by rfl) (by rfl) ?_
    | (refine wl_split_dec (by rfl) (by rfl) (by rfl) (fun _ => ?_) (fun _ => ?_) <;> (try first | contradiction | (exfalso; omega)))
    | refine wl_split (by rfl) (by rfl) (by rfl) (fun _ => ?_) (fun _ => ?_)
    | refine wl_nil ?_
    | refine at_then_normal ?_
    | refine at_then_ret ?_
    | refine at_then_exit ?_
    | refine at_block_normal ?_
    | refine at_block_ret ?_
    | refine at_block_exit ?_
    | refine at_block_other (by rfl) ?_
    | refine wc_seq ?_
    | refine wc_region ?_
    | refine wc_block ?_
    | refine wc_skip ?_
    | refine wc_exit ?_
    | refine wc_ret ?_
    | refine at_ret1 (by rfl) (by rfl) ?_
    | refine wc_cond_true (by rfl) ?_
    | refine wc_cond_false (by rfl) ?_
    | (refine wc_cond_dec (by rfl) (fun _ => ?_) (fun _ => ?_) <;> (try first | contradiction | (exfalso; omega)))
    | refine wc_cond (by rfl) (fun _ => ?_) (fun _ => ?_))
  · rename_i h3 h4 h5
    refine ⟨?_, rfl⟩
    obtain rfl : k = 0 := by omega
    have h4' : Sp.isLetter (s.getD 0 0) = false := by simpa using h4
    rw [show Sp.word s = false by unfold Sp.word; rw [h4']; simp]
  · rename_i h3 h4 h5 h6
    refine ⟨?_, rfl⟩
    rw [word_no (k := k) (by omega) (by simp at h4 h6; simp [Sp.isWord, h4, h6])]
  · rename_i h3 h4 h5 h6
    refine at_round (k + 1) (by exact ⟨rfl, rfl, rfl, trivial⟩) ⟨rfl, by omega, fun _ => h0 (by omega), fun j hj => ?_⟩ (by omega)
    by_cases hjk : j = k
    · subst hjk; simp at h6; simp [Sp.isWord, h6]
    · exact hn j (by omega)
  · rename_i h3 h4
    have h4' : Sp.isLetter (s.getD k 0) = true := by simpa using h4
    refine at_round (k + 1) (by exact ⟨rfl, rfl, rfl, trivial⟩) ⟨rfl, by omega, fun _ => ?_, fun j hj => ?_⟩ (by omega)
    · by_cases hk0 : k = 0
      · subst hk0; exact h4'
      · exact h0 (by omega)
    · by_cases hjk : j = k
      · subst hjk; simp only [Sp.isWord, h4', Bool.true_or]
      · exact hn j (by omega)
  all_goals
    have ha : s.all Sp.isWord = true := (Sp.all_iff _ _).2 (fun j hj => hn j (by omega))
    refine ⟨congrArg Value.bool ?_, rfl⟩
  · have h1 := h0 (by omega)
    rw [Bool.eq_iff_iff]
    unfold Sp.word
    rw [h1, ha]
    simp
    omega
  · rw [show Sp.word s = false by simp [Sp.word]; omega]

theorem c_rname (s : List UInt8) (hl : s.length ≤ 9223372036854775807) (w : World) : Cal Try.prog 14 #[str s] w fun v w' => v = .bool (Sp.name s) ∧ Kept [] w w' := by
  refine enter (N := 17) Try.func14 rfl [(0, str s)] args1 rfl ?_
  repeat' (first
    | (refine op_call (by rfl) (by rfl) (by rfl) (by exact c_rown _) ?_; rintro _ w1 ⟨hown, hk1⟩; obtain ⟨g, cap, cur, rfl, hbg, hg, hcap, hcur, _⟩ := own_open hown (by decide))
    | refine op_move (by rfl) (by rfl) (by rfl) ?_
    | refine op_assign (by rfl) (by rfl) (by rfl) ?_
    | refine op_lss (by rfl) (by rfl) (by rfl) (by rfl) ?_
    | refine op_eql (by rfl) (by rfl) (by rfl) (by rfl) ?_
    | refine op_eql_str (by rfl) (by rfl) (by rfl) (by rfl) ?_
    | refine op_eql_bool (by rfl) (by rfl) (by rfl) (by rfl) ?_
    | refine op_eql_flat (by rfl) (by rfl) (by rfl) (by rfl) (by rfl) (by rfl) ?_
    | refine op_len_str (by rfl) (by rfl) (by rfl) ?_
    | refine op_len_slice (by rfl) (by rfl) (by rfl) ?_
    | refine op_add (by rfl) (by rfl) (by rfl) (by rfl) (by omega) ?_
    | refine op_indexAddr (by rfl) (by rfl) (by rfl) (by rfl) (by omega) (by omega) ?_
    | refine op_load1 (by rfl) (by rfl) (by rfl) (by assumption) (by rfl) ?_
    | refine wl_nil ?_
    | refine at_then_normal ?_
    | refine at_then_ret ?_
    | refine at_then_exit ?_
    | refine at_block_normal ?_
    | refine at_block_ret ?_
    | refine at_block_exit ?_
    | refine at_block_other (by rfl) ?_
    | refine wc_seq ?_
    | refine wc_region ?_
    | refine wc_block ?_
    | refine wc_skip ?_
    | refine wc_exit ?_
    | refine wc_ret ?_
    | refine at_ret1 (by rfl) (by rfl) ?_
    | refine wc_cond_true (by rfl) ?_
    | refine wc_cond_false (by rfl) ?_
    | (refine wc_cond_dec (by rfl) (fun _ => ?_) (fun _ => ?_) <;> (try first | contradiction | (exfalso; omega)))
    | refine wc_cond (by rfl) (fun _ => ?_) (fun _ => ?_))
  refine wc_loop (fun k => [(0, str s), (5, .slice (some ⟨g, 0, none⟩) 9 cap), (6, .int .i64 9), (7, .int .i64 ((k : Nat) : Int))]) (fun k w' => w' = w1 ∧ k ≤ 9 ∧ ∀ j, j < k → s ≠ Sp.ownWords.getD j []) (fun k => 9 - k) 0 ⟨rfl, rfl, rfl, rfl, trivial⟩ ⟨rfl, by omega, by omega⟩ ?_
  rintro k w1 ⟨rfl, hk, hn⟩
  have hcell : k < 9 → cur[0 + (k : Int).toNat * 1]? = some (str (Sp.ownWords.getD k [])) := fun h => hcur _ _ (by
    have h9 : k < Sp.ownWords.length := h
    simp [List.getD_eq_getElem?_getD, List.getElem?_eq_getElem h9])
  repeat' (first
    | (refine op_load1 (by rfl) (by rfl) (by rfl) (by assumption) (by exact hcell (by omega)) ?_)
    | (refine op_call (by rfl) (by rfl) (by rfl) (by exact c_rword s hl _) ?_; rintro _ w ⟨rfl, rfl⟩)
    | refine op_move (by rfl) (by rfl) (by rfl) ?_
    | refine op_assign (by rfl) (by rfl) (by rfl) ?_
    | refine op_lss (by rfl) (by rfl) (by rfl) (by rfl) ?_
    | refine op_eql (by rfl) (by rfl) (by rfl) (by rfl) ?_
    | refine op_eql_str (by rfl) (by rfl) (by rfl) (by rfl) ?_
    | refine op_eql_bool (by rfl) (by rfl) (by rfl) (by rfl) ?_
    | refine op_eql_flat (by rfl) (by rfl) (by rfl) (by rfl) (by rfl) (by rfl) ?_
    | refine op_len_str (by rfl) (by rfl) (by rfl) ?_
    | refine op_len_slice (by rfl) (by rfl) (by rfl) ?_
    | refine op_add (by rfl) (by rfl) (by rfl) (by rfl) (by omega) ?_
    | refine op_indexAddr (by rfl) (by rfl) (by rfl) (by rfl) (by omega) (by omega) ?_
    | refine op_load1 (by rfl) (by rfl) (by rfl) (by assumption) (by rfl) ?_
    | refine wl_nil ?_
    | refine at_then_normal ?_
    | refine at_then_ret ?_
    | refine at_then_exit ?_
    | refine at_block_normal ?_
    | refine at_block_ret ?_
    | refine at_block_exit ?_
    | refine at_block_other (by rfl) ?_
    | refine wc_seq ?_
    | refine wc_region ?_
    | refine wc_block ?_
    | refine wc_skip ?_
    | refine wc_exit ?_
    | refine wc_ret ?_
    | refine at_ret1 (by rfl) (by rfl) ?_
    | refine wc_cond_true (by rfl) ?_
    | refine wc_cond_false (by rfl) ?_
    | (refine wc_cond_dec (by rfl) (fun _ => ?_) (fun _ => ?_) <;> (try first | contradiction | (exfalso; omega)))
    | refine wc_cond (by rfl) (fun _ => ?_) (fun _ => ?_))
  · rename_i h0 h1
    have h1 := h1.symm
    refine ⟨?_, hk1⟩
    have h9 : k < Sp.ownWords.length := show k < 9 by omega
    have : Sp.ownWords.any (fun w => decide (s = w)) = true := by
      rw [List.any_eq_true]
      exact ⟨_, List.getElem_mem h9, by rw [h1, List.getD_eq_getElem?_getD, List.getElem?_eq_getElem h9]; simp⟩
    simp only [Sp.name, this, Bool.not_true, Bool.false_and]
  · rename_i h0 h1
    refine at_round (k + 1) (by exact ⟨rfl, rfl, rfl, rfl, trivial⟩) ⟨rfl, by omega, fun j hj => ?_⟩ (by omega)
    by_cases hjk : j = k
    · subst hjk; exact fun e => h1 e.symm
    · exact hn j (by omega)
  · rename_i h0
    refine ⟨?_, hk1⟩
    have : Sp.ownWords.any (fun w => decide (s = w)) = false := by
      rw [List.any_eq_false]
      intro x hx
      obtain ⟨j, hj, rfl⟩ := List.mem_iff_getElem.1 hx
      have := hn j (by have : j < 9 := hj; omega)
      rw [List.getD_eq_getElem?_getD, List.getElem?_eq_getElem hj] at this
      simpa using this
    simp only [Sp.name, this, Bool.not_false, Bool.true_and]

/-! the reference's tokens -/
/-- a cell of an owned row is set. -/
theorem own_set {w w' : World} {base e sz n g off cap : Nat} {xs : List Value} {cur : Array Value} {u : Value} (h : w.ownsRow base e sz (.slice (some ⟨g, 0, none⟩) n cap) n xs)
    (hg : w.heap[g]? = some (.cells cur e (0, 0))) (hb : w'.heap[g]? = some (.cells (cur.toList.take off ++ [u] ++ cur.toList.drop (off + 1)).toArray e (0, 0))) (ho : off < n * sz) :
    w'.ownsRow base e sz (.slice (some ⟨g, 0, none⟩) n cap) n (xs.set off u) := by
  rcases h.2 with ⟨h1, _⟩ | ⟨g', cap', cur', hv, hbg, hg', hc, hm, hs, ht⟩
  · cases h1
  · injection hv with e1 e2 e3
    injection e1 with e1
    injection e1 with e1
    subst e1
    subst e3
    rw [hg] at hg'
    injection hg' with hg'
    injection hg' with e4
    subst e4
    have hle : n * sz ≤ cur.size := by rw [hs]; exact Nat.mul_le_mul_right _ hc
    refine ⟨by rw [List.length_set]; exact h.1, .inr ⟨g, cap, _, rfl, hbg, hb, hc, hm, ?_, ?_⟩⟩
    · simp only [List.size_toArray, List.length_append, List.length_take, List.length_drop, Array.length_toList, List.length_cons, List.length_nil]; omega
    · rw [← ht]
      apply List.ext_getElem?
      intro j
      simp only [List.getElem?_take, List.getElem?_set, List.length_take, Array.length_toList]
      by_cases h2 : j < n * sz
      · rw [if_pos h2, if_pos h2]
        by_cases h3 : off = j
        · subst h3
          rw [if_pos rfl, if_pos (by omega), List.append_assoc, List.getElem?_append_right (by simp; omega)]
          simp [show min off cur.size = off by omega]
        · rw [if_neg h3]
          by_cases h4 : j < off
          · rw [List.append_assoc, List.getElem?_append_left (by simp; omega)]
            simp [h4]
          · rw [List.getElem?_append_right (by simp; omega)]
            simp only [List.length_append, List.length_take, Array.length_toList, List.length_cons, List.length_nil, List.getElem?_drop]
            congr 1; omega
      · rw [if_neg h2]
        rw [if_neg (by omega)]
        simp [h2]

theorem enc_addLast (l : List Sp.Tok) (t : Sp.Tok) (c : UInt8) : ((l ++ [t]).flatMap encTok).set (l.length * 3 + 1) (str (t.text ++ [c])) = (Sp.addLast (l ++ [t]) c).flatMap encTok := by
  have e : Sp.addLast (l ++ [t]) c = l ++ [⟨t.kind, t.text ++ [c], t.pos⟩] := by simp [Sp.addLast]
  rw [e, List.flatMap_append, List.flatMap_append, List.set_append_right _ _ (by rw [encTok_len]; omega), encTok_len]
  rw [show l.length * 3 + 1 - l.length * 3 = 1 by omega]
  rfl
structure RLoop where
  at_ : Nat
  st : Nat
  out : Value
  acc : List Sp.Tok
set_option maxHeartbeats 2000000 in
theorem c_rtokens (s : List UInt8) (hl : s.length ≤ 1099511627776) (w : World) :
    Cal Try.prog 10 #[str s] w fun v w' => w'.ownsRow w.heap.size 33 3 v (Sp.rtokens s).length ((Sp.rtokens s).flatMap encTok) ∧ Kept [] w w' := by
  refine enter (N := 120) Try.func10 rfl [(0, str s)] args1 rfl ?_
  repeat' (first
    | refine op_move (by rfl) (by rfl) (by rfl) ?_
    | refine op_assign (by rfl) (by rfl) (by rfl) ?_
    | refine op_pick_true (by rfl) (by rfl) (by rfl) (by rfl) ?_
    | refine op_pick_false (by rfl) (by rfl) (by rfl) (by rfl) ?_
    | refine op_lss (by rfl) (by rfl) (by rfl) (by rfl) ?_
    | refine op_eql (by rfl) (by rfl) (by rfl) (by rfl) ?_
    | refine op_neq (by rfl) (by rfl) (by rfl) (by rfl) ?_
    | refine op_eql_str (by rfl) (by rfl) (by rfl) (by rfl) ?_
    | refine op_eql_bool (by rfl) (by rfl) (by rfl) (by rfl) ?_
    | refine op_eql_flat (by rfl) (by rfl) (by rfl) (by rfl) (by rfl) (by rfl) ?_
    | refine op_neq_str (by rfl) (by rfl) (by rfl) (by rfl) ?_
    | refine op_neq_bool (by rfl) (by rfl) (by rfl) (by rfl) ?_
    | refine op_neq_flat (by rfl) (by rfl) (by rfl) (by rfl) (by rfl) (by rfl) ?_
    | refine op_len_str (by rfl) (by rfl) (by rfl) ?_
    | refine op_len_slice (by rfl) (by rfl) (by rfl) ?_
    | refine op_add (by rfl) (by rfl) (by rfl) (by rfl) (by omega) ?_
    | refine op_sub (by rfl) (by rfl) (by rfl) (by rfl) (by omega) ?_
    | refine op_index_str (by rfl) (by rfl) (by rfl) (by rfl) (by omega) (by omega) ?_
    | refine op_slice_str (by rfl) (by rfl) (by rfl) (by rfl) (by rfl) (by omega) ?_
    | refine op_slice_from (by rfl) (by rfl) (by rfl) (by rfl) (by omega) ?_
    | refine op_slice_to (by rfl) (by rfl) (by rfl) (by rfl) (by omega) ?_
    | refine op_fieldAddr (by rfl) (by rfl) (by rfl) ?_
    | refine op_indexAddr (by rfl) (by rfl) (by rfl) (by rfl) (by omega) (by omega) ?_
    | refine op_load1 (by rfl) (by rfl) (by rfl) (by assumption) (by rfl) ?_
    | refine op_struct (by rfl) (by rfl) (by rfl) (by rfl) ?_
    | refine op_build (by rfl) (by rfl) (by rfl) (fun _ => (by rfl)) ?_
    | refine wl_skip (by rfl) (by rfl) (by rfl) ?_
    | (refine wl_split_dec (by rfl) (by rfl) (by rfl) (fun _ => ?_) (fun _ => ?_) <;> (try first | contradiction | (exfalso; omega)))
    | refine wl_split (by rfl) (by rfl) (by rfl) (fun _ => ?_) (fun _ => ?_)
    | refine wl_nil ?_
    | refine at_then_normal ?_
    | refine at_then_ret ?_
    | refine at_then_exit ?_
    | refine at_block_normal ?_
    | refine at_block_ret ?_
    | refine at_block_exit ?_
    | refine at_block_other (by rfl) ?_
    | refine wc_seq ?_
    | refine wc_region ?_
    | refine wc_block ?_
    | refine wc_skip ?_
    | refine wc_exit ?_
    | refine wc_ret ?_
    | refine at_ret1 (by rfl) (by rfl) ?_
    | refine wc_quiet (by kernel_rfl) ?_
    | (refine wq_nil ?_; intro _ hkq)
    | (refine wq_nil_tail ?_; intro _ hkq)
    | refine wc_cond_true (by rfl) ?_
    | refine wc_cond_false (by rfl) ?_
    | (refine wc_cond_dec (by rfl) (fun _ => ?_) (fun _ => ?_) <;> (try first | contradiction | (exfalso; omega)))
    | refine wc_cond (by rfl) (fun _ => ?_) (fun _ => ?_)
    | refine q_move (by rfl) (by rfl) (by rfl) ?_
    | refine q_assign (by rfl) (by rfl) (by rfl) ?_
    | refine q_pick_true (by rfl) (by rfl) (by rfl) (by rfl) ?_
    | refine q_pick_false (by rfl) (by rfl) (by rfl) (by rfl) ?_
    | refine q_lss (by rfl) (by rfl) (by rfl) (by rfl) ?_
    | refine q_eql (by rfl) (by rfl) (by rfl) (by rfl) ?_
    | refine q_neq (by rfl) (by rfl) (by rfl) (by rfl) ?_
    | refine q_eql_str (by rfl) (by rfl) (by rfl) (by rfl) ?_
    | refine q_eql_bool (by rfl) (by rfl) (by rfl) (by rfl) ?_
    | refine q_eql_flat (by rfl) (by rfl) (by rfl) (by rfl) (by rfl) (by rfl) ?_
    | refine q_neq_str (by rfl) (by rfl) (by rfl) (by rfl) ?_
    | refine q_neq_bool (by rfl) (by rfl) (by rfl) (by rfl) ?_
    | refine q_neq_flat (by rfl) (by rfl) (by rfl) (by rfl) (by rfl) (by rfl) ?_
    | refine q_len_str (by rfl) (by rfl) (by rfl) ?_
    | refine q_len_slice (by rfl) (by rfl) (by rfl) ?_
    | refine q_add (by rfl) (by rfl) (by rfl) (by rfl) (by omega) ?_
    | refine q_sub (by rfl) (by rfl) (by rfl) (by rfl) (by omega) ?_
    | refine q_index_str (by rfl) (by rfl) (by rfl) (by rfl) (by omega) (by omega) ?_
    | refine q_slice_str (by rfl) (by rfl) (by rfl) (by rfl) (by rfl) (by omega) ?_
    | refine q_slice_from (by rfl) (by rfl) (by rfl) (by rfl) (by omega) ?_
    | refine q_slice_to (by rfl) (by rfl) (by rfl) (by rfl) (by omega) ?_
    | refine q_fieldAddr (by rfl) (by rfl) (by rfl) ?_
    | refine q_indexAddr (by rfl) (by rfl) (by rfl) (by rfl) (by omega) (by omega) ?_
    | refine q_load1 (by rfl) (by rfl) (by rfl) (by assumption) (by rfl) ?_
    | refine q_struct (by rfl) (by rfl) (by rfl) (by rfl) ?_
    | refine q_build (by rfl) (by rfl) (by rfl) (fun _ => (by rfl)) ?_
    | refine wq_skip (by rfl) (by rfl) (by rfl) ?_
    | (refine wq_split_dec (by rfl) (by rfl) (by rfl) (fun _ => ?_) (fun _ => ?_) <;> (try first | contradiction | (exfalso; omega)))
    | refine wq_split (by rfl) (by rfl) (by rfl) (fun _ => ?_) (fun _ => ?_))
  refine wc_loop (fun x : RLoop => [(0, str s), (3, x.out), (4, .int .i64 (x.st : Int)), (9, .int .i64 (s.length : Int)), (10, .int .i64 (x.at_ : Int))])
    (fun x w' => x.at_ ≤ s.length ∧ x.acc.length ≤ x.at_ ∧ (x.st, x.acc) = Sp.rtoks s x.at_ ∧ ((x.st = 1 ∨ x.st = 2) → x.acc ≠ []) ∧ (∀ t ∈ x.acc, t.text.length ≤ x.at_) ∧
      w'.ownsRow w.heap.size 33 3 x.out x.acc.length (x.acc.flatMap encTok) ∧ Kept [] w w')
    (fun x => s.length - x.at_) ⟨0, 0, .slice none 0 0, []⟩ ⟨rfl, rfl, rfl, rfl, rfl, trivial⟩ ⟨by simp, by simp, by simp [Sp.rtoks], by simp, by simp, World.ownsRow_nil _ _ _ _, Kept.refl _ _⟩ ?_
  rintro ⟨k, st, out, acc⟩ w1 ⟨hk, hacc, heq, hst, htx, hown, hkept⟩
  dsimp only at hk hacc heq hst htx hown hkept ⊢
  have hC : (s.getD (k : Int).toNat 0) = s.getD k 0 := by simp
  repeat' (first
    | (refine wc_cut_block 2 (fun _ : Unit => [(0, str s), (3, out), (4, .int .i64 (st : Int)), (5, .int .i64 (k : Int)), (6, .int .u8 ((s.getD k 0).toNat : Int)), (9, .int .i64 (s.length : Int)), (10, .int .i64 (k : Int))]) (fun _ w' => w' = w1 ∧ ¬ (st = 9 ∧ (s.getD k 0).toNat ≠ 10) ∧ ¬ ((st = 1 ∧ Sp.isWord (s.getD k 0) = true) ∨ (st = 2 ∧ Sp.isDigit (s.getD k 0) = true))) ?_ ?_)
    | (refine wc_cut_reg 8 (fun _ : Unit => [(0, str s), (3, out), (4, .int .i64 (st : Int)), (5, .int .i64 (k : Int)), (6, .int .u8 ((s.getD k 0).toNat : Int)), (9, .int .i64 (s.length : Int)), (10, .int .i64 (k : Int)), (23, .bool (decide ((st = 1 ∧ Sp.isWord (s.getD k 0) = true) ∨ (st = 2 ∧ Sp.isDigit (s.getD k 0) = true))))]) (fun _ w' => w' = w1) ?_ ?_)
    | (refine op_call (by rfl) (by rfl) (by rfl) (by exact c_rletter _ _) ?_; rintro _ w1 ⟨rfl, rfl⟩)
    | (refine op_call (by rfl) (by rfl) (by rfl) (by exact c_rdigit _ _) ?_; rintro _ w1 ⟨rfl, rfl⟩)
    | (rintro ⟨⟩ w1 rfl)
    | refine op_move (by rfl) (by rfl) (by rfl) ?_
    | refine op_assign (by rfl) (by rfl) (by rfl) ?_
    | refine op_pick_true (by rfl) (by rfl) (by rfl) (by rfl) ?_
    | refine op_pick_false (by rfl) (by rfl) (by rfl) (by rfl) ?_
    | refine op_lss (by rfl) (by rfl) (by rfl) (by rfl) ?_
    | refine op_eql (by rfl) (by rfl) (by rfl) (by rfl) ?_
    | refine op_neq (by rfl) (by rfl) (by rfl) (by rfl) ?_
    | refine op_eql_str (by rfl) (by rfl) (by rfl) (by rfl) ?_
    | refine op_eql_bool (by rfl) (by rfl) (by rfl) (by rfl) ?_
    | refine op_eql_flat (by rfl) (by rfl) (by rfl) (by rfl) (by rfl) (by rfl) ?_
    | refine op_neq_str (by rfl) (by rfl) (by rfl) (by rfl) ?_
    | refine op_neq_bool (by rfl) (by rfl) (by rfl) (by rfl) ?_
    | refine op_neq_flat (by rfl) (by rfl) (by rfl) (by rfl) (by rfl) (by rfl) ?_
    | refine op_len_str (by rfl) (by rfl) (by rfl) ?_
    | refine op_len_slice (by rfl) (by rfl) (by rfl) ?_
    | refine op_add (by rfl) (by rfl) (by rfl) (by rfl) (by omega) ?_
    | refine op_sub (by rfl) (by rfl) (by rfl) (by rfl) (by omega) ?_
    | refine op_index_str (by rfl) (by rfl) (by rfl) (by rfl) (by omega) (by omega) ?_
    | refine op_slice_str (by rfl) (by rfl) (by rfl) (by rfl) (by rfl) (by omega) ?_
    | refine op_slice_from (by rfl) (by rfl) (by rfl) (by rfl) (by omega) ?_
    | refine op_slice_to (by rfl) (by rfl) (by rfl) (by rfl) (by omega) ?_
    | refine op_fieldAddr (by rfl) (by rfl) (by rfl) ?_
    | refine op_indexAddr (by rfl) (by rfl) (by rfl) (by rfl) (by omega) (by omega) ?_
    | refine op_load1 (by rfl) (by rfl) (by rfl) (by assumption) (by rfl) ?_
    | refine op_struct (by rfl) (by rfl) (by rfl) (by rfl) ?_
    | refine op_build (by rfl) (by rfl) (by rfl) (fun _ => (by rfl)) ?_
    | refine wl_skip (by rfl) (by rfl) (by rfl) ?_
    | (refine wl_split_dec (by rfl) (by rfl) (by rfl) (fun _ => ?_) (fun _ => ?_) <;> (try first | contradiction | (exfalso; omega)))
    | refine wl_split (by rfl) (by rfl) (by rfl) (fun _ => ?_) (fun _ => ?_)
    | refine wl_nil ?_
    | refine at_then_normal ?_
    | refine at_then_ret ?_
    | refine at_then_exit ?_
    | refine at_block_normal ?_
    | refine at_block_ret ?_
    | refine at_block_exit ?_
    | refine at_block_other (by rfl) ?_
    | refine wc_seq ?_
    | refine wc_region ?_
    | refine wc_block ?_
    | refine wc_skip ?_
    | refine wc_exit ?_
    | refine wc_ret ?_
    | refine at_ret1 (by rfl) (by rfl) ?_
    | refine wc_quiet (by kernel_rfl) ?_
    | (refine wq_nil ?_; intro _ hkq)
    | (refine wq_nil_tail ?_; intro _ hkq)
    | refine wc_cond_true (by rfl) ?_
    | refine wc_cond_false (by rfl) ?_
    | (refine wc_cond_dec (by rfl) (fun _ => ?_) (fun _ => ?_) <;> (try first | contradiction | (exfalso; omega)))
    | refine wc_cond (by rfl) (fun _ => ?_) (fun _ => ?_)
    | refine q_move (by rfl) (by rfl) (by rfl) ?_
    | refine q_assign (by rfl) (by rfl) (by rfl) ?_
    | refine q_pick_true (by rfl) (by rfl) (by rfl) (by rfl) ?_
    | refine q_pick_false (by rfl) (by rfl) (by rfl) (by rfl) ?_
    | refine q_lss (by rfl) (by rfl) (by rfl) (by rfl) ?_
    | refine q_eql (by rfl) (by rfl) (by rfl) (by rfl) ?_
    | refine q_neq (by rfl) (by rfl) (by rfl) (by rfl) ?_
    | refine q_eql_str (by rfl) (by rfl) (by rfl) (by rfl) ?_
    | refine q_eql_bool (by rfl) (by rfl) (by rfl) (by rfl) ?_
    | refine q_eql_flat (by rfl) (by rfl) (by rfl) (by rfl) (by rfl) (by rfl) ?_
    | refine q_neq_str (by rfl) (by rfl) (by rfl) (by rfl) ?_
    | refine q_neq_bool (by rfl) (by rfl) (by rfl) (by rfl) ?_
    | refine q_neq_flat (by rfl) (by rfl) (by rfl) (by rfl) (by rfl) (by rfl) ?_
    | refine q_len_str (by rfl) (by rfl) (by rfl) ?_
    | refine q_len_slice (by rfl) (by rfl) (by rfl) ?_
    | refine q_add (by rfl) (by rfl) (by rfl) (by rfl) (by omega) ?_
    | refine q_sub (by rfl) (by rfl) (by rfl) (by rfl) (by omega) ?_
    | refine q_index_str (by rfl) (by rfl) (by rfl) (by rfl) (by omega) (by omega) ?_
    | refine q_slice_str (by rfl) (by rfl) (by rfl) (by rfl) (by rfl) (by omega) ?_
    | refine q_slice_from (by rfl) (by rfl) (by rfl) (by rfl) (by omega) ?_
    | refine q_slice_to (by rfl) (by rfl) (by rfl) (by rfl) (by omega) ?_
    | refine q_fieldAddr (by rfl) (by rfl) (by rfl) ?_
    | refine q_indexAddr (by rfl) (by rfl) (by rfl) (by rfl) (by omega) (by omega) ?_
    | refine q_load1 (by rfl) (by rfl) (by rfl) (by assumption) (by rfl) ?_
    | refine q_struct (by rfl) (by rfl) (by rfl) (by rfl) ?_
    | refine q_build (by rfl) (by rfl) (by rfl) (fun _ => (by rfl)) ?_
    | refine wq_skip (by rfl) (by rfl) (by rfl) ?_
    | (refine wq_split_dec (by rfl) (by rfl) (by rfl) (fun _ => ?_) (fun _ => ?_) <;> (try first | contradiction | (exfalso; omega)))
    | refine wq_split (by rfl) (by rfl) (by rfl) (fun _ => ?_) (fun _ => ?_))
  · rename_i h1 h2 h3
    refine at_round (⟨k + 1, st, out, acc⟩ : RLoop) (by exact ⟨rfl, rfl, rfl, rfl, rfl, trivial⟩) ?_ (by dsimp only; omega)
    have : Sp.rtoks s (k + 1) = (st, acc) := by
      rw [Sp.rtoks, ← heq, Sp.rstep, if_pos ⟨by dsimp only; omega, by simp only [hC] at h3; omega⟩]
    exact ⟨by dsimp only; omega, by dsimp only; omega, this.symm, hst, fun t ht => Nat.le_succ_of_le (htx t ht), hown, hkept⟩
  · refine at_cut () ⟨rfl, rfl, rfl, rfl, rfl, rfl, rfl, ?_, trivial⟩ rfl
    refine congrArg (fun b => some (Value.bool b)) ?_
    rw [Bool.eq_iff_iff]; simp only [hC] at *; generalize s.getD k 0 = c at *
    cases hq : Sp.isLetter c <;> cases hq' : Sp.isDigit c <;> simp_all [Sp.isWord] <;> omega
  · rename_i h1 h2 h3 h4
    exact at_cut () ⟨rfl, rfl, rfl, rfl, rfl, rfl, rfl, trivial⟩ ⟨rfl, by rw [hC] at h3; omega, h4⟩
  · refine at_cut () ⟨rfl, rfl, rfl, rfl, rfl, rfl, rfl, ?_, trivial⟩ rfl
    refine congrArg (fun b => some (Value.bool b)) ?_
    rw [Bool.eq_iff_iff]; simp only [hC] at *; generalize s.getD k 0 = c at *
    cases hq : Sp.isLetter c <;> cases hq' : Sp.isDigit c <;> simp_all [Sp.isWord] <;> omega
  · refine at_cut () ⟨rfl, rfl, rfl, rfl, rfl, rfl, rfl, ?_, trivial⟩ rfl
    refine congrArg (fun b => some (Value.bool b)) ?_
    rw [Bool.eq_iff_iff]; simp only [hC] at *; generalize s.getD k 0 = c at *
    cases hq : Sp.isLetter c <;> cases hq' : Sp.isDigit c <;> simp_all [Sp.isWord] <;> omega
  · refine at_cut () ⟨rfl, rfl, rfl, rfl, rfl, rfl, rfl, ?_, trivial⟩ rfl
    refine congrArg (fun b => some (Value.bool b)) ?_
    rw [Bool.eq_iff_iff]; simp only [hC] at *; generalize s.getD k 0 = c at *
    cases hq : Sp.isLetter c <;> cases hq' : Sp.isDigit c <;> simp_all [Sp.isWord] <;> omega
  · refine at_cut () ⟨rfl, rfl, rfl, rfl, rfl, rfl, rfl, ?_, trivial⟩ rfl
    refine congrArg (fun b => some (Value.bool b)) ?_
    rw [Bool.eq_iff_iff]; simp only [hC] at *; generalize s.getD k 0 = c at *
    cases hq : Sp.isLetter c <;> cases hq' : Sp.isDigit c <;> simp_all [Sp.isWord] <;> omega
  · refine at_cut () ⟨rfl, rfl, rfl, rfl, rfl, rfl, rfl, ?_, trivial⟩ rfl
    refine congrArg (fun b => some (Value.bool b)) ?_
    rw [Bool.eq_iff_iff]; simp only [hC] at *; generalize s.getD k 0 = c at *
    cases hq : Sp.isLetter c <;> cases hq' : Sp.isDigit c <;> simp_all [Sp.isWord] <;> omega
  · rename_i h1 h2 h3
    have hne : acc ≠ [] := hst (by omega)
    obtain ⟨l0, t, rfl⟩ : ∃ l0 t, acc = l0 ++ [t] := ⟨acc.dropLast, acc.getLast hne, (List.dropLast_concat_getLast hne).symm⟩
    obtain ⟨g, cap, cur, rfl, hbg, hg, hcap, hcur, hsz⟩ := own_open hown (by simp)
    have hlen : (l0 ++ [t]).length = l0.length + 1 := by simp
    have hc1 : cur[l0.length * 3 + 1]? = some (str t.text) := hcur _ _ (by
      rw [List.flatMap_append, List.getElem?_append_right (by rw [encTok_len]; omega), encTok_len, show l0.length * 3 + 1 - l0.length * 3 = 1 by omega]; rfl)
    have htl : t.text.length ≤ k := htx t (by simp)
    have hsz2 : l0.length * 3 + 3 ≤ cur.size := by rw [hsz]; omega
    repeat' (first
      | (refine wc_quiet_tail 15 (by kernel_rfl) ?_)
      | (refine q_load1 (by rfl) (by rfl) (by rfl) hg (by exact (congrArg (fun i => cur[i]?) (by omega)).trans hc1) ?_)
      | (refine q_add_str (by rfl) (by rfl) (by rfl) (by rfl) (by simp only [List.length_take, List.length_drop]; omega) ?_)
      | (refine op_store (by rfl) (by rfl) (by rfl) (by rfl) (by exact hkq.get0 hg) (by rfl) (by omega) (by rfl) ?_; intro w3 hb3 hk3)
      | refine op_move (by rfl) (by rfl) (by rfl) ?_
      | refine op_assign (by rfl) (by rfl) (by rfl) ?_
      | refine op_pick_true (by rfl) (by rfl) (by rfl) (by rfl) ?_
      | refine op_pick_false (by rfl) (by rfl) (by rfl) (by rfl) ?_
      | refine op_lss (by rfl) (by rfl) (by rfl) (by rfl) ?_
      | refine op_eql (by rfl) (by rfl) (by rfl) (by rfl) ?_
      | refine op_neq (by rfl) (by rfl) (by rfl) (by rfl) ?_
      | refine op_eql_str (by rfl) (by rfl) (by rfl) (by rfl) ?_
      | refine op_eql_bool (by rfl) (by rfl) (by rfl) (by rfl) ?_
      | refine op_eql_flat (by rfl) (by rfl) (by rfl) (by rfl) (by rfl) (by rfl) ?_
      | refine op_neq_str (by rfl) (by rfl) (by rfl) (by rfl) ?_
      | refine op_neq_bool (by rfl) (by rfl) (by rfl) (by rfl) ?_
      | refine op_neq_flat (by rfl) (by rfl) (by rfl) (by rfl) (by rfl) (by rfl) ?_
      | refine op_len_str (by rfl) (by rfl) (by rfl) ?_
      | refine op_len_slice (by rfl) (by rfl) (by rfl) ?_
      | refine op_add (by rfl) (by rfl) (by rfl) (by rfl) (by omega) ?_
      | refine op_sub (by rfl) (by rfl) (by rfl) (by rfl) (by omega) ?_
      | refine op_index_str (by rfl) (by rfl) (by rfl) (by rfl) (by omega) (by omega) ?_
      | refine op_slice_str (by rfl) (by rfl) (by rfl) (by rfl) (by rfl) (by omega) ?_
      | refine op_slice_from (by rfl) (by rfl) (by rfl) (by rfl) (by omega) ?_
      | refine op_slice_to (by rfl) (by rfl) (by rfl) (by rfl) (by omega) ?_
      | refine op_fieldAddr (by rfl) (by rfl) (by rfl) ?_
      | refine op_indexAddr (by rfl) (by rfl) (by rfl) (by rfl) (by omega) (by omega) ?_
      | refine op_load1 (by rfl) (by rfl) (by rfl) (by assumption) (by rfl) ?_
      | refine op_struct (by rfl) (by rfl) (by rfl) (by rfl) ?_
      | refine op_build (by rfl) (by rfl) (by rfl) (fun _ => (by rfl)) ?_
      | refine wl_skip (by rfl) (by rfl) (by rfl) ?_
      | (refine wl_split_dec (by rfl) (by rfl) (by rfl) (fun _ => ?_) (fun _ => ?_) <;> (try first | contradiction | (exfalso; omega)))
      | refine wl_split (by rfl) (by rfl) (by rfl) (fun _ => ?_) (fun _ => ?_)
      | refine wl_nil ?_
      | refine at_then_normal ?_
      | refine at_then_ret ?_
      | refine at_then_exit ?_
      | refine at_block_normal ?_
      | refine at_block_ret ?_
      | refine at_block_exit ?_
      | refine at_block_other (by rfl) ?_
      | refine wc_seq ?_
      | refine wc_region ?_
      | refine wc_block ?_
      | refine wc_skip ?_
      | refine wc_exit ?_
      | refine wc_ret ?_
      | refine at_ret1 (by rfl) (by rfl) ?_
      | refine wc_quiet (by kernel_rfl) ?_
      | (refine wq_nil ?_; intro _ hkq)
      | (refine wq_nil_tail ?_; intro _ hkq)
      | refine wc_cond_true (by rfl) ?_
      | refine wc_cond_false (by rfl) ?_
      | (refine wc_cond_dec (by rfl) (fun _ => ?_) (fun _ => ?_) <;> (try first | contradiction | (exfalso; omega)))
      | refine wc_cond (by rfl) (fun _ => ?_) (fun _ => ?_)
      | refine q_move (by rfl) (by rfl) (by rfl) ?_
      | refine q_assign (by rfl) (by rfl) (by rfl) ?_
      | refine q_pick_true (by rfl) (by rfl) (by rfl) (by rfl) ?_
      | refine q_pick_false (by rfl) (by rfl) (by rfl) (by rfl) ?_
      | refine q_lss (by rfl) (by rfl) (by rfl) (by rfl) ?_
      | refine q_eql (by rfl) (by rfl) (by rfl) (by rfl) ?_
      | refine q_neq (by rfl) (by rfl) (by rfl) (by rfl) ?_
      | refine q_eql_str (by rfl) (by rfl) (by rfl) (by rfl) ?_
      | refine q_eql_bool (by rfl) (by rfl) (by rfl) (by rfl) ?_
      | refine q_eql_flat (by rfl) (by rfl) (by rfl) (by rfl) (by rfl) (by rfl) ?_
      | refine q_neq_str (by rfl) (by rfl) (by rfl) (by rfl) ?_
      | refine q_neq_bool (by rfl) (by rfl) (by rfl) (by rfl) ?_
      | refine q_neq_flat (by rfl) (by rfl) (by rfl) (by rfl) (by rfl) (by rfl) ?_
      | refine q_len_str (by rfl) (by rfl) (by rfl) ?_
      | refine q_len_slice (by rfl) (by rfl) (by rfl) ?_
      | refine q_add (by rfl) (by rfl) (by rfl) (by rfl) (by omega) ?_
      | refine q_sub (by rfl) (by rfl) (by rfl) (by rfl) (by omega) ?_
      | refine q_index_str (by rfl) (by rfl) (by rfl) (by rfl) (by omega) (by omega) ?_
      | refine q_slice_str (by rfl) (by rfl) (by rfl) (by rfl) (by rfl) (by omega) ?_
      | refine q_slice_from (by rfl) (by rfl) (by rfl) (by rfl) (by omega) ?_
      | refine q_slice_to (by rfl) (by rfl) (by rfl) (by rfl) (by omega) ?_
      | refine q_fieldAddr (by rfl) (by rfl) (by rfl) ?_
      | refine q_indexAddr (by rfl) (by rfl) (by rfl) (by rfl) (by omega) (by omega) ?_
      | refine q_load1 (by rfl) (by rfl) (by rfl) (by assumption) (by rfl) ?_
      | refine q_struct (by rfl) (by rfl) (by rfl) (by rfl) ?_
      | refine q_build (by rfl) (by rfl) (by rfl) (fun _ => (by rfl)) ?_
      | refine wq_skip (by rfl) (by rfl) (by rfl) ?_
      | (refine wq_split_dec (by rfl) (by rfl) (by rfl) (fun _ => ?_) (fun _ => ?_) <;> (try first | contradiction | (exfalso; omega)))
      | refine wq_split (by rfl) (by rfl) (by rfl) (fun _ => ?_) (fun _ => ?_))
    rename_i w2
    have hoff : 0 + (((l0 ++ [t]).length : Int) - 1).toNat * 3 + 1 = l0.length * 3 + 1 := by omega
    have hch : (s.drop (k : Int).toNat).take (((k : Int) + 1).toNat - (k : Int).toNat) = [s.getD k 0] := by
      rw [show ((k : Int) + 1).toNat - (k : Int).toNat = 1 by omega, Int.toNat_natCast]
      exact Sp.take_one s k (by omega)
    rw [hoff, hch] at hb3
    have hst2 := own_set (hkq.own hown (by simp)) (hkq.get0 hg) hb3 (by omega)
    rw [enc_addLast] at hst2
    have hal : Sp.addLast (l0 ++ [t]) (s.getD k 0) = l0 ++ [⟨t.kind, t.text ++ [s.getD k 0], t.pos⟩] := by simp [Sp.addLast]
    have hrt : Sp.rtoks s (k + 1) = (st, Sp.addLast (l0 ++ [t]) (s.getD k 0)) := by
      rw [Sp.rtoks, ← heq, Sp.rstep, if_neg (by dsimp only; omega), if_pos h3]
    refine at_round (⟨k + 1, st, _, Sp.addLast (l0 ++ [t]) (s.getD k 0)⟩ : RLoop) (by exact ⟨rfl, rfl, rfl, rfl, rfl, trivial⟩) ?_ (by dsimp only; omega)
    refine ⟨by dsimp only; omega, ?_, hrt.symm, ?_, ?_, ?_, ?_⟩
    · rw [hal]; simp at hacc ⊢; omega
    · rw [hal]; simp
    · rw [hal]
      intro u hu
      rcases List.mem_append.1 hu with h | h
      · exact Nat.le_succ_of_le (htx u (by simp [h]))
      · simp at h; subst h; simp; exact htl
    · have : (Sp.addLast (l0 ++ [t]) (s.getD k 0)).length = (l0 ++ [t]).length := by rw [hal]; simp
      rw [this]; exact hst2
    · exact (hkept.step0 hkq).step hk3 (fun x hx => .inr (by simp at hx; subst hx; exact hbg))
  · rename_i h1 h2 h3
    exact at_cut () ⟨rfl, rfl, rfl, rfl, rfl, rfl, rfl, trivial⟩ ⟨rfl, by omega, h3⟩
  · rintro ⟨⟩ w1' ⟨rfl, h2, h3⟩
    rename_i h1
    have hch : (s.drop (k : Int).toNat).take (((k : Int) + 1).toNat - (k : Int).toNat) = [s.getD k 0] := by
      rw [show ((k : Int) + 1).toNat - (k : Int).toNat = 1 by omega, Int.toNat_natCast]
      exact Sp.take_one s k (by omega)
    repeat' (first
      | (refine wc_cut_block 3 (fun x : RLoop => [(0, str s), (3, x.out), (4, .int .i64 (x.st : Int)), (5, .int .i64 (k : Int)), (6, .int .u8 ((s.getD k 0).toNat : Int)), (9, .int .i64 (s.length : Int)), (10, .int .i64 (k : Int))]) (fun x w' => ((Sp.rcls (s.getD k 0) = 3 ∨ Sp.rcls (s.getD k 0) = 4) → x.st = 0 ∧ x.acc = acc ++ [⟨Sp.rcls (s.getD k 0), [s.getD k 0], k⟩]) ∧ (¬ (Sp.rcls (s.getD k 0) = 3 ∨ Sp.rcls (s.getD k 0) = 4) → x.st = Sp.rcls (s.getD k 0) ∧ x.acc = acc) ∧ w'.ownsRow w.heap.size 33 3 x.out x.acc.length (x.acc.flatMap encTok) ∧ Kept [] w w') ?_ ?_)
      | (refine op_call (by rfl) (by rfl) (by rfl) (by exact c_rletter _ _) ?_; rintro _ w1 ⟨rfl, rfl⟩)
      | (refine op_call (by rfl) (by rfl) (by rfl) (by exact c_rdigit _ _) ?_; rintro _ w1 ⟨rfl, rfl⟩)
      | (refine op_call (by rfl) (by rfl) (by rfl) (by exact c_rsign _ _) ?_; rintro _ w1 ⟨rfl, rfl⟩)
      | (refine op_append1 (by rfl) (by rfl) (by rfl) (by rfl) (by rfl) hown (by rfl) (by rfl) (by omega) (by omega) (by omega) (by have := hkept.size; omega) ?_; intro v3 w3 hown3 hk3 hb3)
      | refine op_move (by rfl) (by rfl) (by rfl) ?_
      | refine op_assign (by rfl) (by rfl) (by rfl) ?_
      | refine op_pick_true (by rfl) (by rfl) (by rfl) (by rfl) ?_
      | refine op_pick_false (by rfl) (by rfl) (by rfl) (by rfl) ?_
      | refine op_lss (by rfl) (by rfl) (by rfl) (by rfl) ?_
      | refine op_eql (by rfl) (by rfl) (by rfl) (by rfl) ?_
      | refine op_neq (by rfl) (by rfl) (by rfl) (by rfl) ?_
      | refine op_eql_str (by rfl) (by rfl) (by rfl) (by rfl) ?_
      | refine op_eql_bool (by rfl) (by rfl) (by rfl) (by rfl) ?_
      | refine op_eql_flat (by rfl) (by rfl) (by rfl) (by rfl) (by rfl) (by rfl) ?_
      | refine op_neq_str (by rfl) (by rfl) (by rfl) (by rfl) ?_
      | refine op_neq_bool (by rfl) (by rfl) (by rfl) (by rfl) ?_
      | refine op_neq_flat (by rfl) (by rfl) (by rfl) (by rfl) (by rfl) (by rfl) ?_
      | refine op_len_str (by rfl) (by rfl) (by rfl) ?_
      | refine op_len_slice (by rfl) (by rfl) (by rfl) ?_
      | refine op_add (by rfl) (by rfl) (by rfl) (by rfl) (by omega) ?_
      | refine op_sub (by rfl) (by rfl) (by rfl) (by rfl) (by omega) ?_
      | refine op_index_str (by rfl) (by rfl) (by rfl) (by rfl) (by omega) (by omega) ?_
      | refine op_slice_str (by rfl) (by rfl) (by rfl) (by rfl) (by rfl) (by omega) ?_
      | refine op_slice_from (by rfl) (by rfl) (by rfl) (by rfl) (by omega) ?_
      | refine op_slice_to (by rfl) (by rfl) (by rfl) (by rfl) (by omega) ?_
      | refine op_fieldAddr (by rfl) (by rfl) (by rfl) ?_
      | refine op_indexAddr (by rfl) (by rfl) (by rfl) (by rfl) (by omega) (by omega) ?_
      | refine op_load1 (by rfl) (by rfl) (by rfl) (by assumption) (by rfl) ?_
      | refine op_struct (by rfl) (by rfl) (by rfl) (by rfl) ?_
      | refine op_build (by rfl) (by rfl) (by rfl) (fun _ => (by rfl)) ?_
      | refine wl_skip (by rfl) (by rfl) (by rfl) ?_
      | (refine wl_split_dec (by rfl) (by rfl) (by rfl) (fun _ => ?_) (fun _ => ?_) <;> (try first | contradiction | (exfalso; omega)))
      | refine wl_split (by rfl) (by rfl) (by rfl) (fun _ => ?_) (fun _ => ?_)
      | refine wl_nil ?_
      | refine at_then_normal ?_
      | refine at_then_ret ?_
      | refine at_then_exit ?_
      | refine at_block_normal ?_
      | refine at_block_ret ?_
      | refine at_block_exit ?_
      | refine at_block_other (by rfl) ?_
      | refine wc_seq ?_
      | refine wc_region ?_
      | refine wc_block ?_
      | refine wc_skip ?_
      | refine wc_exit ?_
      | refine wc_ret ?_
      | refine at_ret1 (by rfl) (by rfl) ?_
      | refine wc_quiet (by kernel_rfl) ?_
      | (refine wq_nil ?_; intro _ hkq)
      | (refine wq_nil_tail ?_; intro _ hkq)
      | refine wc_cond_true (by rfl) ?_
      | refine wc_cond_false (by rfl) ?_
      | (refine wc_cond_dec (by rfl) (fun _ => ?_) (fun _ => ?_) <;> (try first | contradiction | (exfalso; omega)))
      | refine wc_cond (by rfl) (fun _ => ?_) (fun _ => ?_)
      | refine q_move (by rfl) (by rfl) (by rfl) ?_
      | refine q_assign (by rfl) (by rfl) (by rfl) ?_
      | refine q_pick_true (by rfl) (by rfl) (by rfl) (by rfl) ?_
      | refine q_pick_false (by rfl) (by rfl) (by rfl) (by rfl) ?_
      | refine q_lss (by rfl) (by rfl) (by rfl) (by rfl) ?_
      | refine q_eql (by rfl) (by rfl) (by rfl) (by rfl) ?_
      | refine q_neq (by rfl) (by rfl) (by rfl) (by rfl) ?_
      | refine q_eql_str (by rfl) (by rfl) (by rfl) (by rfl) ?_
      | refine q_eql_bool (by rfl) (by rfl) (by rfl) (by rfl) ?_
      | refine q_eql_flat (by rfl) (by rfl) (by rfl) (by rfl) (by rfl) (by rfl) ?_
      | refine q_neq_str (by rfl) (by rfl) (by rfl) (by rfl) ?_
      | refine q_neq_bool (by rfl) (by rfl) (by rfl) (by rfl) ?_
      | refine q_neq_flat (by rfl) (by rfl) (by rfl) (by rfl) (by rfl) (by rfl) ?_
      | refine q_len_str (by rfl) (by rfl) (by rfl) ?_
      | refine q_len_slice (by rfl) (by rfl) (by rfl) ?_
      | refine q_add (by rfl) (by rfl) (by rfl) (by rfl) (by omega) ?_
      | refine q_sub (by rfl) (by rfl) (by rfl) (by rfl) (by omega) ?_
      | refine q_index_str (by rfl) (by rfl) (by rfl) (by rfl) (by omega) (by omega) ?_
      | refine q_slice_str (by rfl) (by rfl) (by rfl) (by rfl) (by rfl) (by omega) ?_
      | refine q_slice_from (by rfl) (by rfl) (by rfl) (by rfl) (by omega) ?_
      | refine q_slice_to (by rfl) (by rfl) (by rfl) (by rfl) (by omega) ?_
      | refine q_fieldAddr (by rfl) (by rfl) (by rfl) ?_
      | refine q_indexAddr (by rfl) (by rfl) (by rfl) (by rfl) (by omega) (by omega) ?_
      | refine q_load1 (by rfl) (by rfl) (by rfl) (by assumption) (by rfl) ?_
      | refine q_struct (by rfl) (by rfl) (by rfl) (by rfl) ?_
      | refine q_build (by rfl) (by rfl) (by rfl) (fun _ => (by rfl)) ?_
      | refine wq_skip (by rfl) (by rfl) (by rfl) ?_
      | (refine wq_split_dec (by rfl) (by rfl) (by rfl) (fun _ => ?_) (fun _ => ?_) <;> (try first | contradiction | (exfalso; omega)))
      | refine wq_split (by rfl) (by rfl) (by rfl) (fun _ => ?_) (fun _ => ?_))
    · rename_i g0
      have hr : Sp.rcls (s.getD k 0) = 0 := by simp only [Sp.rcls]; rw [if_pos (by simp only [Sp.isBlank, Bool.or_eq_true, decide_eq_true_eq]; omega)]
      exact at_cut (⟨k, 0, out, acc⟩ : RLoop) ⟨rfl, rfl, rfl, rfl, rfl, rfl, rfl, trivial⟩ ⟨fun h => by omega, fun _ => ⟨hr.symm, rfl⟩, hown, hkept⟩
    · rename_i g0 g1
      have hr : Sp.rcls (s.getD k 0) = 0 := by simp only [Sp.rcls]; rw [if_pos (by simp only [Sp.isBlank, Bool.or_eq_true, decide_eq_true_eq]; omega)]
      exact at_cut (⟨k, 0, out, acc⟩ : RLoop) ⟨rfl, rfl, rfl, rfl, rfl, rfl, rfl, trivial⟩ ⟨fun h => by omega, fun _ => ⟨hr.symm, rfl⟩, hown, hkept⟩
    · rename_i g0 g1 g2
      have hr : Sp.rcls (s.getD k 0) = 0 := by simp only [Sp.rcls]; rw [if_pos (by simp only [Sp.isBlank, Bool.or_eq_true, decide_eq_true_eq]; omega)]
      exact at_cut (⟨k, 0, out, acc⟩ : RLoop) ⟨rfl, rfl, rfl, rfl, rfl, rfl, rfl, trivial⟩ ⟨fun h => by omega, fun _ => ⟨hr.symm, rfl⟩, hown, hkept⟩
    · rename_i g1 g2 g3 g4
      have hr : Sp.rcls (s.getD k 0) = 9 := by simp only [Sp.rcls]; rw [if_neg (by simp only [Sp.isBlank, Bool.or_eq_true, decide_eq_true_eq]; omega), if_pos (by omega)]
      exact at_cut (⟨k, 9, out, acc⟩ : RLoop) ⟨rfl, rfl, rfl, rfl, rfl, rfl, rfl, trivial⟩ ⟨fun h => by omega, fun _ => ⟨hr.symm, rfl⟩, hown, hkept⟩
    · rename_i g1 g2 g3 g4 g5
      have hr : Sp.rcls (s.getD k 0) = 1 := by simp only [Sp.rcls]; rw [if_neg (by simp only [Sp.isBlank, Bool.or_eq_true, decide_eq_true_eq]; omega), if_neg (by omega), if_pos g5]
      exact at_cut (⟨k, 1, out, acc⟩ : RLoop) ⟨rfl, rfl, rfl, rfl, rfl, rfl, rfl, trivial⟩ ⟨fun h => by omega, fun _ => ⟨hr.symm, rfl⟩, hown, hkept⟩
    · rename_i g1 g2 g3 g4 g5 g6
      have hr : Sp.rcls (s.getD k 0) = 2 := by simp only [Sp.rcls]; rw [if_neg (by simp only [Sp.isBlank, Bool.or_eq_true, decide_eq_true_eq]; omega), if_neg (by omega), if_neg (by rw [g5]; simp), if_pos g6]
      exact at_cut (⟨k, 2, out, acc⟩ : RLoop) ⟨rfl, rfl, rfl, rfl, rfl, rfl, rfl, trivial⟩ ⟨fun h => by omega, fun _ => ⟨hr.symm, rfl⟩, hown, hkept⟩
    · rename_i g1 g2 g3 g4 g5 g6 g7
      have hr : Sp.rcls (s.getD k 0) = 3 := by simp only [Sp.rcls]; rw [if_neg (by simp only [Sp.isBlank, Bool.or_eq_true, decide_eq_true_eq]; omega), if_neg (by omega), if_neg (by rw [g5]; simp), if_neg (by rw [g6]; simp), if_pos g7]
      rw [hch] at hown3
      refine at_cut (⟨k, 0, v3, acc ++ [⟨Sp.rcls (s.getD k 0), [s.getD k 0], k⟩]⟩ : RLoop) ⟨rfl, rfl, rfl, rfl, rfl, rfl, rfl, trivial⟩ ⟨fun _ => ⟨rfl, rfl⟩, fun h => by omega, ?_, ?_⟩
      · rw [hr]; simpa [encTok, List.flatMap_append, Value.cells] using hown3
      · exact hkept.step hk3 (fun x hx => .inr (by
          cases ho : out.ownBlock with
          | none => simp [ho] at hx
          | some g => simp [ho] at hx; subst hx; exact (hown.lt _ ho).1))
    · rename_i g1 g2 g3 g4 g5 g6 g7
      have hr : Sp.rcls (s.getD k 0) = 4 := by simp only [Sp.rcls]; rw [if_neg (by simp only [Sp.isBlank, Bool.or_eq_true, decide_eq_true_eq]; omega), if_neg (by omega), if_neg (by rw [g5]; simp), if_neg (by rw [g6]; simp), if_neg (by rw [g7]; simp)]
      rw [hch] at hown3
      refine at_cut (⟨k, 0, v3, acc ++ [⟨Sp.rcls (s.getD k 0), [s.getD k 0], k⟩]⟩ : RLoop) ⟨rfl, rfl, rfl, rfl, rfl, rfl, rfl, trivial⟩ ⟨fun _ => ⟨rfl, rfl⟩, fun h => by omega, ?_, ?_⟩
      · rw [hr]; simpa [encTok, List.flatMap_append, Value.cells] using hown3
      · exact hkept.step hk3 (fun x hx => .inr (by
          cases ho : out.ownBlock with
          | none => simp [ho] at hx
          | some g => simp [ho] at hx; subst hx; exact (hown.lt _ ho).1))
    · rintro ⟨k', st', out', acc'⟩ w2 ⟨j1, j2, hown', hkept'⟩
      dsimp only at j1 j2 hown' ⊢
      have hlen : acc'.length ≤ k + 1 := by
        by_cases hc : Sp.rcls (s.getD k 0) = 3 ∨ Sp.rcls (s.getD k 0) = 4
        · rw [(j1 hc).2]; simp; omega
        · rw [(j2 hc).2]; omega
      have hlen2 : (st' = 1 ∨ st' = 2) → acc' = acc ∧ Sp.rcls (s.getD k 0) = st' := fun h => by
        by_cases hc : Sp.rcls (s.getD k 0) = 3 ∨ Sp.rcls (s.getD k 0) = 4
        · have := (j1 hc).1; omega
        · exact ⟨(j2 hc).2, (j2 hc).1.symm⟩
      have hrt : Sp.rtoks s (k + 1) = Sp.rstep (s.getD k 0) k (st, acc) := by rw [Sp.rtoks, ← heq]
      rw [Sp.rstep, if_neg h2, if_neg h3] at hrt
      repeat' (first
        | (refine op_append1 (by rfl) (by rfl) (by rfl) (by rfl) (by rfl) hown' (by rfl) (by rfl) (by omega) (by have := (hlen2 (by omega)).1; subst this; omega) (by omega) (by have := hkept'.size; omega) ?_; intro v3 w3 hown3 hk3 hb3)
        | refine op_move (by rfl) (by rfl) (by rfl) ?_
        | refine op_assign (by rfl) (by rfl) (by rfl) ?_
        | refine op_pick_true (by rfl) (by rfl) (by rfl) (by rfl) ?_
        | refine op_pick_false (by rfl) (by rfl) (by rfl) (by rfl) ?_
        | refine op_lss (by rfl) (by rfl) (by rfl) (by rfl) ?_
        | refine op_eql (by rfl) (by rfl) (by rfl) (by rfl) ?_
        | refine op_neq (by rfl) (by rfl) (by rfl) (by rfl) ?_
        | refine op_eql_str (by rfl) (by rfl) (by rfl) (by rfl) ?_
        | refine op_eql_bool (by rfl) (by rfl) (by rfl) (by rfl) ?_
        | refine op_eql_flat (by rfl) (by rfl) (by rfl) (by rfl) (by rfl) (by rfl) ?_
        | refine op_neq_str (by rfl) (by rfl) (by rfl) (by rfl) ?_
        | refine op_neq_bool (by rfl) (by rfl) (by rfl) (by rfl) ?_
        | refine op_neq_flat (by rfl) (by rfl) (by rfl) (by rfl) (by rfl) (by rfl) ?_
        | refine op_len_str (by rfl) (by rfl) (by rfl) ?_
        | refine op_len_slice (by rfl) (by rfl) (by rfl) ?_
        | refine op_add (by rfl) (by rfl) (by rfl) (by rfl) (by omega) ?_
        | refine op_sub (by rfl) (by rfl) (by rfl) (by rfl) (by omega) ?_
        | refine op_index_str (by rfl) (by rfl) (by rfl) (by rfl) (by omega) (by omega) ?_
        | refine op_slice_str (by rfl) (by rfl) (by rfl) (by rfl) (by rfl) (by omega) ?_
        | refine op_slice_from (by rfl) (by rfl) (by rfl) (by rfl) (by omega) ?_
        | refine op_slice_to (by rfl) (by rfl) (by rfl) (by rfl) (by omega) ?_
        | refine op_fieldAddr (by rfl) (by rfl) (by rfl) ?_
        | refine op_indexAddr (by rfl) (by rfl) (by rfl) (by rfl) (by omega) (by omega) ?_
        | refine op_load1 (by rfl) (by rfl) (by rfl) (by assumption) (by rfl) ?_
        | refine op_struct (by rfl) (by rfl) (by rfl) (by rfl) ?_
        | refine op_build (by rfl) (by rfl) (by rfl) (fun _ => (by rfl)) ?_
        | refine wl_skip (by rfl) (by rfl) (by rfl) ?_
        | (refine wl_split_dec (by rfl) (by rfl) (by rfl) (fun _ => ?_) (fun _ => ?_) <;> (try first | contradiction | (exfalso; omega)))
        | refine wl_split (by rfl) (by rfl) (by rfl) (fun _ => ?_) (fun _ => ?_)
        | refine wl_nil ?_
        | refine at_then_normal ?_
        | refine at_then_ret ?_
        | refine at_then_exit ?_
        | refine at_block_normal ?_
        | refine at_block_ret ?_
        | refine at_block_exit ?_
        | refine at_block_other (by rfl) ?_
        | refine wc_seq ?_
        | refine wc_region ?_
        | refine wc_block ?_
        | refine wc_skip ?_
        | refine wc_exit ?_
        | refine wc_ret ?_
        | refine at_ret1 (by rfl) (by rfl) ?_
        | refine wc_quiet (by kernel_rfl) ?_
        | (refine wq_nil ?_; intro _ hkq)
        | (refine wq_nil_tail ?_; intro _ hkq)
        | refine wc_cond_true (by rfl) ?_
        | refine wc_cond_false (by rfl) ?_
        | (refine wc_cond_dec (by rfl) (fun _ => ?_) (fun _ => ?_) <;> (try first | contradiction | (exfalso; omega)))
        | refine wc_cond (by rfl) (fun _ => ?_) (fun _ => ?_)
        | refine q_move (by rfl) (by rfl) (by rfl) ?_
        | refine q_assign (by rfl) (by rfl) (by rfl) ?_
        | refine q_pick_true (by rfl) (by rfl) (by rfl) (by rfl) ?_
        | refine q_pick_false (by rfl) (by rfl) (by rfl) (by rfl) ?_
        | refine q_lss (by rfl) (by rfl) (by rfl) (by rfl) ?_
        | refine q_eql (by rfl) (by rfl) (by rfl) (by rfl) ?_
        | refine q_neq (by rfl) (by rfl) (by rfl) (by rfl) ?_
        | refine q_eql_str (by rfl) (by rfl) (by rfl) (by rfl) ?_
        | refine q_eql_bool (by rfl) (by rfl) (by rfl) (by rfl) ?_
        | refine q_eql_flat (by rfl) (by rfl) (by rfl) (by rfl) (by rfl) (by rfl) ?_
        | refine q_neq_str (by rfl) (by rfl) (by rfl) (by rfl) ?_
        | refine q_neq_bool (by rfl) (by rfl) (by rfl) (by rfl) ?_
        | refine q_neq_flat (by rfl) (by rfl) (by rfl) (by rfl) (by rfl) (by rfl) ?_
        | refine q_len_str (by rfl) (by rfl) (by rfl) ?_
        | refine q_len_slice (by rfl) (by rfl) (by rfl) ?_
        | refine q_add (by rfl) (by rfl) (by rfl) (by rfl) (by omega) ?_
        | refine q_sub (by rfl) (by rfl) (by rfl) (by rfl) (by omega) ?_
        | refine q_index_str (by rfl) (by rfl) (by rfl) (by rfl) (by omega) (by omega) ?_
        | refine q_slice_str (by rfl) (by rfl) (by rfl) (by rfl) (by rfl) (by omega) ?_
        | refine q_slice_from (by rfl) (by rfl) (by rfl) (by rfl) (by omega) ?_
        | refine q_slice_to (by rfl) (by rfl) (by rfl) (by rfl) (by omega) ?_
        | refine q_fieldAddr (by rfl) (by rfl) (by rfl) ?_
        | refine q_indexAddr (by rfl) (by rfl) (by rfl) (by rfl) (by omega) (by omega) ?_
        | refine q_load1 (by rfl) (by rfl) (by rfl) (by assumption) (by rfl) ?_
        | refine q_struct (by rfl) (by rfl) (by rfl) (by rfl) ?_
        | refine q_build (by rfl) (by rfl) (by rfl) (fun _ => (by rfl)) ?_
        | refine wq_skip (by rfl) (by rfl) (by rfl) ?_
        | (refine wq_split_dec (by rfl) (by rfl) (by rfl) (fun _ => ?_) (fun _ => ?_) <;> (try first | contradiction | (exfalso; omega)))
        | refine wq_split (by rfl) (by rfl) (by rfl) (fun _ => ?_) (fun _ => ?_))
      iterate 2
        · rename_i hlast
          have h12 : st' = 1 ∨ st' = 2 := by omega
          obtain ⟨hae, hcl⟩ := hlen2 h12
          have hac' : acc'.length ≤ k := by rw [hae]; exact hacc
          rw [hch] at hown3
          rw [if_neg (by omega), if_pos (by omega), hcl] at hrt
          dsimp only at hrt
          rw [← hae] at hrt
          refine at_round (⟨k + 1, st', v3, acc' ++ [⟨st', [s.getD k 0], k⟩]⟩ : RLoop) (by exact ⟨rfl, rfl, rfl, rfl, rfl, trivial⟩) ?_ (by dsimp only; omega)
          refine ⟨by dsimp only; omega, by simp; omega, hrt.symm, fun _ => by simp, ?_, ?_, ?_⟩
          · intro u hu
            rcases List.mem_append.1 hu with h | h
            · exact Nat.le_succ_of_le (htx u (by rw [← hae]; exact h))
            · simp at h; subst h; simp
          · simpa [encTok, List.flatMap_append, Value.cells] using hown3
          · exact hkept'.step hk3 (fun x hx => .inr (by
              cases ho : out'.ownBlock with
              | none => simp [ho] at hx
              | some g => simp [ho] at hx; subst hx; exact (hown'.lt _ ho).1))
      · rename_i h5 h6
        have hout : Sp.rtoks s (k + 1) = (st', acc') := by
          rw [hrt]
          by_cases hc : Sp.rcls (s.getD k 0) = 3 ∨ Sp.rcls (s.getD k 0) = 4
          · obtain ⟨rfl, rfl⟩ := j1 hc
            rw [if_neg (by omega), if_neg (by omega)]
          · obtain ⟨rfl, rfl⟩ := j2 hc
            have hle : Sp.rcls (s.getD k 0) = 0 ∨ Sp.rcls (s.getD k 0) = 9 := by
              have : ∀ c, Sp.rcls c = 0 ∨ Sp.rcls c = 9 ∨ Sp.rcls c = 1 ∨ Sp.rcls c = 2 ∨ Sp.rcls c = 3 ∨ Sp.rcls c = 4 := fun c => by
                unfold Sp.rcls; repeat' split
                all_goals simp
              have := this (s.getD k 0)
              omega
            rw [if_pos hle]
        refine at_round (⟨k + 1, st', out', acc'⟩ : RLoop) (by exact ⟨rfl, rfl, rfl, rfl, rfl, trivial⟩) ?_ (by dsimp only; omega)
        refine ⟨by dsimp only; omega, hlen, hout.symm, fun h => by dsimp only at h; omega, ?_, hown', hkept'⟩
        intro u hu
        by_cases hc : Sp.rcls (s.getD k 0) = 3 ∨ Sp.rcls (s.getD k 0) = 4
        · rw [(j1 hc).2] at hu
          rcases List.mem_append.1 hu with h | h
          · exact Nat.le_succ_of_le (htx u h)
          · simp at h; subst h; simp
        · rw [(j2 hc).2] at hu
          exact Nat.le_succ_of_le (htx u hu)
  · have hk' : k = s.length := by omega
    subst hk'
    have : Sp.rtokens s = acc := by rw [Sp.rtokens, ← heq]
    rw [this]
    exact ⟨hown, hkept⟩
end Go.Proofs.Ythleggomainocaa
