/- Own work: the laws on labels: what their walks come to. -/
import Derived.Test.YtgoglhmnfiehoaaDoorLabel7
import Derived.Test.YtgoglhmnfiehoaaDoorLabel9
namespace Go.Sp
theorem parse_print (n : Nat) (h : n < 256) : parseL (printL n) = (n, 0) := by revert h; revert n; decide +kernel
theorem tags_add (a : Nat) (ha : a < 256) (q : Nat) (hq : q < 8) (h : bit a q = false) : (tagsOf (a + 2 ^ q)).length = (tagsOf a).length + 1 := by
  revert h; revert hq; revert q; revert ha; revert a; decide +kernel
theorem addTags_len : ∀ (l : List UInt8) (a n : Nat), l.all okTag = true → a < 256 → addTags l a = some n → (tagsOf n).length = (tagsOf a).length + l.length
  | [], a, n, _, h, e => by simp only [addTags, Option.some.injEq] at e; rw [e]; rfl
  | c :: l, a, n, hl, h, e => by
    simp only [List.all_cons, Bool.and_eq_true, okTag, decide_eq_true_eq] at hl
    obtain ⟨hc, hl⟩ := hl
    rw [addTags] at e
    split at e
    · cases e
    · rename_i hb
      have hb : bit a (c.toNat - 97) = false := by simpa using hb
      have h1 := addTags_len l _ n (by simpa [okTag] using hl) ((tag_bits a h (c.toNat - 97) (by omega)).2.1 hb).2 e
      rw [h1, tags_add a h _ (by omega) hb, List.length_cons]; omega
theorem commas_len_eq : ∀ (l : List UInt8), l ≠ [] → (commas l).length = 2 * l.length - 1
  | [], h => absurd rfl h
  | [c], _ => rfl
  | c :: d :: l, _ => by have := commas_len_eq (d :: l) (by simp); simp only [commas, List.length_cons] at this ⊢; omega
theorem print_len (n : Nat) : (printL n).length = if (tagsOf n).length = 0 then 2 else 2 * (tagsOf n).length + 1 := by
  rw [printL, List.length_cons, List.length_append]
  split
  · rename_i h
    rw [List.eq_nil_of_length_eq_zero h]; rfl
  · rename_i h
    rw [commas_len_eq _ (by intro e; rw [List.map_eq_nil_iff] at e; rw [e] at h; exact h rfl), List.length_map]
    simp only [List.length_cons, List.length_nil]; omega
theorem parse_len {s : List UInt8} (h : (parseL s).2 = 0) : (printL (parseL s).1).length = s.length := by
  rw [print_len]
  revert h
  rw [parseL]
  split
  · intro h; cases h
  · rename_i hg
    dsimp only
    have hml : ((s.drop 1).take (s.length - 1 - 1)).length = s.length - 2 := by rw [List.length_take, List.length_drop]; omega
    split
    · rename_i hm
      intro _
      rw [hm] at hml
      rw [if_pos (by decide)]
      simp at hml; omega
    · split
      · intro h; cases h
      · rename_i l hu
        obtain ⟨he, ho, _⟩ := uncommas_evens _ l hu
        have hel := evens_len ((s.drop 1).take (s.length - 1 - 1))
        rw [← he] at hel
        split
        · rename_i hl
          split
          · intro h; cases h
          · rename_i n hn
            intro _
            dsimp only
            have := addTags_len l 0 n hl (by omega) hn
            have h0 : (tagsOf 0).length = 0 := by decide
            rw [h0] at this
            rw [if_neg (by omega)]
            omega
        · intro h; cases h
theorem parse_bad {s : List UInt8} (h : (parseL s).2 ≠ 0) : (parseL s).1 = 0 := by
  revert h
  rw [parseL]
  split
  · intro _; rfl
  · dsimp only
    split
    · intro h; exact absurd rfl h
    · split
      · intro _; rfl
      · split
        · split
          · intro _; rfl
          · intro h; exact absurd rfl h
        · intro _; rfl
end Go.Sp
namespace Go.Proofs.YtgoglhmnfiehoaaDoor
open Go.Fw

theorem right_yes (a : Nat) (h : a < 256) (w : World) : Cal Tryd.prog 8 #[.int .i64 a] w fun v w' => v = .bool true ∧ w' = w := by
  have := c_right (a : Int) w
  rwa [decide_eq_true (by omega)] at this
theorem right_no (a : Int) (h : ¬ (0 ≤ a ∧ a ≤ 255)) (w : World) : Cal Tryd.prog 8 #[.int .i64 a] w fun v w' => v = .bool false ∧ w' = w := by
  have := c_right (a : Int) w
  rwa [decide_eq_false h] at this

set_option maxHeartbeats 1000000 in
theorem c_alive (w : World) (hM : MaxAt w) : Cal Tryd.prog 18 #[] w fun v w' => v = .bool true ∧ Kept [] w w' := by
  refine enter (N := 43) Tryd.func18 rfl [] args0 rfl ?_
  have hp : Cal Tryd.prog 6 #[str [123, 99, 44, 97, 125]] w fun v w' => v = .tuple #[.int .i64 5, .int .i64 0] ∧ Kept [] w w' := by
    have h := c_parse [123, 99, 44, 97, 125] (by decide) w hM
    have e : parseV [123, 99, 44, 97, 125] = .tuple #[.int .i64 5, .int .i64 0] := by
      have : Sp.parseL [123, 99, 44, 97, 125] = (5, 0) := by decide
      rw [parseV, this]; rfl
    rwa [e] at h
  have hpr : ∀ w, Cal Tryd.prog 16 #[.int .i64 5] w fun v w' => v = str [123, 97, 44, 99, 125] ∧ Kept [] w w' := fun w => by
    have h := c_print 5 (by decide) w
    have e : Sp.printL 5 = [123, 97, 44, 99, 125] := by decide
    rwa [e] at h
  have f15 : ∀ w, Cal Tryd.prog 10 #[.int .i64 1, .int .i64 5] w fun v w' => v = .bool true ∧ w' = w := fun w => by
    have h := c_flows 1 5 (by decide) (by decide) w
    rwa [show Sp.flows 1 5 = true by decide] at h
  have f51 : ∀ w, Cal Tryd.prog 10 #[.int .i64 5, .int .i64 1] w fun v w' => v = .bool false ∧ w' = w := fun w => by
    have h := c_flows 5 1 (by decide) (by decide) w
    rwa [show Sp.flows 5 1 = false by decide] at h
  have j14 : ∀ w, Cal Tryd.prog 12 #[.int .i64 1, .int .i64 4] w fun v w' => v = .int .i64 5 ∧ w' = w := fun w => c_join 1 4 (by decide) (by decide) w
  have m54 : ∀ w, Cal Tryd.prog 14 #[.int .i64 5, .int .i64 4] w fun v w' => v = .int .i64 4 ∧ w' = w := fun w => c_meet 5 4 (by decide) (by decide) w
  have c7 : ∀ w, Cal Tryd.prog 15 #[.int .i64 7] w fun v w' => v = .int .i64 3 ∧ w' = w := fun w => by
    have h := c_count 7 (by decide) w
    rwa [show (Sp.tagsOf 7).length = 3 by decide] at h
  have r255 : ∀ w, Cal Tryd.prog 8 #[.int .i64 255] w fun v w' => v = .bool true ∧ w' = w := fun w => right_yes 255 (by decide) w
  have r256 : ∀ w, Cal Tryd.prog 8 #[.int .i64 256] w fun v w' => v = .bool false ∧ w' = w := fun w => right_no 256 (by decide) w
  repeat' (first
    | (refine op_call (by rfl) (by rfl) (by rfl) (by exact hp) ?_; rintro _ w1 ⟨rfl, hk1⟩)
    | (refine op_call (by rfl) (by rfl) (by rfl) (by exact hpr _) ?_; rintro _ w2 ⟨rfl, hk2⟩)
    | (refine op_call (by rfl) (by rfl) (by rfl) (by exact f15 _) ?_; rintro _ w2 ⟨rfl, rfl⟩)
    | (refine op_call (by rfl) (by rfl) (by rfl) (by exact f51 _) ?_; rintro _ w2 ⟨rfl, rfl⟩)
    | (refine op_call (by rfl) (by rfl) (by rfl) (by exact j14 _) ?_; rintro _ w2 ⟨rfl, rfl⟩)
    | (refine op_call (by rfl) (by rfl) (by rfl) (by exact m54 _) ?_; rintro _ w2 ⟨rfl, rfl⟩)
    | (refine op_call (by rfl) (by rfl) (by rfl) (by exact c7 _) ?_; rintro _ w2 ⟨rfl, rfl⟩)
    | (refine op_call (by rfl) (by rfl) (by rfl) (by exact r255 _) ?_; rintro _ w2 ⟨rfl, rfl⟩)
    | (refine op_call (by rfl) (by rfl) (by rfl) (by exact r256 _) ?_; rintro _ w2 ⟨rfl, rfl⟩)
    | refine op_move (by rfl) (by rfl) (by rfl) ?_
    | refine op_assign (by rfl) (by rfl) (by rfl) ?_
    | refine op_pick_true (by rfl) (by rfl) (by rfl) (by rfl) ?_
    | refine op_pick_false (by rfl) (by rfl) (by rfl) (by rfl) ?_
    | refine op_eql (by rfl) (by rfl) (by rfl) (by rfl) ?_
    | refine op_eql_str (by rfl) (by rfl) (by rfl) (by rfl) ?_
    | refine op_eql_bool (by rfl) (by rfl) (by rfl) (by rfl) ?_
    | refine op_eql_flat (by rfl) (by rfl) (by rfl) (by rfl) (by rfl) (by rfl) ?_
    | refine op_not (by rfl) (by rfl) (by rfl) ?_
    | refine op_extract (by rfl) (by rfl) (by rfl) (by rfl) ?_
    | refine wl_skip (by rfl) (by rfl) (by rfl) ?_
    | (refine wl_split_dec (by rfl) (by rfl) (by rfl) (fun _ => ?_) (fun _ => ?_) <;> (try first | contradiction | (exfalso; omega)))
    | (refine wl_split (by rfl) (by rfl) (by rfl) (fun _ => ?_) (fun _ => ?_) <;> (fail_if_success contradiction))
    | refine wl_nil ?_
    | refine at_then_normal ?_
    | refine at_then_ret ?_
    | refine wc_seq ?_
    | refine wc_region ?_
    | refine wc_skip ?_
    | refine wc_ret ?_
    | refine at_ret1 (by rfl) (by rfl) ?_)
  exact ⟨rfl, hk1.trans hk2⟩

set_option maxHeartbeats 4000000 in
theorem law_turns (n : Int) (s : List UInt8) (hl : s.length ≤ 1048576) (w : World) (hM : MaxAt w) : Cal Tryd.prog 5 #[.int .i64 n, str s] w fun v w' => v = .bool true ∧ Kept [] w w' := by
  refine enter (N := 53) Tryd.func5 rfl [(0, .int .i64 n), (1, str s)] args2 rfl ?_
  have hlt := Sp.parseL_lt s
  have hpv : ∀ w1, Kept [] w w1 → Cal Tryd.prog 6 #[str s] w1 fun v w' => v = .tuple #[.int .i64 ((Sp.parseL s).1 : Int), .int .i64 ((Sp.parseL s).2 : Int)] ∧ Kept [] w1 w' := fun w1 h => c_parse s hl w1 (hM.kept h)
  have hlen : (Sp.parseL s).2 = 0 → (Sp.printL (Sp.parseL s).1).length = s.length := Sp.parse_len
  have hbad : (Sp.parseL s).2 ≠ 0 → (Sp.parseL s).1 = 0 := Sp.parse_bad
  generalize Sp.parseL s = x at hlt hpv hlen hbad
  obtain ⟨m, e⟩ := x
  dsimp only at hlt hpv hlen hbad
  by_cases hn : 0 ≤ n ∧ n ≤ 255
  · obtain ⟨k, rfl⟩ := Int.eq_ofNat_of_zero_le hn.1
    have hk : k < 256 := by omega
    have hpp : ∀ w1, Kept [] w w1 → Cal Tryd.prog 6 #[str (Sp.printL k)] w1 fun v w' => v = .tuple #[.int .i64 (k : Int), .int .i64 0] ∧ Kept [] w1 w' := fun w1 h => by
      have h1 := c_parse (Sp.printL k) (by have := Sp.print_len k; have h2 := Sp.tagsTo_len k 8; change (Sp.tagsOf k).length ≤ 8 at h2; split at this <;> omega) w1 (hM.kept h)
      rw [parseV, Sp.parse_print k hk] at h1
      exact h1
    by_cases he : e = 0
    · have hle := hlen he
      subst he
      repeat' (first
        | (refine op_call (by rfl) (by rfl) (by rfl) (by exact c_alive w hM) ?_; rintro _ w1 ⟨rfl, hk1⟩)
        | (refine op_call (by rfl) (by rfl) (by rfl) (by exact right_yes k hk _) ?_; rintro _ w1 ⟨rfl, rfl⟩)
        | (refine op_call (by rfl) (by rfl) (by rfl) (by exact c_print k hk _) ?_; rintro _ w2 ⟨rfl, hk2⟩)
        | (refine op_call (by rfl) (by rfl) (by rfl) (by exact hpp _ (hk1.trans hk2)) ?_; rintro _ w3 ⟨rfl, hk3⟩)
        | (refine op_call (by rfl) (by rfl) (by rfl) (by exact hpv _ ((hk1.trans hk2).trans hk3)) ?_; rintro _ w4 ⟨rfl, hk4⟩)
        | (refine op_call (by rfl) (by rfl) (by rfl) (by exact right_yes m hlt _) ?_; rintro _ w5 ⟨rfl, rfl⟩)
        | (refine op_call (by rfl) (by rfl) (by rfl) (by exact c_print m hlt _) ?_; rintro _ w6 ⟨rfl, hk6⟩)
        | refine op_move (by rfl) (by rfl) (by rfl) ?_
        | refine op_assign (by rfl) (by rfl) (by rfl) ?_
        | refine op_pick_true (by rfl) (by rfl) (by rfl) (by rfl) ?_
        | refine op_pick_false (by rfl) (by rfl) (by rfl) (by rfl) ?_
        | refine op_eql (by rfl) (by rfl) (by rfl) (by rfl) ?_
        | refine op_neq (by rfl) (by rfl) (by rfl) (by rfl) ?_
        | refine op_eql_str (by rfl) (by rfl) (by rfl) (by rfl) ?_
        | refine op_eql_bool (by rfl) (by rfl) (by rfl) (by rfl) ?_
        | refine op_eql_flat (by rfl) (by rfl) (by rfl) (by rfl) (by rfl) (by rfl) ?_
        | refine op_neq_str (by rfl) (by rfl) (by rfl) (by rfl) ?_
        | refine op_neq_bool (by rfl) (by rfl) (by rfl) (by rfl) ?_
        | refine op_neq_flat (by rfl) (by rfl) (by rfl) (by rfl) (by rfl) (by rfl) ?_
        | refine op_len_str (by rfl) (by rfl) (by rfl) ?_
        | refine op_len_slice (by rfl) (by rfl) (by rfl) ?_
        | refine op_not (by rfl) (by rfl) (by rfl) ?_
        | refine op_extract (by rfl) (by rfl) (by rfl) (by rfl) ?_
        | refine wl_skip (by rfl) (by rfl) (by rfl) ?_
        | (refine wl_split_dec (by rfl) (by rfl) (by rfl) (fun _ => ?_) (fun _ => ?_) <;> (try first | contradiction | (exfalso; omega)))
        | (refine wl_split (by rfl) (by rfl) (by rfl) (fun _ => ?_) (fun _ => ?_) <;> (fail_if_success contradiction))
        | refine wl_nil ?_
        | refine at_then_normal ?_
        | refine at_then_ret ?_
        | refine wc_seq ?_
        | refine wc_region ?_
        | refine wc_skip ?_
        | refine wc_ret ?_
        | refine at_ret1 (by rfl) (by rfl) ?_
        | refine wc_cond_true (by rfl) ?_
        | refine wc_cond_false (by rfl) ?_
        | (refine wc_cond_dec (by rfl) (fun _ => ?_) (fun _ => ?_) <;> (try first | contradiction | (exfalso; omega)))
        | refine wc_cond (by rfl) (fun _ => ?_) (fun _ => ?_))
      exact ⟨congrArg Value.bool (decide_eq_true (by rw [hle])), (((hk1.trans hk2).trans hk3).trans hk4).trans hk6⟩
    · have hle := hbad he
      subst hle
      repeat' (first
        | (refine op_call (by rfl) (by rfl) (by rfl) (by exact c_alive w hM) ?_; rintro _ w1 ⟨rfl, hk1⟩)
        | (refine op_call (by rfl) (by rfl) (by rfl) (by exact right_yes k hk _) ?_; rintro _ w1 ⟨rfl, rfl⟩)
        | (refine op_call (by rfl) (by rfl) (by rfl) (by exact c_print k hk _) ?_; rintro _ w2 ⟨rfl, hk2⟩)
        | (refine op_call (by rfl) (by rfl) (by rfl) (by exact hpp _ (hk1.trans hk2)) ?_; rintro _ w3 ⟨rfl, hk3⟩)
        | (refine op_call (by rfl) (by rfl) (by rfl) (by exact hpv _ ((hk1.trans hk2).trans hk3)) ?_; rintro _ w4 ⟨rfl, hk4⟩)
        | refine op_move (by rfl) (by rfl) (by rfl) ?_
        | refine op_assign (by rfl) (by rfl) (by rfl) ?_
        | refine op_pick_true (by rfl) (by rfl) (by rfl) (by rfl) ?_
        | refine op_pick_false (by rfl) (by rfl) (by rfl) (by rfl) ?_
        | refine op_eql (by rfl) (by rfl) (by rfl) (by rfl) ?_
        | refine op_neq (by rfl) (by rfl) (by rfl) (by rfl) ?_
        | refine op_eql_str (by rfl) (by rfl) (by rfl) (by rfl) ?_
        | refine op_eql_bool (by rfl) (by rfl) (by rfl) (by rfl) ?_
        | refine op_eql_flat (by rfl) (by rfl) (by rfl) (by rfl) (by rfl) (by rfl) ?_
        | refine op_neq_str (by rfl) (by rfl) (by rfl) (by rfl) ?_
        | refine op_neq_bool (by rfl) (by rfl) (by rfl) (by rfl) ?_
        | refine op_neq_flat (by rfl) (by rfl) (by rfl) (by rfl) (by rfl) (by rfl) ?_
        | refine op_len_str (by rfl) (by rfl) (by rfl) ?_
        | refine op_len_slice (by rfl) (by rfl) (by rfl) ?_
        | refine op_not (by rfl) (by rfl) (by rfl) ?_
        | refine op_extract (by rfl) (by rfl) (by rfl) (by rfl) ?_
        | refine wl_skip (by rfl) (by rfl) (by rfl) ?_
        | (refine wl_split_dec (by rfl) (by rfl) (by rfl) (fun _ => ?_) (fun _ => ?_) <;> (try first | contradiction | (exfalso; omega)))
        | (refine wl_split (by rfl) (by rfl) (by rfl) (fun _ => ?_) (fun _ => ?_) <;> (fail_if_success contradiction))
        | refine wl_nil ?_
        | refine at_then_normal ?_
        | refine at_then_ret ?_
        | refine wc_seq ?_
        | refine wc_region ?_
        | refine wc_skip ?_
        | refine wc_ret ?_
        | refine at_ret1 (by rfl) (by rfl) ?_
        | refine wc_cond_true (by rfl) ?_
        | refine wc_cond_false (by rfl) ?_
        | (refine wc_cond_dec (by rfl) (fun _ => ?_) (fun _ => ?_) <;> (try first | contradiction | (exfalso; omega)))
        | refine wc_cond (by rfl) (fun _ => ?_) (fun _ => ?_))
      exact ⟨rfl, (((hk1.trans hk2).trans hk3).trans hk4)⟩
  · by_cases he : e = 0
    · have hle := hlen he
      subst he
      repeat' (first
        | (refine op_call (by rfl) (by rfl) (by rfl) (by exact c_alive w hM) ?_; rintro _ w1 ⟨rfl, hk1⟩)
        | (refine op_call (by rfl) (by rfl) (by rfl) (by exact right_no n hn _) ?_; rintro _ w1 ⟨rfl, rfl⟩)
        | (refine op_call (by rfl) (by rfl) (by rfl) (by exact hpv _ hk1) ?_; rintro _ w4 ⟨rfl, hk4⟩)
        | (refine op_call (by rfl) (by rfl) (by rfl) (by exact right_yes m hlt _) ?_; rintro _ w5 ⟨rfl, rfl⟩)
        | (refine op_call (by rfl) (by rfl) (by rfl) (by exact c_print m hlt _) ?_; rintro _ w6 ⟨rfl, hk6⟩)
        | refine op_move (by rfl) (by rfl) (by rfl) ?_
        | refine op_assign (by rfl) (by rfl) (by rfl) ?_
        | refine op_pick_true (by rfl) (by rfl) (by rfl) (by rfl) ?_
        | refine op_pick_false (by rfl) (by rfl) (by rfl) (by rfl) ?_
        | refine op_eql (by rfl) (by rfl) (by rfl) (by rfl) ?_
        | refine op_neq (by rfl) (by rfl) (by rfl) (by rfl) ?_
        | refine op_eql_str (by rfl) (by rfl) (by rfl) (by rfl) ?_
        | refine op_eql_bool (by rfl) (by rfl) (by rfl) (by rfl) ?_
        | refine op_eql_flat (by rfl) (by rfl) (by rfl) (by rfl) (by rfl) (by rfl) ?_
        | refine op_neq_str (by rfl) (by rfl) (by rfl) (by rfl) ?_
        | refine op_neq_bool (by rfl) (by rfl) (by rfl) (by rfl) ?_
        | refine op_neq_flat (by rfl) (by rfl) (by rfl) (by rfl) (by rfl) (by rfl) ?_
        | refine op_len_str (by rfl) (by rfl) (by rfl) ?_
        | refine op_len_slice (by rfl) (by rfl) (by rfl) ?_
        | refine op_not (by rfl) (by rfl) (by rfl) ?_
        | refine op_extract (by rfl) (by rfl) (by rfl) (by rfl) ?_
        | refine wl_skip (by rfl) (by rfl) (by rfl) ?_
        | (refine wl_split_dec (by rfl) (by rfl) (by rfl) (fun _ => ?_) (fun _ => ?_) <;> (try first | contradiction | (exfalso; omega)))
        | (refine wl_split (by rfl) (by rfl) (by rfl) (fun _ => ?_) (fun _ => ?_) <;> (fail_if_success contradiction))
        | refine wl_nil ?_
        | refine at_then_normal ?_
        | refine at_then_ret ?_
        | refine wc_seq ?_
        | refine wc_region ?_
        | refine wc_skip ?_
        | refine wc_ret ?_
        | refine at_ret1 (by rfl) (by rfl) ?_
        | refine wc_cond_true (by rfl) ?_
        | refine wc_cond_false (by rfl) ?_
        | (refine wc_cond_dec (by rfl) (fun _ => ?_) (fun _ => ?_) <;> (try first | contradiction | (exfalso; omega)))
        | refine wc_cond (by rfl) (fun _ => ?_) (fun _ => ?_))
      exact ⟨congrArg Value.bool (decide_eq_true (by rw [hle])), (hk1.trans hk4).trans hk6⟩
    · have hle := hbad he
      subst hle
      repeat' (first
        | (refine op_call (by rfl) (by rfl) (by rfl) (by exact c_alive w hM) ?_; rintro _ w1 ⟨rfl, hk1⟩)
        | (refine op_call (by rfl) (by rfl) (by rfl) (by exact right_no n hn _) ?_; rintro _ w1 ⟨rfl, rfl⟩)
        | (refine op_call (by rfl) (by rfl) (by rfl) (by exact hpv _ hk1) ?_; rintro _ w4 ⟨rfl, hk4⟩)
        | refine op_move (by rfl) (by rfl) (by rfl) ?_
        | refine op_assign (by rfl) (by rfl) (by rfl) ?_
        | refine op_pick_true (by rfl) (by rfl) (by rfl) (by rfl) ?_
        | refine op_pick_false (by rfl) (by rfl) (by rfl) (by rfl) ?_
        | refine op_eql (by rfl) (by rfl) (by rfl) (by rfl) ?_
        | refine op_neq (by rfl) (by rfl) (by rfl) (by rfl) ?_
        | refine op_eql_str (by rfl) (by rfl) (by rfl) (by rfl) ?_
        | refine op_eql_bool (by rfl) (by rfl) (by rfl) (by rfl) ?_
        | refine op_eql_flat (by rfl) (by rfl) (by rfl) (by rfl) (by rfl) (by rfl) ?_
        | refine op_neq_str (by rfl) (by rfl) (by rfl) (by rfl) ?_
        | refine op_neq_bool (by rfl) (by rfl) (by rfl) (by rfl) ?_
        | refine op_neq_flat (by rfl) (by rfl) (by rfl) (by rfl) (by rfl) (by rfl) ?_
        | refine op_len_str (by rfl) (by rfl) (by rfl) ?_
        | refine op_len_slice (by rfl) (by rfl) (by rfl) ?_
        | refine op_not (by rfl) (by rfl) (by rfl) ?_
        | refine op_extract (by rfl) (by rfl) (by rfl) (by rfl) ?_
        | refine wl_skip (by rfl) (by rfl) (by rfl) ?_
        | (refine wl_split_dec (by rfl) (by rfl) (by rfl) (fun _ => ?_) (fun _ => ?_) <;> (try first | contradiction | (exfalso; omega)))
        | (refine wl_split (by rfl) (by rfl) (by rfl) (fun _ => ?_) (fun _ => ?_) <;> (fail_if_success contradiction))
        | refine wl_nil ?_
        | refine at_then_normal ?_
        | refine at_then_ret ?_
        | refine wc_seq ?_
        | refine wc_region ?_
        | refine wc_skip ?_
        | refine wc_ret ?_
        | refine at_ret1 (by rfl) (by rfl) ?_
        | refine wc_cond_true (by rfl) ?_
        | refine wc_cond_false (by rfl) ?_
        | (refine wc_cond_dec (by rfl) (fun _ => ?_) (fun _ => ?_) <;> (try first | contradiction | (exfalso; omega)))
        | refine wc_cond (by rfl) (fun _ => ?_) (fun _ => ?_))
      exact ⟨rfl, hk1.trans hk4⟩
end Go.Proofs.YtgoglhmnfiehoaaDoor
