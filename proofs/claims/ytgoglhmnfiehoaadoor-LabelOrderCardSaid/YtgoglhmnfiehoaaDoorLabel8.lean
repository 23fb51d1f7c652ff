/- Own work: what label.Parse returns. -/
import Derived.Test.YtgoglhmnfiehoaaDoorLabel6
namespace Go.Sp
open Go
theorem count_comma (s : List UInt8) : Lib.count s [44] + 1 = (splitC s).length := by
  induction s with
  | nil => rfl
  | cons c s ih =>
    by_cases hc : c = 44
    · subst hc
      have h0 : Lib.index (44 :: s) [44] = (0 : Nat) := Lib.index_first (i := 0) (by omega) (by simp [Lib.occAt]) (fun j h => by omega)
      rw [Lib.count_hit (by simp) h0, splitC, if_pos rfl]
      simp only [List.length_cons, List.length_nil, Nat.zero_add, List.drop_succ_cons, List.drop_zero]
      omega
    · have e1 : (splitC (c :: s)).length = (splitC s).length := by
        rw [splitC, if_neg hc]
        cases h : splitC s with
        | nil => exact absurd h (splitC_ne s)
        | cons x xs => rfl
      have hno : Lib.occAt (c :: s) [44] 0 = false := by
        simp [Lib.occAt, List.isPrefixOf]; exact fun e => hc e.symm
      have hocc : Lib.NoOcc (c :: s) [44] 1 := fun j hj => by
        obtain rfl : j = 0 := by omega
        exact hno
      have hidx := Lib.index_drop hocc (by simp)
      simp only [List.drop_succ_cons, List.drop_zero] at hidx
      rcases Lib.index_spec s [44] with ⟨h1, _⟩ | ⟨i, h1, h2, _, _⟩
      · rw [h1] at hidx
        have hidx' : Lib.index (c :: s) [44] = -1 := hidx
        rw [Lib.count_miss h1] at ih
        rw [Lib.count_miss hidx', e1]; exact ih
      · rw [h1] at hidx
        have hidx' : Lib.index (c :: s) [44] = ((i + 1 : Nat) : Int) := by
          rw [hidx, if_neg (by simp)]; omega
        rw [Lib.count_hit (by simp) h1] at ih
        rw [Lib.count_hit (by simp) hidx', e1]; exact ih
theorem tag_bits (a : Nat) (ha : a < 256) (q : Nat) (hq : q < 8) : ((a &&& 2 ^ q ≠ 0) ↔ bit a q = true) ∧ (bit a q = false → a ||| 2 ^ q = a + 2 ^ q ∧ a + 2 ^ q < 256) ∧ flows (2 ^ q) a = bit a q := by
  revert hq; revert q; revert ha; revert a; decide +kernel
theorem parseL_bad {s : List UInt8} (h : s.length < 2 ∨ s.getD 0 0 ≠ 123 ∨ s.getD (s.length - 1) 0 ≠ 125) : parseL s = (0, 2) := by rw [parseL, if_pos h]
theorem u8_ne {c : UInt8} {n : Nat} (hn : n < 256) : ((c.toNat : Int) ≠ n) ↔ c ≠ UInt8.ofNat n := by
  rw [ne_eq, ne_eq, ← UInt8.toNat_inj, UInt8.toNat_ofNat']
  omega
theorem parse_form {m : List UInt8} (h : (splitC m).all goodPiece = false) : (match uncommas m with
      | none => ((0, 2) : Nat × Nat)
      | some l => if l.all okTag then (match addTags l 0 with | none => (0, 7) | some n => (n, 0)) else (0, 2)) = (0, 2) := by
  cases hu : uncommas m with
  | none => rfl
  | some l =>
    dsimp only
    split
    · rename_i hl
      rw [good_of_uncommas m l hu hl] at h
      exfalso
      rw [List.all_map] at h
      have : l.all (goodPiece ∘ fun c => [c]) = true := by
        rw [List.all_eq_true] at hl ⊢
        intro c hc
        simp [goodPiece, hl c hc]
      rw [this] at h; cases h
    · rfl
theorem good_mk {m : List UInt8} (h : (splitC m).all goodPiece = true) : ∃ l, uncommas m = some l ∧ l.all okTag = true ∧ splitC m = l.map (fun c => [c]) := by
  obtain ⟨l, h1, h2⟩ := uncommas_of_good m h
  exact ⟨l, h1, h2, good_of_uncommas m l h1 h2⟩
theorem addTags_lt : ∀ (l : List UInt8) (a n : Nat), l.all okTag = true → a < 256 → addTags l a = some n → n < 256
  | [], a, n, _, h, e => by simp only [addTags, Option.some.injEq] at e; omega
  | c :: l, a, n, hl, h, e => by
    simp only [List.all_cons, Bool.and_eq_true, okTag, decide_eq_true_eq] at hl
    obtain ⟨hc, hl⟩ := hl
    rw [addTags] at e
    split at e
    · cases e
    · rename_i hb
      exact addTags_lt l _ n (by simpa [okTag] using hl) ((tag_bits a h (c.toNat - 97) (by omega)).2.1 (by simpa using hb)).2 e
theorem parseL_lt (s : List UInt8) : (parseL s).1 < 256 := by
  rw [parseL]
  split
  · simp
  · dsimp only
    split
    · simp
    · split
      · simp
      · rename_i l _
        split
        · rename_i hl
          split
          · simp
          · rename_i n hn
            exact addTags_lt l 0 n hl (by omega) hn
        · simp
end Go.Sp
namespace Go.Proofs.YtgoglhmnfiehoaaDoor
open Go.Fw
/-- the variable that the library's cutting asks for reads some number. -/
def MaxAt (w : World) : Prop := 0 < w.heap.size ∧ ∃ m, w.cell? ⟨0, 0, none⟩ = some (.int .i64 m)
theorem MaxAt.kept {w w' : World} (h : MaxAt w) (hk : Kept [] w w') : MaxAt w' := by
  obtain ⟨h1, m, h2⟩ := h
  have := hk.size
  exact ⟨by omega, m, by rw [World.cell?_of_block (w := w) (hk.blk 0 h1 (by simp))]; exact h2⟩

theorem c_split (m : List UInt8) (hl : m.length ≤ 1048576) (w : World) (hM : MaxAt w) : Cal Tryd.prog 19 #[str m, .string ⟨#[44]⟩] w fun v w' =>
    v = .slice (some ⟨w.heap.size, 0, none⟩) (Sp.splitC m).length (Sp.splitC m).length ∧ w'.heap[w.heap.size]? = some (.cells ((Sp.splitC m).map str).toArray 9 (0, 0)) ∧ Kept [] w w' := by
  obtain ⟨_, mx, hmx⟩ := hM
  have h := Tryd.strings_Split ⟨m.toArray⟩ ⟨#[44]⟩ mx w (by rw [str_size]; omega) hmx (by decide)
  have e1 : (Lib.splitB (⟨#[44]⟩ : ByteArray) 0 (Lib.countB ⟨m.toArray⟩ ⟨#[44]⟩) ⟨m.toArray⟩).map Value.string = (Sp.splitC m).map str := by
    have h1 := Lib.splitB_data (⟨#[44]⟩ : ByteArray) 0 (Lib.countB ⟨m.toArray⟩ ⟨#[44]⟩) ⟨m.toArray⟩
    have h2 : Lib.splitK (⟨#[44]⟩ : ByteArray).data.toList 0 (Lib.countB ⟨m.toArray⟩ ⟨#[44]⟩) (⟨m.toArray⟩ : ByteArray).data.toList = Sp.splitC m := Sp.split_comma m
    rw [h2] at h1
    rw [← h1, List.map_map]
    rfl
  have e2 : Lib.countB (⟨m.toArray⟩ : ByteArray) ⟨#[44]⟩ + 1 = (Sp.splitC m).length := Sp.count_comma m
  rw [e1, e2] at h
  refine (cal_of h).mono ?_
  rintro v w' ⟨rfl, rfl⟩
  exact ⟨rfl, heap_alloc_new w _, Kept.alloc w _⟩

def parseV (s : List UInt8) : Value := .tuple #[.int .i64 ((Sp.parseL s).1 : Int), .int .i64 ((Sp.parseL s).2 : Int)]
set_option maxHeartbeats 2000000 in
theorem c_parse (s : List UInt8) (hl : s.length ≤ 1048576) (w : World) (hM : MaxAt w) : Cal Tryd.prog 6 #[str s] w fun v w' => v = parseV s ∧ Kept [] w w' := by
  refine enter (N := 75) Tryd.func6 rfl [(0, str s)] args1 rfl ?_
  by_cases h2 : s.length < 2
  · skip
    repeat' (first
      | refine op_move (by rfl) (by rfl) (by rfl) ?_
      | refine op_assign (by rfl) (by rfl) (by rfl) ?_
      | refine op_pick_true (by rfl) (by rfl) (by rfl) (by rfl) ?_
      | refine op_pick_false (by rfl) (by rfl) (by rfl) (by rfl) ?_
      | refine op_lss (by rfl) (by rfl) (by rfl) (by rfl) ?_
      | refine op_gtr (by rfl) (by rfl) (by rfl) (by rfl) ?_
      | refine op_eql (by rfl) (by rfl) (by rfl) (by rfl) ?_
      | refine op_neq (by rfl) (by rfl) (by rfl) (by rfl) ?_
      | refine op_eql_str (by rfl) (by rfl) (by rfl) (by rfl) ?_
      | refine op_eql_bool (by rfl) (by rfl) (by rfl) (by rfl) ?_
      | refine op_eql_flat (by rfl) (by rfl) (by rfl) (by rfl) (by rfl) (by rfl) ?_
      | refine op_neq_str (by rfl) (by rfl) (by rfl) (by rfl) ?_
      | refine op_neq_bool (by rfl) (by rfl) (by rfl) (by rfl) ?_
      | refine op_neq_flat (by rfl) (by rfl) (by rfl) (by rfl) (by rfl) (by rfl) ?_
      | refine op_len_str (by rfl) (by rfl) (by rfl) ?_
      | refine op_len_slice (by rfl) (by rfl) (by rfl) ?_
      | refine op_add (by rfl) (by rfl) (by rfl) (by rfl) (by omega) ?_
      | refine op_sub (by rfl) (by rfl) (by rfl) (by rfl) (by omega) ?_
      | refine op_add_u8 (by rfl) (by rfl) (by rfl) (by rfl) (by omega) ?_
      | refine op_sub_u8 (by rfl) (by rfl) (by rfl) (by rfl) (by omega) ?_
      | refine op_and (by rfl) (by rfl) (by rfl) (by rfl) (by omega) (by omega) ?_
      | refine op_or (by rfl) (by rfl) (by rfl) (by rfl) (by omega) (by omega) ?_
      | refine op_indexAddr_arr (by rfl) (by rfl) (by rfl) (by rfl) (by omega) (by omega) ?_
      | refine op_index_str (by rfl) (by rfl) (by rfl) (by rfl) (by omega) (by omega) ?_
      | refine op_slice_str (by rfl) (by rfl) (by rfl) (by rfl) (by rfl) (by omega) ?_
      | refine op_slice_from (by rfl) (by rfl) (by rfl) (by rfl) (by omega) ?_
      | refine op_slice_to (by rfl) (by rfl) (by rfl) (by rfl) (by omega) ?_
      | refine op_indexAddr (by rfl) (by rfl) (by rfl) (by rfl) (by omega) (by omega) ?_
      | refine op_load1 (by rfl) (by rfl) (by rfl) (by assumption) (by rfl) ?_
      | refine wl_skip (by rfl) (by rfl) (by rfl) ?_
      | (refine wl_split_dec (by rfl) (by rfl) (by rfl) (fun _ => ?_) (fun _ => ?_) <;> (try first | contradiction | (exfalso; omega)))
      | (refine wl_split (by rfl) (by rfl) (by rfl) (fun _ => ?_) (fun _ => ?_) <;> (fail_if_success contradiction))
      | refine wl_nil ?_
      | refine at_then_normal ?_
      | refine at_then_ret ?_
      | refine at_then_exit ?_
      | refine at_block_normal ?_
      | refine at_block_ret ?_
      | refine at_block_exit ?_
      | refine at_block_other (by rfl) ?_
      | refine wc_seq ?_
      | refine wc_region ?_
      | refine wc_block ?_
      | refine wc_skip ?_
      | refine wc_exit ?_
      | refine wc_ret ?_
      | refine at_ret2 (by rfl) (by rfl) (by rfl) ?_
      | refine wc_cond_true (by rfl) ?_
      | refine wc_cond_false (by rfl) ?_
      | (refine wc_cond_dec (by rfl) (fun _ => ?_) (fun _ => ?_) <;> (try first | contradiction | (exfalso; omega)))
      | refine wc_cond (by rfl) (fun _ => ?_) (fun _ => ?_))
    refine ⟨?_, Kept.refl _ _⟩
    rw [parseV, Sp.parseL_bad (.inl h2)]; rfl
  have e0 : s.getD (0 : Int).toNat 0 = s.getD 0 0 := rfl
  have e1 : s.getD ((s.length : Int) - 1).toNat 0 = s.getD (s.length - 1) 0 := congrArg (s.getD · 0) (by omega)
  by_cases h3 : s.getD 0 0 ≠ 123
  · have h3' := (Sp.u8_ne (n := 123) (by omega)).2 h3
    repeat' (first
      | refine op_move (by rfl) (by rfl) (by rfl) ?_
      | refine op_assign (by rfl) (by rfl) (by rfl) ?_
      | refine op_pick_true (by rfl) (by rfl) (by rfl) (by rfl) ?_
      | refine op_pick_false (by rfl) (by rfl) (by rfl) (by rfl) ?_
      | refine op_lss (by rfl) (by rfl) (by rfl) (by rfl) ?_
      | refine op_gtr (by rfl) (by rfl) (by rfl) (by rfl) ?_
      | refine op_eql (by rfl) (by rfl) (by rfl) (by rfl) ?_
      | refine op_neq (by rfl) (by rfl) (by rfl) (by rfl) ?_
      | refine op_eql_str (by rfl) (by rfl) (by rfl) (by rfl) ?_
      | refine op_eql_bool (by rfl) (by rfl) (by rfl) (by rfl) ?_
      | refine op_eql_flat (by rfl) (by rfl) (by rfl) (by rfl) (by rfl) (by rfl) ?_
      | refine op_neq_str (by rfl) (by rfl) (by rfl) (by rfl) ?_
      | refine op_neq_bool (by rfl) (by rfl) (by rfl) (by rfl) ?_
      | refine op_neq_flat (by rfl) (by rfl) (by rfl) (by rfl) (by rfl) (by rfl) ?_
      | refine op_len_str (by rfl) (by rfl) (by rfl) ?_
      | refine op_len_slice (by rfl) (by rfl) (by rfl) ?_
      | refine op_add (by rfl) (by rfl) (by rfl) (by rfl) (by omega) ?_
      | refine op_sub (by rfl) (by rfl) (by rfl) (by rfl) (by omega) ?_
      | refine op_add_u8 (by rfl) (by rfl) (by rfl) (by rfl) (by omega) ?_
      | refine op_sub_u8 (by rfl) (by rfl) (by rfl) (by rfl) (by omega) ?_
      | refine op_and (by rfl) (by rfl) (by rfl) (by rfl) (by omega) (by omega) ?_
      | refine op_or (by rfl) (by rfl) (by rfl) (by rfl) (by omega) (by omega) ?_
      | refine op_indexAddr_arr (by rfl) (by rfl) (by rfl) (by rfl) (by omega) (by omega) ?_
      | refine op_index_str (by rfl) (by rfl) (by rfl) (by rfl) (by omega) (by omega) ?_
      | refine op_slice_str (by rfl) (by rfl) (by rfl) (by rfl) (by rfl) (by omega) ?_
      | refine op_slice_from (by rfl) (by rfl) (by rfl) (by rfl) (by omega) ?_
      | refine op_slice_to (by rfl) (by rfl) (by rfl) (by rfl) (by omega) ?_
      | refine op_indexAddr (by rfl) (by rfl) (by rfl) (by rfl) (by omega) (by omega) ?_
      | refine op_load1 (by rfl) (by rfl) (by rfl) (by assumption) (by rfl) ?_
      | refine wl_skip (by rfl) (by rfl) (by rfl) ?_
      | (refine wl_split_dec (by rfl) (by rfl) (by rfl) (fun _ => ?_) (fun _ => ?_) <;> (try first | contradiction | (exfalso; omega)))
      | (refine wl_split (by rfl) (by rfl) (by rfl) (fun _ => ?_) (fun _ => ?_) <;> (fail_if_success contradiction))
      | refine wl_nil ?_
      | refine at_then_normal ?_
      | refine at_then_ret ?_
      | refine at_then_exit ?_
      | refine at_block_normal ?_
      | refine at_block_ret ?_
      | refine at_block_exit ?_
      | refine at_block_other (by rfl) ?_
      | refine wc_seq ?_
      | refine wc_region ?_
      | refine wc_block ?_
      | refine wc_skip ?_
      | refine wc_exit ?_
      | refine wc_ret ?_
      | refine at_ret2 (by rfl) (by rfl) (by rfl) ?_
      | refine wc_cond_true (by rfl) ?_
      | refine wc_cond_false (by rfl) ?_
      | (refine wc_cond_dec (by rfl) (fun _ => ?_) (fun _ => ?_) <;> (try first | contradiction | (exfalso; omega)))
      | refine wc_cond (by rfl) (fun _ => ?_) (fun _ => ?_))
    all_goals first
      | (refine ⟨?_, Kept.refl _ _⟩; rw [parseV, Sp.parseL_bad (.inr (.inl h3))]; rfl)
      | (rw [e0] at *; contradiction)
  have h3' : ((s.getD 0 0).toNat : Int) = 123 := by
    have := mt (Sp.u8_ne (n := 123) (by omega)).1 h3
    simpa using this
  by_cases h4 : s.getD (s.length - 1) 0 ≠ 125
  · have h4' := (Sp.u8_ne (n := 125) (by omega)).2 h4
    rw [← e1] at h4'
    repeat' (first
      | refine op_move (by rfl) (by rfl) (by rfl) ?_
      | refine op_assign (by rfl) (by rfl) (by rfl) ?_
      | refine op_pick_true (by rfl) (by rfl) (by rfl) (by rfl) ?_
      | refine op_pick_false (by rfl) (by rfl) (by rfl) (by rfl) ?_
      | refine op_lss (by rfl) (by rfl) (by rfl) (by rfl) ?_
      | refine op_gtr (by rfl) (by rfl) (by rfl) (by rfl) ?_
      | refine op_eql (by rfl) (by rfl) (by rfl) (by rfl) ?_
      | refine op_neq (by rfl) (by rfl) (by rfl) (by rfl) ?_
      | refine op_eql_str (by rfl) (by rfl) (by rfl) (by rfl) ?_
      | refine op_eql_bool (by rfl) (by rfl) (by rfl) (by rfl) ?_
      | refine op_eql_flat (by rfl) (by rfl) (by rfl) (by rfl) (by rfl) (by rfl) ?_
      | refine op_neq_str (by rfl) (by rfl) (by rfl) (by rfl) ?_
      | refine op_neq_bool (by rfl) (by rfl) (by rfl) (by rfl) ?_
      | refine op_neq_flat (by rfl) (by rfl) (by rfl) (by rfl) (by rfl) (by rfl) ?_
      | refine op_len_str (by rfl) (by rfl) (by rfl) ?_
      | refine op_len_slice (by rfl) (by rfl) (by rfl) ?_
      | refine op_add (by rfl) (by rfl) (by rfl) (by rfl) (by omega) ?_
      | refine op_sub (by rfl) (by rfl) (by rfl) (by rfl) (by omega) ?_
      | refine op_add_u8 (by rfl) (by rfl) (by rfl) (by rfl) (by omega) ?_
      | refine op_sub_u8 (by rfl) (by rfl) (by rfl) (by rfl) (by omega) ?_
      | refine op_and (by rfl) (by rfl) (by rfl) (by rfl) (by omega) (by omega) ?_
      | refine op_or (by rfl) (by rfl) (by rfl) (by rfl) (by omega) (by omega) ?_
      | refine op_indexAddr_arr (by rfl) (by rfl) (by rfl) (by rfl) (by omega) (by omega) ?_
      | refine op_index_str (by rfl) (by rfl) (by rfl) (by rfl) (by omega) (by omega) ?_
      | refine op_slice_str (by rfl) (by rfl) (by rfl) (by rfl) (by rfl) (by omega) ?_
      | refine op_slice_from (by rfl) (by rfl) (by rfl) (by rfl) (by omega) ?_
      | refine op_slice_to (by rfl) (by rfl) (by rfl) (by rfl) (by omega) ?_
      | refine op_indexAddr (by rfl) (by rfl) (by rfl) (by rfl) (by omega) (by omega) ?_
      | refine op_load1 (by rfl) (by rfl) (by rfl) (by assumption) (by rfl) ?_
      | refine wl_skip (by rfl) (by rfl) (by rfl) ?_
      | (refine wl_split_dec (by rfl) (by rfl) (by rfl) (fun _ => ?_) (fun _ => ?_) <;> (try first | contradiction | (exfalso; omega)))
      | (refine wl_split (by rfl) (by rfl) (by rfl) (fun _ => ?_) (fun _ => ?_) <;> (fail_if_success contradiction))
      | refine wl_nil ?_
      | refine at_then_normal ?_
      | refine at_then_ret ?_
      | refine at_then_exit ?_
      | refine at_block_normal ?_
      | refine at_block_ret ?_
      | refine at_block_exit ?_
      | refine at_block_other (by rfl) ?_
      | refine wc_seq ?_
      | refine wc_region ?_
      | refine wc_block ?_
      | refine wc_skip ?_
      | refine wc_exit ?_
      | refine wc_ret ?_
      | refine at_ret2 (by rfl) (by rfl) (by rfl) ?_
      | refine wc_cond_true (by rfl) ?_
      | refine wc_cond_false (by rfl) ?_
      | (refine wc_cond_dec (by rfl) (fun _ => ?_) (fun _ => ?_) <;> (try first | contradiction | (exfalso; omega)))
      | refine wc_cond (by rfl) (fun _ => ?_) (fun _ => ?_))
    all_goals first
      | (refine ⟨?_, Kept.refl _ _⟩; rw [parseV, Sp.parseL_bad (.inr (.inr h4))]; rfl)
      | contradiction
  have h4' : ((s.getD ((s.length : Int) - 1).toNat 0).toNat : Int) = 125 := by
    have := mt (Sp.u8_ne (n := 125) (by omega)).1 h4
    rw [e1]
    simpa using this
  have hgood : ¬ (s.length < 2 ∨ s.getD 0 0 ≠ 123 ∨ s.getD (s.length - 1) 0 ≠ 125) := by
    rintro (h | h | h)
    · exact h2 h
    · exact h3 h
    · exact h4 h
  obtain ⟨m, hm⟩ : ∃ m, m = (s.drop 1).take (s.length - 1 - 1) := ⟨_, rfl⟩
  have hm' : (s.drop (1 : Int).toNat).take (((s.length : Int) - 1).toNat - (1 : Int).toNat) = m := by
    rw [hm, show ((s.length : Int) - 1).toNat = s.length - 1 by omega]; rfl
  have hml : m.length ≤ 1048576 := by rw [hm, List.length_take, List.length_drop]; omega
  have hp : Sp.parseL s = if m = [] then (0, 0) else match Sp.uncommas m with
      | none => (0, 2)
      | some l => if l.all Sp.okTag then (match Sp.addTags l 0 with | none => (0, 7) | some n => (n, 0)) else (0, 2) := by rw [Sp.parseL, if_neg hgood, hm]; rfl
  clear hgood hm
  repeat' (first
    | (refine op_slice_str (by rfl) (by rfl) (by rfl) (by rfl) (by rfl) (by omega) ?_; rw [hm'])
    | (refine op_call (by rfl) (by rfl) (by rfl) (by exact c_split m hml _ hM) ?_; rintro _ w1 ⟨rfl, hb1, hk1⟩)
    | refine op_move (by rfl) (by rfl) (by rfl) ?_
    | refine op_assign (by rfl) (by rfl) (by rfl) ?_
    | refine op_pick_true (by rfl) (by rfl) (by rfl) (by rfl) ?_
    | refine op_pick_false (by rfl) (by rfl) (by rfl) (by rfl) ?_
    | refine op_lss (by rfl) (by rfl) (by rfl) (by rfl) ?_
    | refine op_gtr (by rfl) (by rfl) (by rfl) (by rfl) ?_
    | refine op_eql (by rfl) (by rfl) (by rfl) (by rfl) ?_
    | refine op_neq (by rfl) (by rfl) (by rfl) (by rfl) ?_
    | refine op_eql_str (by rfl) (by rfl) (by rfl) (by rfl) ?_
    | refine op_eql_bool (by rfl) (by rfl) (by rfl) (by rfl) ?_
    | refine op_eql_flat (by rfl) (by rfl) (by rfl) (by rfl) (by rfl) (by rfl) ?_
    | refine op_neq_str (by rfl) (by rfl) (by rfl) (by rfl) ?_
    | refine op_neq_bool (by rfl) (by rfl) (by rfl) (by rfl) ?_
    | refine op_neq_flat (by rfl) (by rfl) (by rfl) (by rfl) (by rfl) (by rfl) ?_
    | refine op_len_str (by rfl) (by rfl) (by rfl) ?_
    | refine op_len_slice (by rfl) (by rfl) (by rfl) ?_
    | refine op_add (by rfl) (by rfl) (by rfl) (by rfl) (by omega) ?_
    | refine op_sub (by rfl) (by rfl) (by rfl) (by rfl) (by omega) ?_
    | refine op_add_u8 (by rfl) (by rfl) (by rfl) (by rfl) (by omega) ?_
    | refine op_sub_u8 (by rfl) (by rfl) (by rfl) (by rfl) (by omega) ?_
    | refine op_and (by rfl) (by rfl) (by rfl) (by rfl) (by omega) (by omega) ?_
    | refine op_or (by rfl) (by rfl) (by rfl) (by rfl) (by omega) (by omega) ?_
    | refine op_indexAddr_arr (by rfl) (by rfl) (by rfl) (by rfl) (by omega) (by omega) ?_
    | refine op_index_str (by rfl) (by rfl) (by rfl) (by rfl) (by omega) (by omega) ?_
    | refine op_slice_str (by rfl) (by rfl) (by rfl) (by rfl) (by rfl) (by omega) ?_
    | refine op_slice_from (by rfl) (by rfl) (by rfl) (by rfl) (by omega) ?_
    | refine op_slice_to (by rfl) (by rfl) (by rfl) (by rfl) (by omega) ?_
    | refine op_indexAddr (by rfl) (by rfl) (by rfl) (by rfl) (by omega) (by omega) ?_
    | refine op_load1 (by rfl) (by rfl) (by rfl) (by assumption) (by rfl) ?_
    | refine wl_skip (by rfl) (by rfl) (by rfl) ?_
    | (refine wl_split_dec (by rfl) (by rfl) (by rfl) (fun _ => ?_) (fun _ => ?_) <;> (try first | contradiction | (exfalso; omega)))
    | (refine wl_split (by rfl) (by rfl) (by rfl) (fun _ => ?_) (fun _ => ?_) <;> (fail_if_success contradiction))
    | refine wl_nil ?_
    | refine at_then_normal ?_
    | refine at_then_ret ?_
    | refine at_then_exit ?_
    | refine at_block_normal ?_
    | refine at_block_ret ?_
    | refine at_block_exit ?_
    | refine at_block_other (by rfl) ?_
    | refine wc_seq ?_
    | refine wc_region ?_
    | refine wc_block ?_
    | refine wc_skip ?_
    | refine wc_exit ?_
    | refine wc_ret ?_
    | refine at_ret2 (by rfl) (by rfl) (by rfl) ?_
    | refine wc_cond_true (by rfl) ?_
    | refine wc_cond_false (by rfl) ?_
    | (refine wc_cond_dec (by rfl) (fun _ => ?_) (fun _ => ?_) <;> (try first | contradiction | (exfalso; omega)))
    | refine wc_cond (by rfl) (fun _ => ?_) (fun _ => ?_))
  · rename_i hm0
    refine ⟨?_, Kept.refl _ _⟩
    rw [parseV, hp, if_pos hm0]; rfl
  rename_i hm0
  rw [if_neg hm0] at hp
  obtain ⟨ps, hps⟩ : ∃ ps, ps = Sp.splitC m := ⟨_, rfl⟩
  rw [← hps] at hb1 ⊢
  have hpl : ps.length ≤ 1048578 := by
    have h5 := Sp.count_comma m
    have h6 := Lib.count_le m [44]
    rw [hps, ← h5]; omega
  refine wc_loop (fun k : Nat => [(4, .int .i64 0), (5, .slice (some ⟨w.heap.size, 0, none⟩) ps.length ps.length), (36, .slice (some ⟨w.heap.size, 0, none⟩) ps.length ps.length), (37, .int .i64 (ps.length : Int)), (38, .int .i64 (k : Int))])
    (fun k w' => k ≤ ps.length ∧ w' = w1 ∧ ∀ j, j < k → Sp.goodPiece (ps.getD j []) = true) (fun k => ps.length - k) 0 ⟨rfl, rfl, rfl, rfl, rfl, trivial⟩ ⟨by omega, rfl, fun j hj => by omega⟩ ?_
  rintro k w2 ⟨hk, rfl, hall⟩
  have hcell : ∀ j, j < ps.length → ((ps.map str).toArray)[0 + (j : Int).toNat * 1]? = some (str (ps.getD j [])) := fun j hj => by
    rw [List.getElem?_toArray, Int.toNat_natCast, Nat.zero_add, Nat.mul_one, List.getElem?_map, List.getD_eq_getElem?_getD, List.getElem?_eq_getElem hj]
    rfl
  by_cases hlt : k < ps.length
  · have hc := hcell k hlt
    have hmem : ps.getD k [] ∈ Sp.splitC m := by
      rw [← hps, List.getD_eq_getElem?_getD, List.getElem?_eq_getElem hlt]
      exact List.getElem_mem hlt
    have hgd : Sp.goodPiece (ps.getD k []) = decide ((ps.getD k []).length = 1 ∧ 97 ≤ ((ps.getD k []).getD (0 : Int).toNat 0).toNat ∧ ((ps.getD k []).getD (0 : Int).toNat 0).toNat ≤ 104) := by
      rw [Sp.goodPiece, Sp.okTag, ← Bool.decide_and]; rfl
    have hbadL : Sp.goodPiece (ps.getD k []) = false → Sp.parseL s = (0, 2) := fun h => by
      rw [hp]
      refine Sp.parse_form ?_
      rw [List.all_eq_false]
      exact ⟨_, hmem, by rw [h]; simp⟩
    clear hmem
    obtain ⟨t, htt⟩ : ∃ t, t = ps.getD k [] := ⟨_, rfl⟩
    rw [← htt] at hc hgd hbadL
    repeat' (first
      | (refine op_load1 (by rfl) (by rfl) (by rfl) hb1 hc ?_)
      | refine op_move (by rfl) (by rfl) (by rfl) ?_
      | refine op_assign (by rfl) (by rfl) (by rfl) ?_
      | refine op_pick_true (by rfl) (by rfl) (by rfl) (by rfl) ?_
      | refine op_pick_false (by rfl) (by rfl) (by rfl) (by rfl) ?_
      | refine op_lss (by rfl) (by rfl) (by rfl) (by rfl) ?_
      | refine op_gtr (by rfl) (by rfl) (by rfl) (by rfl) ?_
      | refine op_eql (by rfl) (by rfl) (by rfl) (by rfl) ?_
      | refine op_neq (by rfl) (by rfl) (by rfl) (by rfl) ?_
      | refine op_eql_str (by rfl) (by rfl) (by rfl) (by rfl) ?_
      | refine op_eql_bool (by rfl) (by rfl) (by rfl) (by rfl) ?_
      | refine op_eql_flat (by rfl) (by rfl) (by rfl) (by rfl) (by rfl) (by rfl) ?_
      | refine op_neq_str (by rfl) (by rfl) (by rfl) (by rfl) ?_
      | refine op_neq_bool (by rfl) (by rfl) (by rfl) (by rfl) ?_
      | refine op_neq_flat (by rfl) (by rfl) (by rfl) (by rfl) (by rfl) (by rfl) ?_
      | refine op_len_str (by rfl) (by rfl) (by rfl) ?_
      | refine op_len_slice (by rfl) (by rfl) (by rfl) ?_
      | refine op_add (by rfl) (by rfl) (by rfl) (by rfl) (by omega) ?_
      | refine op_sub (by rfl) (by rfl) (by rfl) (by rfl) (by omega) ?_
      | refine op_add_u8 (by rfl) (by rfl) (by rfl) (by rfl) (by omega) ?_
      | refine op_sub_u8 (by rfl) (by rfl) (by rfl) (by rfl) (by omega) ?_
      | refine op_and (by rfl) (by rfl) (by rfl) (by rfl) (by omega) (by omega) ?_
      | refine op_or (by rfl) (by rfl) (by rfl) (by rfl) (by omega) (by omega) ?_
      | refine op_indexAddr_arr (by rfl) (by rfl) (by rfl) (by rfl) (by omega) (by omega) ?_
      | refine op_index_str (by rfl) (by rfl) (by rfl) (by rfl) (by omega) (by omega) ?_
      | refine op_slice_str (by rfl) (by rfl) (by rfl) (by rfl) (by rfl) (by omega) ?_
      | refine op_slice_from (by rfl) (by rfl) (by rfl) (by rfl) (by omega) ?_
      | refine op_slice_to (by rfl) (by rfl) (by rfl) (by rfl) (by omega) ?_
      | refine op_indexAddr (by rfl) (by rfl) (by rfl) (by rfl) (by omega) (by omega) ?_
      | refine op_load1 (by rfl) (by rfl) (by rfl) (by assumption) (by rfl) ?_
      | refine wl_skip (by rfl) (by rfl) (by rfl) ?_
      | (refine wl_split_dec (by rfl) (by rfl) (by rfl) (fun _ => ?_) (fun _ => ?_) <;> (try first | contradiction | (exfalso; omega)))
      | (refine wl_split (by rfl) (by rfl) (by rfl) (fun _ => ?_) (fun _ => ?_) <;> (fail_if_success contradiction))
      | refine wl_nil ?_
      | refine at_then_normal ?_
      | refine at_then_ret ?_
      | refine at_then_exit ?_
      | refine at_block_normal ?_
      | refine at_block_ret ?_
      | refine at_block_exit ?_
      | refine at_block_other (by rfl) ?_
      | refine wc_seq ?_
      | refine wc_region ?_
      | refine wc_block ?_
      | refine wc_skip ?_
      | refine wc_exit ?_
      | refine wc_ret ?_
      | refine at_ret2 (by rfl) (by rfl) (by rfl) ?_
      | refine wc_cond_true (by rfl) ?_
      | refine wc_cond_false (by rfl) ?_
      | (refine wc_cond_dec (by rfl) (fun _ => ?_) (fun _ => ?_) <;> (try first | contradiction | (exfalso; omega)))
      | refine wc_cond (by rfl) (fun _ => ?_) (fun _ => ?_))
    all_goals first
      | (refine ⟨?_, hk1⟩; rw [parseV, hbadL (by rw [hgd]; exact decide_eq_false (by omega))]; rfl)
      | skip
    rename_i h5 h6 h7
    refine at_round (k + 1) (by exact ⟨rfl, rfl, rfl, rfl, rfl, trivial⟩) ⟨by omega, rfl, fun j hj => ?_⟩ (by omega)
    by_cases hjk : j = k
    · rw [hjk, ← htt, hgd]; exact decide_eq_true (by omega)
    · exact hall j (by omega)
  · have hallG : (Sp.splitC m).all Sp.goodPiece = true := by
      rw [List.all_eq_true]
      intro x hx
      rw [← hps] at hx
      obtain ⟨j, hj, rfl⟩ := List.mem_iff_getElem.1 hx
      have := hall j (by omega)
      rwa [List.getD_eq_getElem?_getD, List.getElem?_eq_getElem hj] at this
    obtain ⟨tl, ht1, ht2, ht3⟩ := Sp.good_mk hallG
    rw [ht1] at hp
    simp only [ht2, if_true] at hp
    rw [← hps] at ht3
    have hlen : ps.length = tl.length := by rw [ht3, List.length_map]
    repeat' (first
      | refine op_move (by rfl) (by rfl) (by rfl) ?_
      | refine op_assign (by rfl) (by rfl) (by rfl) ?_
      | refine op_pick_true (by rfl) (by rfl) (by rfl) (by rfl) ?_
      | refine op_pick_false (by rfl) (by rfl) (by rfl) (by rfl) ?_
      | refine op_lss (by rfl) (by rfl) (by rfl) (by rfl) ?_
      | refine op_gtr (by rfl) (by rfl) (by rfl) (by rfl) ?_
      | refine op_eql (by rfl) (by rfl) (by rfl) (by rfl) ?_
      | refine op_neq (by rfl) (by rfl) (by rfl) (by rfl) ?_
      | refine op_eql_str (by rfl) (by rfl) (by rfl) (by rfl) ?_
      | refine op_eql_bool (by rfl) (by rfl) (by rfl) (by rfl) ?_
      | refine op_eql_flat (by rfl) (by rfl) (by rfl) (by rfl) (by rfl) (by rfl) ?_
      | refine op_neq_str (by rfl) (by rfl) (by rfl) (by rfl) ?_
      | refine op_neq_bool (by rfl) (by rfl) (by rfl) (by rfl) ?_
      | refine op_neq_flat (by rfl) (by rfl) (by rfl) (by rfl) (by rfl) (by rfl) ?_
      | refine op_len_str (by rfl) (by rfl) (by rfl) ?_
      | refine op_len_slice (by rfl) (by rfl) (by rfl) ?_
      | refine op_add (by rfl) (by rfl) (by rfl) (by rfl) (by omega) ?_
      | refine op_sub (by rfl) (by rfl) (by rfl) (by rfl) (by omega) ?_
      | refine op_add_u8 (by rfl) (by rfl) (by rfl) (by rfl) (by omega) ?_
      | refine op_sub_u8 (by rfl) (by rfl) (by rfl) (by rfl) (by omega) ?_
      | refine op_and (by rfl) (by rfl) (by rfl) (by rfl) (by omega) (by omega) ?_
      | refine op_or (by rfl) (by rfl) (by rfl) (by rfl) (by omega) (by omega) ?_
      | refine op_indexAddr_arr (by rfl) (by rfl) (by rfl) (by rfl) (by omega) (by omega) ?_
      | refine op_index_str (by rfl) (by rfl) (by rfl) (by rfl) (by omega) (by omega) ?_
      | refine op_slice_str (by rfl) (by rfl) (by rfl) (by rfl) (by rfl) (by omega) ?_
      | refine op_slice_from (by rfl) (by rfl) (by rfl) (by rfl) (by omega) ?_
      | refine op_slice_to (by rfl) (by rfl) (by rfl) (by rfl) (by omega) ?_
      | refine op_indexAddr (by rfl) (by rfl) (by rfl) (by rfl) (by omega) (by omega) ?_
      | refine op_load1 (by rfl) (by rfl) (by rfl) (by assumption) (by rfl) ?_
      | refine wl_skip (by rfl) (by rfl) (by rfl) ?_
      | (refine wl_split_dec (by rfl) (by rfl) (by rfl) (fun _ => ?_) (fun _ => ?_) <;> (try first | contradiction | (exfalso; omega)))
      | (refine wl_split (by rfl) (by rfl) (by rfl) (fun _ => ?_) (fun _ => ?_) <;> (fail_if_success contradiction))
      | refine wl_nil ?_
      | refine at_then_normal ?_
      | refine at_then_ret ?_
      | refine at_then_exit ?_
      | refine at_block_normal ?_
      | refine at_block_ret ?_
      | refine at_block_exit ?_
      | refine at_block_other (by rfl) ?_
      | refine wc_seq ?_
      | refine wc_region ?_
      | refine wc_block ?_
      | refine wc_skip ?_
      | refine wc_exit ?_
      | refine wc_ret ?_
      | refine at_ret2 (by rfl) (by rfl) (by rfl) ?_
      | refine wc_cond_true (by rfl) ?_
      | refine wc_cond_false (by rfl) ?_
      | (refine wc_cond_dec (by rfl) (fun _ => ?_) (fun _ => ?_) <;> (try first | contradiction | (exfalso; omega)))
      | refine wc_cond (by rfl) (fun _ => ?_) (fun _ => ?_))
    refine wc_loop (fun x : Nat × Nat => [(4, .int .i64 (x.2 : Int)), (56, .slice (some ⟨w.heap.size, 0, none⟩) ps.length ps.length), (57, .int .i64 (ps.length : Int)), (58, .int .i64 (x.1 : Int))])
      (fun x w' => x.1 ≤ ps.length ∧ w' = w2 ∧ x.2 < 256 ∧ Sp.addTags (tl.drop x.1) x.2 = Sp.addTags tl 0) (fun x => ps.length - x.1) (0, 0) ⟨rfl, rfl, rfl, rfl, trivial⟩ ⟨by simp, rfl, by simp, rfl⟩ ?_
    rintro ⟨k, acc⟩ w3 ⟨hk2, rfl, hacc, hadd⟩
    dsimp only at hk2 hacc hadd ⊢
    by_cases hlt2 : k < ps.length
    · have hc := hcell k hlt2
      have hkt : k < tl.length := by omega
      have hpk : ps.getD k [] = [tl[k]] := by
        rw [ht3, List.getD_eq_getElem?_getD, List.getElem?_map, List.getElem?_eq_getElem hkt]; rfl
      have hok : Sp.okTag tl[k] = true := List.all_eq_true.1 ht2 _ (List.getElem_mem hkt)
      rw [List.drop_eq_getElem_cons hkt, Sp.addTags] at hadd
      rw [hpk] at hc
      generalize tl[k] = c at hc hok hadd
      have hok' : 97 ≤ c.toNat ∧ c.toNat ≤ 104 := of_decide_eq_true hok
      have hc0 : [c].getD (0 : Int).toNat 0 = c := rfl
      obtain ⟨q, hq⟩ : ∃ q, q = c.toNat - 97 := ⟨_, rfl⟩
      have hq8 : q < 8 := by omega
      rw [← hq] at hadd
      obtain ⟨hb1', hb2', _⟩ := Sp.tag_bits acc hacc q hq8
      have hpow : (1 : Int) * 2 ^ ((c.toNat : Int) - 97).toNat = ((2 ^ q : Nat) : Int) := by
        rw [Int.one_mul, show ((c.toNat : Int) - 97).toNat = q by omega, Int.natCast_pow]; rfl
      have hple : 2 ^ q < 256 := show 2 ^ q < 2 ^ 8 from Nat.pow_lt_pow_right (by decide) hq8
      generalize 2 ^ q = pq at hpow hple hb1' hb2' hadd
      repeat' (first
        | (refine op_load1 (by rfl) (by rfl) (by rfl) hb1 hc ?_)
        | (refine op_index_str (by rfl) (by rfl) (by rfl) (by rfl) (by decide) (by simp) ?_; rw [hc0])
        | (refine op_shl (by rfl) (by rfl) (by rfl) (by rfl) (by omega) (by rw [hpow]; omega) ?_; rw [hpow])
        | (refine op_and (by rfl) (by rfl) (by rfl) (by rfl) (by omega) (by omega) ?_; rw [Int.toNat_natCast, Int.toNat_natCast])
        | (refine op_or (by rfl) (by rfl) (by rfl) (by rfl) (by omega) (by omega) ?_; rw [Int.toNat_natCast, Int.toNat_natCast])
        | refine op_move (by rfl) (by rfl) (by rfl) ?_
        | refine op_assign (by rfl) (by rfl) (by rfl) ?_
        | refine op_pick_true (by rfl) (by rfl) (by rfl) (by rfl) ?_
        | refine op_pick_false (by rfl) (by rfl) (by rfl) (by rfl) ?_
        | refine op_lss (by rfl) (by rfl) (by rfl) (by rfl) ?_
        | refine op_gtr (by rfl) (by rfl) (by rfl) (by rfl) ?_
        | refine op_eql (by rfl) (by rfl) (by rfl) (by rfl) ?_
        | refine op_neq (by rfl) (by rfl) (by rfl) (by rfl) ?_
        | refine op_eql_str (by rfl) (by rfl) (by rfl) (by rfl) ?_
        | refine op_eql_bool (by rfl) (by rfl) (by rfl) (by rfl) ?_
        | refine op_eql_flat (by rfl) (by rfl) (by rfl) (by rfl) (by rfl) (by rfl) ?_
        | refine op_neq_str (by rfl) (by rfl) (by rfl) (by rfl) ?_
        | refine op_neq_bool (by rfl) (by rfl) (by rfl) (by rfl) ?_
        | refine op_neq_flat (by rfl) (by rfl) (by rfl) (by rfl) (by rfl) (by rfl) ?_
        | refine op_len_str (by rfl) (by rfl) (by rfl) ?_
        | refine op_len_slice (by rfl) (by rfl) (by rfl) ?_
        | refine op_add (by rfl) (by rfl) (by rfl) (by rfl) (by omega) ?_
        | refine op_sub (by rfl) (by rfl) (by rfl) (by rfl) (by omega) ?_
        | refine op_add_u8 (by rfl) (by rfl) (by rfl) (by rfl) (by omega) ?_
        | refine op_sub_u8 (by rfl) (by rfl) (by rfl) (by rfl) (by omega) ?_
        | refine op_and (by rfl) (by rfl) (by rfl) (by rfl) (by omega) (by omega) ?_
        | refine op_or (by rfl) (by rfl) (by rfl) (by rfl) (by omega) (by omega) ?_
        | refine op_indexAddr_arr (by rfl) (by rfl) (by rfl) (by rfl) (by omega) (by omega) ?_
        | refine op_index_str (by rfl) (by rfl) (by rfl) (by rfl) (by omega) (by omega) ?_
        | refine op_slice_str (by rfl) (by rfl) (by rfl) (by rfl) (by rfl) (by omega) ?_
        | refine op_slice_from (by rfl) (by rfl) (by rfl) (by rfl) (by omega) ?_
        | refine op_slice_to (by rfl) (by rfl) (by rfl) (by rfl) (by omega) ?_
        | refine op_indexAddr (by rfl) (by rfl) (by rfl) (by rfl) (by omega) (by omega) ?_
        | refine op_load1 (by rfl) (by rfl) (by rfl) (by assumption) (by rfl) ?_
        | refine wl_skip (by rfl) (by rfl) (by rfl) ?_
        | (refine wl_split_dec (by rfl) (by rfl) (by rfl) (fun _ => ?_) (fun _ => ?_) <;> (try first | contradiction | (exfalso; omega)))
        | (refine wl_split (by rfl) (by rfl) (by rfl) (fun _ => ?_) (fun _ => ?_) <;> (fail_if_success contradiction))
        | refine wl_nil ?_
        | refine at_then_normal ?_
        | refine at_then_ret ?_
        | refine at_then_exit ?_
        | refine at_block_normal ?_
        | refine at_block_ret ?_
        | refine at_block_exit ?_
        | refine at_block_other (by rfl) ?_
        | refine wc_seq ?_
        | refine wc_region ?_
        | refine wc_block ?_
        | refine wc_skip ?_
        | refine wc_exit ?_
        | refine wc_ret ?_
        | refine at_ret2 (by rfl) (by rfl) (by rfl) ?_
        | refine wc_cond_true (by rfl) ?_
        | refine wc_cond_false (by rfl) ?_
        | (refine wc_cond_dec (by rfl) (fun _ => ?_) (fun _ => ?_) <;> (try first | contradiction | (exfalso; omega)))
        | refine wc_cond (by rfl) (fun _ => ?_) (fun _ => ?_))
      · rename_i h5 h6
        have hbt : Sp.bit acc q = true := hb1'.1 (by omega)
        rw [if_pos hbt] at hadd
        refine ⟨?_, hk1⟩
        rw [← hadd] at hp
        rw [parseV, hp]; rfl
      · rename_i h5 h6
        have hbt : Sp.bit acc q = false := by
          rw [Bool.eq_false_iff]; intro h; exact hb1'.2 h (by omega)
        rw [hbt, if_neg (by simp)] at hadd
        obtain ⟨h7, h8⟩ := hb2' hbt
        refine at_round ((k + 1, acc + pq) : Nat × Nat) (by rw [h7]; exact ⟨rfl, rfl, rfl, rfl, trivial⟩) ?_ (by dsimp only; omega)
        exact ⟨by dsimp only; omega, rfl, h8, hadd⟩
    · have hd : tl.drop k = [] := List.drop_eq_nil_of_le (by omega)
      rw [hd, Sp.addTags] at hadd
      repeat' (first
        | refine op_move (by rfl) (by rfl) (by rfl) ?_
        | refine op_assign (by rfl) (by rfl) (by rfl) ?_
        | refine op_pick_true (by rfl) (by rfl) (by rfl) (by rfl) ?_
        | refine op_pick_false (by rfl) (by rfl) (by rfl) (by rfl) ?_
        | refine op_lss (by rfl) (by rfl) (by rfl) (by rfl) ?_
        | refine op_gtr (by rfl) (by rfl) (by rfl) (by rfl) ?_
        | refine op_eql (by rfl) (by rfl) (by rfl) (by rfl) ?_
        | refine op_neq (by rfl) (by rfl) (by rfl) (by rfl) ?_
        | refine op_eql_str (by rfl) (by rfl) (by rfl) (by rfl) ?_
        | refine op_eql_bool (by rfl) (by rfl) (by rfl) (by rfl) ?_
        | refine op_eql_flat (by rfl) (by rfl) (by rfl) (by rfl) (by rfl) (by rfl) ?_
        | refine op_neq_str (by rfl) (by rfl) (by rfl) (by rfl) ?_
        | refine op_neq_bool (by rfl) (by rfl) (by rfl) (by rfl) ?_
        | refine op_neq_flat (by rfl) (by rfl) (by rfl) (by rfl) (by rfl) (by rfl) ?_
        | refine op_len_str (by rfl) (by rfl) (by rfl) ?_
        | refine op_len_slice (by rfl) (by rfl) (by rfl) ?_
        | refine op_add (by rfl) (by rfl) (by rfl) (by rfl) (by omega) ?_
        | refine op_sub (by rfl) (by rfl) (by rfl) (by rfl) (by omega) ?_
        | refine op_add_u8 (by rfl) (by rfl) (by rfl) (by rfl) (by omega) ?_
        | refine op_sub_u8 (by rfl) (by rfl) (by rfl) (by rfl) (by omega) ?_
        | refine op_and (by rfl) (by rfl) (by rfl) (by rfl) (by omega) (by omega) ?_
        | refine op_or (by rfl) (by rfl) (by rfl) (by rfl) (by omega) (by omega) ?_
        | refine op_indexAddr_arr (by rfl) (by rfl) (by rfl) (by rfl) (by omega) (by omega) ?_
        | refine op_index_str (by rfl) (by rfl) (by rfl) (by rfl) (by omega) (by omega) ?_
        | refine op_slice_str (by rfl) (by rfl) (by rfl) (by rfl) (by rfl) (by omega) ?_
        | refine op_slice_from (by rfl) (by rfl) (by rfl) (by rfl) (by omega) ?_
        | refine op_slice_to (by rfl) (by rfl) (by rfl) (by rfl) (by omega) ?_
        | refine op_indexAddr (by rfl) (by rfl) (by rfl) (by rfl) (by omega) (by omega) ?_
        | refine op_load1 (by rfl) (by rfl) (by rfl) (by assumption) (by rfl) ?_
        | refine wl_skip (by rfl) (by rfl) (by rfl) ?_
        | (refine wl_split_dec (by rfl) (by rfl) (by rfl) (fun _ => ?_) (fun _ => ?_) <;> (try first | contradiction | (exfalso; omega)))
        | (refine wl_split (by rfl) (by rfl) (by rfl) (fun _ => ?_) (fun _ => ?_) <;> (fail_if_success contradiction))
        | refine wl_nil ?_
        | refine at_then_normal ?_
        | refine at_then_ret ?_
        | refine at_then_exit ?_
        | refine at_block_normal ?_
        | refine at_block_ret ?_
        | refine at_block_exit ?_
        | refine at_block_other (by rfl) ?_
        | refine wc_seq ?_
        | refine wc_region ?_
        | refine wc_block ?_
        | refine wc_skip ?_
        | refine wc_exit ?_
        | refine wc_ret ?_
        | refine at_ret2 (by rfl) (by rfl) (by rfl) ?_
        | refine wc_cond_true (by rfl) ?_
        | refine wc_cond_false (by rfl) ?_
        | (refine wc_cond_dec (by rfl) (fun _ => ?_) (fun _ => ?_) <;> (try first | contradiction | (exfalso; omega)))
        | refine wc_cond (by rfl) (fun _ => ?_) (fun _ => ?_))
      refine ⟨?_, hk1⟩
      rw [← hadd] at hp
      rw [parseV, hp]; rfl
end Go.Proofs.YtgoglhmnfiehoaaDoor
