/- Own work: what the reference's Label returns. -/
import Derived.Test.YtgoglhmnfiehoaaDoorLabel8
namespace Go.Sp
/-- a text that is right outside, byte by byte. -/
def goodAt (s : List UInt8) (i : Nat) : Bool := if i % 2 = 1 then okTag (s.getD i 0) else decide (s.getD i 0 = 44)
theorem parse_ref_bad {s : List UInt8} (h : s ≠ [123, 125]) (hb : s.length % 2 = 0 ∨ s.length < 3 ∨ s.getD 0 0 ≠ 123 ∨ s.getD (s.length - 1) 0 ≠ 125) : parseL s = (0, 2) := by
  by_cases hg : s.length < 2 ∨ s.getD 0 0 ≠ 123 ∨ s.getD (s.length - 1) 0 ≠ 125
  · exact parseL_bad hg
  · rw [parseL, if_neg hg]
    have h1 : 2 ≤ s.length := by omega
    have h2 : s.getD 0 0 = 123 := Classical.byContradiction (fun e => hg (.inr (.inl e)))
    have h3 : s.getD (s.length - 1) 0 = 125 := Classical.byContradiction (fun e => hg (.inr (.inr e)))
    have hb' : s.length % 2 = 0 ∨ s.length < 3 := by
      rcases hb with hb | hb | hb | hb
      · exact .inl hb
      · exact .inr hb
      · exact absurd h2 hb
      · exact absurd h3 hb
    dsimp only
    have hml : ((s.drop 1).take (s.length - 1 - 1)).length = s.length - 2 := by rw [List.length_take, List.length_drop]; omega
    rw [if_neg (by
      intro e
      rw [e] at hml
      have hl2 : s.length = 2 := by simp at hml; omega
      apply h
      match s, hl2 with
      | [a, b], _ => simp at h2 h3; rw [h2, h3])]
    cases hu : uncommas ((s.drop 1).take (s.length - 1 - 1)) with
    | none => rfl
    | some l =>
      have := (uncommas_evens _ l hu).2.1
      rw [hml] at this
      omega
theorem parse_ref_in {s : List UInt8} (h3 : 3 ≤ s.length) (hodd : s.length % 2 = 1) (h0 : s.getD 0 0 = 123) (h1 : s.getD (s.length - 1) 0 = 125) :
    (∀ m, m = (s.drop 1).take (s.length - 1 - 1) → (∀ i, 1 ≤ i → i < s.length - 1 → goodAt s i = true) → (evens m).all okTag = true ∧ (evens m).length = (s.length - 1) / 2 ∧ (∀ k, k < (evens m).length → (evens m)[k]? = some (s.getD (2 * k + 1) 0)) ∧ parseL s = (match addTags (evens m) 0 with | none => (0, 7) | some n => (n, 0))) ∧
    (∀ i, 1 ≤ i → i < s.length - 1 → goodAt s i = false → parseL s = (0, 2)) := by
  have hg : ¬ (s.length < 2 ∨ s.getD 0 0 ≠ 123 ∨ s.getD (s.length - 1) 0 ≠ 125) := by
    rintro (h | h | h)
    · omega
    · exact h h0
    · exact h h1
  have hp : parseL s = (let m := (s.drop 1).take (s.length - 1 - 1)
      if m = [] then (0, 0) else
      match uncommas m with
      | none => (0, 2)
      | some l => if l.all okTag then (match addTags l 0 with | none => (0, 7) | some n => (n, 0)) else (0, 2)) := by rw [parseL, if_neg hg]; rfl
  dsimp only at hp
  obtain ⟨m, hm⟩ : ∃ m, m = (s.drop 1).take (s.length - 1 - 1) := ⟨_, rfl⟩
  rw [← hm] at hp
  have hml : m.length = s.length - 2 := by rw [hm, List.length_take, List.length_drop]; omega
  have hget : ∀ j, j < m.length → m.getD j 0 = s.getD (j + 1) 0 := fun j hj => by
    rw [hm, List.getD_eq_getElem?_getD, List.getElem?_take, if_pos (by omega), List.getElem?_drop, List.getD_eq_getElem?_getD, Nat.add_comm]
  have hne : m ≠ [] := by intro e; rw [e] at hml; simp at hml; omega
  rw [if_neg hne] at hp
  refine ⟨fun m' hm' hall => ?_, fun i hi1 hi2 hbad => ?_⟩
  · rw [← hm] at hm'
    subst hm'
    have hu := uncommas_mk m' (by omega) (fun j hj hj1 => by
      rw [hget j hj]
      have := hall (j + 1) (by omega) (by omega)
      rw [goodAt, if_neg (by omega)] at this
      exact of_decide_eq_true this)
    have ha : (evens m').all okTag = true := (evens_all okTag m').2 (fun j hj hj1 => by
      rw [hget j hj]
      have := hall (j + 1) (by omega) (by omega)
      rw [goodAt, if_pos (by omega)] at this
      exact this)
    have hel := evens_len m'
    refine ⟨ha, by omega, fun k hk => ?_, ?_⟩
    · rw [evens_get m' k (by omega), hget _ (by omega)]
    · rw [hp, hu]
      simp only [ha, if_true]
  · rw [hp]
    cases hu : uncommas m with
    | none => rfl
    | some l =>
      obtain ⟨he, ho, hc⟩ := uncommas_evens m l hu
      dsimp only
      split
      · rename_i hl
        exfalso
        have hj : i - 1 < m.length := by omega
        have hgi := hget (i - 1) hj
        rw [show i - 1 + 1 = i by omega] at hgi
        rw [goodAt] at hbad
        split at hbad
        · rename_i h5
          rw [he] at hl
          have := (evens_all okTag m).1 hl (i - 1) hj (by omega)
          rw [hgi, hbad] at this
          cases this
        · rename_i h5
          have := hc (i - 1) hj (by omega)
          rw [hgi] at this
          rw [this] at hbad
          simp at hbad
      · rfl
end Go.Sp
namespace Go.Proofs.YtgoglhmnfiehoaaDoor
open Go.Fw
set_option maxHeartbeats 4000000 in
theorem c_rlabel (s : List UInt8) (hl : s.length ≤ 1048576) (w : World) : Cal Tryd.prog 7 #[str s] w fun v w' => v = parseV s ∧ Kept [] w w' := by
  refine enter (N := 87) Tryd.func7 rfl [(0, str s)] args1 rfl ?_
  by_cases hz : s = [123, 125]
  · subst hz
    repeat' (first
      | refine op_move (by rfl) (by rfl) (by rfl) ?_
      | refine op_assign (by rfl) (by rfl) (by rfl) ?_
      | refine op_pick_true (by rfl) (by rfl) (by rfl) (by rfl) ?_
      | refine op_pick_false (by rfl) (by rfl) (by rfl) (by rfl) ?_
      | refine op_lss (by rfl) (by rfl) (by rfl) (by rfl) ?_
      | refine op_gtr (by rfl) (by rfl) (by rfl) (by rfl) ?_
      | refine op_eql (by rfl) (by rfl) (by rfl) (by rfl) ?_
      | refine op_neq (by rfl) (by rfl) (by rfl) (by rfl) ?_
      | refine op_eql_str (by rfl) (by rfl) (by rfl) (by rfl) ?_
      | refine op_eql_bool (by rfl) (by rfl) (by rfl) (by rfl) ?_
      | refine op_eql_flat (by rfl) (by rfl) (by rfl) (by rfl) (by rfl) (by rfl) ?_
      | refine op_neq_str (by rfl) (by rfl) (by rfl) (by rfl) ?_
      | refine op_neq_bool (by rfl) (by rfl) (by rfl) (by rfl) ?_
      | refine op_neq_flat (by rfl) (by rfl) (by rfl) (by rfl) (by rfl) (by rfl) ?_
      | refine op_len_str (by rfl) (by rfl) (by rfl) ?_
      | refine op_len_slice (by rfl) (by rfl) (by rfl) ?_
      | refine op_add (by rfl) (by rfl) (by rfl) (by rfl) (by omega) ?_
      | refine op_sub (by rfl) (by rfl) (by rfl) (by rfl) (by omega) ?_
      | refine op_add_u8 (by rfl) (by rfl) (by rfl) (by rfl) (by omega) ?_
      | refine op_sub_u8 (by rfl) (by rfl) (by rfl) (by rfl) (by omega) ?_
      | refine op_mul (by rfl) (by rfl) (by rfl) (by rfl) (by omega) ?_
      | refine op_rem (by rfl) (by rfl) (by rfl) (by rfl) (by omega) ?_
      | refine op_index_str (by rfl) (by rfl) (by rfl) (by rfl) (by omega) (by omega) ?_
      | refine wl_skip (by rfl) (by rfl) (by rfl) ?_
      | (refine wl_split_dec (by rfl) (by rfl) (by rfl) (fun _ => ?_) (fun _ => ?_) <;> (try first | contradiction | (exfalso; omega)))
      | (refine wl_split (by rfl) (by rfl) (by rfl) (fun _ => ?_) (fun _ => ?_) <;> (fail_if_success contradiction))
      | refine wl_nil ?_
      | refine at_then_normal ?_
      | refine at_then_ret ?_
      | refine at_then_exit ?_
      | refine at_block_normal ?_
      | refine at_block_ret ?_
      | refine at_block_exit ?_
      | refine at_block_other (by rfl) ?_
      | refine wc_seq ?_
      | refine wc_region ?_
      | refine wc_block ?_
      | refine wc_skip ?_
      | refine wc_exit ?_
      | refine wc_ret ?_
      | refine at_ret2 (by rfl) (by rfl) (by rfl) ?_
      | refine wc_cond_true (by rfl) ?_
      | refine wc_cond_false (by rfl) ?_
      | (refine wc_cond_dec (by rfl) (fun _ => ?_) (fun _ => ?_) <;> (try first | contradiction | (exfalso; omega)))
      | refine wc_cond (by rfl) (fun _ => ?_) (fun _ => ?_))
    exact ⟨rfl, Kept.refl _ _⟩
  by_cases h2 : s.length % 2 = 0 ∨ s.length < 3
  · have hb := Sp.parse_ref_bad hz (by omega)
    repeat' (first
      | refine op_move (by rfl) (by rfl) (by rfl) ?_
      | refine op_assign (by rfl) (by rfl) (by rfl) ?_
      | refine op_pick_true (by rfl) (by rfl) (by rfl) (by rfl) ?_
      | refine op_pick_false (by rfl) (by rfl) (by rfl) (by rfl) ?_
      | refine op_lss (by rfl) (by rfl) (by rfl) (by rfl) ?_
      | refine op_gtr (by rfl) (by rfl) (by rfl) (by rfl) ?_
      | refine op_eql (by rfl) (by rfl) (by rfl) (by rfl) ?_
      | refine op_neq (by rfl) (by rfl) (by rfl) (by rfl) ?_
      | refine op_eql_str (by rfl) (by rfl) (by rfl) (by rfl) ?_
      | refine op_eql_bool (by rfl) (by rfl) (by rfl) (by rfl) ?_
      | refine op_eql_flat (by rfl) (by rfl) (by rfl) (by rfl) (by rfl) (by rfl) ?_
      | refine op_neq_str (by rfl) (by rfl) (by rfl) (by rfl) ?_
      | refine op_neq_bool (by rfl) (by rfl) (by rfl) (by rfl) ?_
      | refine op_neq_flat (by rfl) (by rfl) (by rfl) (by rfl) (by rfl) (by rfl) ?_
      | refine op_len_str (by rfl) (by rfl) (by rfl) ?_
      | refine op_len_slice (by rfl) (by rfl) (by rfl) ?_
      | refine op_add (by rfl) (by rfl) (by rfl) (by rfl) (by omega) ?_
      | refine op_sub (by rfl) (by rfl) (by rfl) (by rfl) (by omega) ?_
      | refine op_add_u8 (by rfl) (by rfl) (by rfl) (by rfl) (by omega) ?_
      | refine op_sub_u8 (by rfl) (by rfl) (by rfl) (by rfl) (by omega) ?_
      | refine op_mul (by rfl) (by rfl) (by rfl) (by rfl) (by omega) ?_
      | refine op_rem (by rfl) (by rfl) (by rfl) (by rfl) (by omega) ?_
      | refine op_index_str (by rfl) (by rfl) (by rfl) (by rfl) (by omega) (by omega) ?_
      | refine wl_skip (by rfl) (by rfl) (by rfl) ?_
      | (refine wl_split_dec (by rfl) (by rfl) (by rfl) (fun _ => ?_) (fun _ => ?_) <;> (try first | contradiction | (exfalso; omega)))
      | (refine wl_split (by rfl) (by rfl) (by rfl) (fun _ => ?_) (fun _ => ?_) <;> (fail_if_success contradiction))
      | refine wl_nil ?_
      | refine at_then_normal ?_
      | refine at_then_ret ?_
      | refine at_then_exit ?_
      | refine at_block_normal ?_
      | refine at_block_ret ?_
      | refine at_block_exit ?_
      | refine at_block_other (by rfl) ?_
      | refine wc_seq ?_
      | refine wc_region ?_
      | refine wc_block ?_
      | refine wc_skip ?_
      | refine wc_exit ?_
      | refine wc_ret ?_
      | refine at_ret2 (by rfl) (by rfl) (by rfl) ?_
      | refine wc_cond_true (by rfl) ?_
      | refine wc_cond_false (by rfl) ?_
      | (refine wc_cond_dec (by rfl) (fun _ => ?_) (fun _ => ?_) <;> (try first | contradiction | (exfalso; omega)))
      | refine wc_cond (by rfl) (fun _ => ?_) (fun _ => ?_))
    all_goals (refine ⟨?_, Kept.refl _ _⟩; rw [parseV, hb]; rfl)
  have e0 : s.getD (0 : Int).toNat 0 = s.getD 0 0 := rfl
  have e1 : s.getD ((s.length : Int) - 1).toNat 0 = s.getD (s.length - 1) 0 := congrArg (s.getD · 0) (by omega)
  by_cases h3 : s.getD 0 0 ≠ 123
  · have hb := Sp.parse_ref_bad hz (.inr (.inr (.inl h3)))
    have h3' := (Sp.u8_ne (n := 123) (by omega)).2 h3
    repeat' (first
      | refine op_move (by rfl) (by rfl) (by rfl) ?_
      | refine op_assign (by rfl) (by rfl) (by rfl) ?_
      | refine op_pick_true (by rfl) (by rfl) (by rfl) (by rfl) ?_
      | refine op_pick_false (by rfl) (by rfl) (by rfl) (by rfl) ?_
      | refine op_lss (by rfl) (by rfl) (by rfl) (by rfl) ?_
      | refine op_gtr (by rfl) (by rfl) (by rfl) (by rfl) ?_
      | refine op_eql (by rfl) (by rfl) (by rfl) (by rfl) ?_
      | refine op_neq (by rfl) (by rfl) (by rfl) (by rfl) ?_
      | refine op_eql_str (by rfl) (by rfl) (by rfl) (by rfl) ?_
      | refine op_eql_bool (by rfl) (by rfl) (by rfl) (by rfl) ?_
      | refine op_eql_flat (by rfl) (by rfl) (by rfl) (by rfl) (by rfl) (by rfl) ?_
      | refine op_neq_str (by rfl) (by rfl) (by rfl) (by rfl) ?_
      | refine op_neq_bool (by rfl) (by rfl) (by rfl) (by rfl) ?_
      | refine op_neq_flat (by rfl) (by rfl) (by rfl) (by rfl) (by rfl) (by rfl) ?_
      | refine op_len_str (by rfl) (by rfl) (by rfl) ?_
      | refine op_len_slice (by rfl) (by rfl) (by rfl) ?_
      | refine op_add (by rfl) (by rfl) (by rfl) (by rfl) (by omega) ?_
      | refine op_sub (by rfl) (by rfl) (by rfl) (by rfl) (by omega) ?_
      | refine op_add_u8 (by rfl) (by rfl) (by rfl) (by rfl) (by omega) ?_
      | refine op_sub_u8 (by rfl) (by rfl) (by rfl) (by rfl) (by omega) ?_
      | refine op_mul (by rfl) (by rfl) (by rfl) (by rfl) (by omega) ?_
      | refine op_rem (by rfl) (by rfl) (by rfl) (by rfl) (by omega) ?_
      | refine op_index_str (by rfl) (by rfl) (by rfl) (by rfl) (by omega) (by omega) ?_
      | refine wl_skip (by rfl) (by rfl) (by rfl) ?_
      | (refine wl_split_dec (by rfl) (by rfl) (by rfl) (fun _ => ?_) (fun _ => ?_) <;> (try first | contradiction | (exfalso; omega)))
      | (refine wl_split (by rfl) (by rfl) (by rfl) (fun _ => ?_) (fun _ => ?_) <;> (fail_if_success contradiction))
      | refine wl_nil ?_
      | refine at_then_normal ?_
      | refine at_then_ret ?_
      | refine at_then_exit ?_
      | refine at_block_normal ?_
      | refine at_block_ret ?_
      | refine at_block_exit ?_
      | refine at_block_other (by rfl) ?_
      | refine wc_seq ?_
      | refine wc_region ?_
      | refine wc_block ?_
      | refine wc_skip ?_
      | refine wc_exit ?_
      | refine wc_ret ?_
      | refine at_ret2 (by rfl) (by rfl) (by rfl) ?_
      | refine wc_cond_true (by rfl) ?_
      | refine wc_cond_false (by rfl) ?_
      | (refine wc_cond_dec (by rfl) (fun _ => ?_) (fun _ => ?_) <;> (try first | contradiction | (exfalso; omega)))
      | refine wc_cond (by rfl) (fun _ => ?_) (fun _ => ?_))
    all_goals first
      | (refine ⟨?_, Kept.refl _ _⟩; rw [parseV, hb]; rfl)
      | (rw [e0] at *; contradiction)
  have h3' : ((s.getD 0 0).toNat : Int) = 123 := by
    have := mt (Sp.u8_ne (n := 123) (by omega)).1 h3
    simpa using this
  by_cases h4 : s.getD (s.length - 1) 0 ≠ 125
  · have hb := Sp.parse_ref_bad hz (.inr (.inr (.inr h4)))
    have h4' := (Sp.u8_ne (n := 125) (by omega)).2 h4
    rw [← e1] at h4'
    repeat' (first
      | refine op_move (by rfl) (by rfl) (by rfl) ?_
      | refine op_assign (by rfl) (by rfl) (by rfl) ?_
      | refine op_pick_true (by rfl) (by rfl) (by rfl) (by rfl) ?_
      | refine op_pick_false (by rfl) (by rfl) (by rfl) (by rfl) ?_
      | refine op_lss (by rfl) (by rfl) (by rfl) (by rfl) ?_
      | refine op_gtr (by rfl) (by rfl) (by rfl) (by rfl) ?_
      | refine op_eql (by rfl) (by rfl) (by rfl) (by rfl) ?_
      | refine op_neq (by rfl) (by rfl) (by rfl) (by rfl) ?_
      | refine op_eql_str (by rfl) (by rfl) (by rfl) (by rfl) ?_
      | refine op_eql_bool (by rfl) (by rfl) (by rfl) (by rfl) ?_
      | refine op_eql_flat (by rfl) (by rfl) (by rfl) (by rfl) (by rfl) (by rfl) ?_
      | refine op_neq_str (by rfl) (by rfl) (by rfl) (by rfl) ?_
      | refine op_neq_bool (by rfl) (by rfl) (by rfl) (by rfl) ?_
      | refine op_neq_flat (by rfl) (by rfl) (by rfl) (by rfl) (by rfl) (by rfl) ?_
      | refine op_len_str (by rfl) (by rfl) (by rfl) ?_
      | refine op_len_slice (by rfl) (by rfl) (by rfl) ?_
      | refine op_add (by rfl) (by rfl) (by rfl) (by rfl) (by omega) ?_
      | refine op_sub (by rfl) (by rfl) (by rfl) (by rfl) (by omega) ?_
      | refine op_add_u8 (by rfl) (by rfl) (by rfl) (by rfl) (by omega) ?_
      | refine op_sub_u8 (by rfl) (by rfl) (by rfl) (by rfl) (by omega) ?_
      | refine op_mul (by rfl) (by rfl) (by rfl) (by rfl) (by omega) ?_
      | refine op_rem (by rfl) (by rfl) (by rfl) (by rfl) (by omega) ?_
      | refine op_index_str (by rfl) (by rfl) (by rfl) (by rfl) (by omega) (by omega) ?_
      | refine wl_skip (by rfl) (by rfl) (by rfl) ?_
      | (refine wl_split_dec (by rfl) (by rfl) (by rfl) (fun _ => ?_) (fun _ => ?_) <;> (try first | contradiction | (exfalso; omega)))
      | (refine wl_split (by rfl) (by rfl) (by rfl) (fun _ => ?_) (fun _ => ?_) <;> (fail_if_success contradiction))
      | refine wl_nil ?_
      | refine at_then_normal ?_
      | refine at_then_ret ?_
      | refine at_then_exit ?_
      | refine at_block_normal ?_
      | refine at_block_ret ?_
      | refine at_block_exit ?_
      | refine at_block_other (by rfl) ?_
      | refine wc_seq ?_
      | refine wc_region ?_
      | refine wc_block ?_
      | refine wc_skip ?_
      | refine wc_exit ?_
      | refine wc_ret ?_
      | refine at_ret2 (by rfl) (by rfl) (by rfl) ?_
      | refine wc_cond_true (by rfl) ?_
      | refine wc_cond_false (by rfl) ?_
      | (refine wc_cond_dec (by rfl) (fun _ => ?_) (fun _ => ?_) <;> (try first | contradiction | (exfalso; omega)))
      | refine wc_cond (by rfl) (fun _ => ?_) (fun _ => ?_))
    all_goals first
      | (refine ⟨?_, Kept.refl _ _⟩; rw [parseV, hb]; rfl)
      | contradiction
  have h4' : ((s.getD ((s.length : Int) - 1).toNat 0).toNat : Int) = 125 := by
    have := mt (Sp.u8_ne (n := 125) (by omega)).1 h4
    rw [e1]
    simpa using this
  obtain ⟨hgood, hbadL⟩ := Sp.parse_ref_in (s := s) (by omega) (by omega) (Classical.byContradiction h3) (Classical.byContradiction h4)
  repeat' (first
    | refine op_move (by rfl) (by rfl) (by rfl) ?_
    | refine op_assign (by rfl) (by rfl) (by rfl) ?_
    | refine op_pick_true (by rfl) (by rfl) (by rfl) (by rfl) ?_
    | refine op_pick_false (by rfl) (by rfl) (by rfl) (by rfl) ?_
    | refine op_lss (by rfl) (by rfl) (by rfl) (by rfl) ?_
    | refine op_gtr (by rfl) (by rfl) (by rfl) (by rfl) ?_
    | refine op_eql (by rfl) (by rfl) (by rfl) (by rfl) ?_
    | refine op_neq (by rfl) (by rfl) (by rfl) (by rfl) ?_
    | refine op_eql_str (by rfl) (by rfl) (by rfl) (by rfl) ?_
    | refine op_eql_bool (by rfl) (by rfl) (by rfl) (by rfl) ?_
    | refine op_eql_flat (by rfl) (by rfl) (by rfl) (by rfl) (by rfl) (by rfl) ?_
    | refine op_neq_str (by rfl) (by rfl) (by rfl) (by rfl) ?_
    | refine op_neq_bool (by rfl) (by rfl) (by rfl) (by rfl) ?_
    | refine op_neq_flat (by rfl) (by rfl) (by rfl) (by rfl) (by rfl) (by rfl) ?_
    | refine op_len_str (by rfl) (by rfl) (by rfl) ?_
    | refine op_len_slice (by rfl) (by rfl) (by rfl) ?_
    | refine op_add (by rfl) (by rfl) (by rfl) (by rfl) (by omega) ?_
    | refine op_sub (by rfl) (by rfl) (by rfl) (by rfl) (by omega) ?_
    | refine op_add_u8 (by rfl) (by rfl) (by rfl) (by rfl) (by omega) ?_
    | refine op_sub_u8 (by rfl) (by rfl) (by rfl) (by rfl) (by omega) ?_
    | refine op_mul (by rfl) (by rfl) (by rfl) (by rfl) (by omega) ?_
    | refine op_rem (by rfl) (by rfl) (by rfl) (by rfl) (by omega) ?_
    | refine op_index_str (by rfl) (by rfl) (by rfl) (by rfl) (by omega) (by omega) ?_
    | refine wl_skip (by rfl) (by rfl) (by rfl) ?_
    | (refine wl_split_dec (by rfl) (by rfl) (by rfl) (fun _ => ?_) (fun _ => ?_) <;> (try first | contradiction | (exfalso; omega)))
    | (refine wl_split (by rfl) (by rfl) (by rfl) (fun _ => ?_) (fun _ => ?_) <;> (fail_if_success contradiction))
    | refine wl_nil ?_
    | refine at_then_normal ?_
    | refine at_then_ret ?_
    | refine at_then_exit ?_
    | refine at_block_normal ?_
    | refine at_block_ret ?_
    | refine at_block_exit ?_
    | refine at_block_other (by rfl) ?_
    | refine wc_seq ?_
    | refine wc_region ?_
    | refine wc_block ?_
    | refine wc_skip ?_
    | refine wc_exit ?_
    | refine wc_ret ?_
    | refine at_ret2 (by rfl) (by rfl) (by rfl) ?_
    | refine wc_cond_true (by rfl) ?_
    | refine wc_cond_false (by rfl) ?_
    | (refine wc_cond_dec (by rfl) (fun _ => ?_) (fun _ => ?_) <;> (try first | contradiction | (exfalso; omega)))
    | refine wc_cond (by rfl) (fun _ => ?_) (fun _ => ?_))
  refine wc_loop (fun i : Nat => [(0, str s), (4, .int .i64 (i : Int))])
    (fun i w' => 1 ≤ i ∧ i ≤ s.length - 1 ∧ w' = w ∧ ∀ j, 1 ≤ j → j < i → Sp.goodAt s j = true) (fun i => s.length - i) 1 ⟨rfl, rfl, trivial⟩ ⟨by omega, by omega, rfl, fun j _ hj => by omega⟩ ?_
  rintro i w1 ⟨hi1, hi2, rfl, hall⟩
  have ei : s.getD (i : Int).toNat 0 = s.getD i 0 := rfl
  by_cases hlt : i < s.length - 1
  · have hbad := hbadL i hi1 hlt
    have hgd : Sp.goodAt s i = if i % 2 = 1 then decide (97 ≤ (s.getD (i : Int).toNat 0).toNat ∧ (s.getD (i : Int).toNat 0).toNat ≤ 104) else decide ((s.getD (i : Int).toNat 0).toNat = 44) := by
      rw [Sp.goodAt, ei]
      split
      · rfl
      · rw [Bool.eq_iff_iff, decide_eq_true_eq, decide_eq_true_eq, ← UInt8.toNat_inj]; rfl
    repeat' (first
      | refine op_move (by rfl) (by rfl) (by rfl) ?_
      | refine op_assign (by rfl) (by rfl) (by rfl) ?_
      | refine op_pick_true (by rfl) (by rfl) (by rfl) (by rfl) ?_
      | refine op_pick_false (by rfl) (by rfl) (by rfl) (by rfl) ?_
      | refine op_lss (by rfl) (by rfl) (by rfl) (by rfl) ?_
      | refine op_gtr (by rfl) (by rfl) (by rfl) (by rfl) ?_
      | refine op_eql (by rfl) (by rfl) (by rfl) (by rfl) ?_
      | refine op_neq (by rfl) (by rfl) (by rfl) (by rfl) ?_
      | refine op_eql_str (by rfl) (by rfl) (by rfl) (by rfl) ?_
      | refine op_eql_bool (by rfl) (by rfl) (by rfl) (by rfl) ?_
      | refine op_eql_flat (by rfl) (by rfl) (by rfl) (by rfl) (by rfl) (by rfl) ?_
      | refine op_neq_str (by rfl) (by rfl) (by rfl) (by rfl) ?_
      | refine op_neq_bool (by rfl) (by rfl) (by rfl) (by rfl) ?_
      | refine op_neq_flat (by rfl) (by rfl) (by rfl) (by rfl) (by rfl) (by rfl) ?_
      | refine op_len_str (by rfl) (by rfl) (by rfl) ?_
      | refine op_len_slice (by rfl) (by rfl) (by rfl) ?_
      | refine op_add (by rfl) (by rfl) (by rfl) (by rfl) (by omega) ?_
      | refine op_sub (by rfl) (by rfl) (by rfl) (by rfl) (by omega) ?_
      | refine op_add_u8 (by rfl) (by rfl) (by rfl) (by rfl) (by omega) ?_
      | refine op_sub_u8 (by rfl) (by rfl) (by rfl) (by rfl) (by omega) ?_
      | refine op_mul (by rfl) (by rfl) (by rfl) (by rfl) (by omega) ?_
      | refine op_rem (by rfl) (by rfl) (by rfl) (by rfl) (by omega) ?_
      | refine op_index_str (by rfl) (by rfl) (by rfl) (by rfl) (by omega) (by omega) ?_
      | refine wl_skip (by rfl) (by rfl) (by rfl) ?_
      | (refine wl_split_dec (by rfl) (by rfl) (by rfl) (fun _ => ?_) (fun _ => ?_) <;> (try first | contradiction | (exfalso; omega)))
      | (refine wl_split (by rfl) (by rfl) (by rfl) (fun _ => ?_) (fun _ => ?_) <;> (fail_if_success contradiction))
      | refine wl_nil ?_
      | refine at_then_normal ?_
      | refine at_then_ret ?_
      | refine at_then_exit ?_
      | refine at_block_normal ?_
      | refine at_block_ret ?_
      | refine at_block_exit ?_
      | refine at_block_other (by rfl) ?_
      | refine wc_seq ?_
      | refine wc_region ?_
      | refine wc_block ?_
      | refine wc_skip ?_
      | refine wc_exit ?_
      | refine wc_ret ?_
      | refine at_ret2 (by rfl) (by rfl) (by rfl) ?_
      | refine wc_cond_true (by rfl) ?_
      | refine wc_cond_false (by rfl) ?_
      | (refine wc_cond_dec (by rfl) (fun _ => ?_) (fun _ => ?_) <;> (try first | contradiction | (exfalso; omega)))
      | refine wc_cond (by rfl) (fun _ => ?_) (fun _ => ?_))
    all_goals first
      | (refine ⟨?_, Kept.refl _ _⟩; rw [parseV, hbad (by rw [hgd]; first | rw [if_pos (by omega)] | rw [if_neg (by omega)]
                                                          exact decide_eq_false (by omega))]; rfl)
      | (refine at_round (i + 1) (by exact ⟨rfl, rfl, trivial⟩) ⟨by omega, by omega, rfl, fun j hj0 hj => ?_⟩ (by omega)
         by_cases hjk : j = i
         · rw [hjk, hgd]; first | rw [if_pos (by omega)] | rw [if_neg (by omega)]
           exact decide_eq_true (by omega)
         · exact hall j hj0 (by omega))
  · obtain ⟨ht2, hel, hget, hp⟩ := hgood _ rfl (fun j h5 h6 => hall j h5 (by omega))
    obtain ⟨tl, htl⟩ : ∃ tl, tl = Sp.evens ((s.drop 1).take (s.length - 1 - 1)) := ⟨_, rfl⟩
    rw [← htl] at ht2 hel hget hp
    repeat' (first
      | refine op_move (by rfl) (by rfl) (by rfl) ?_
      | refine op_assign (by rfl) (by rfl) (by rfl) ?_
      | refine op_pick_true (by rfl) (by rfl) (by rfl) (by rfl) ?_
      | refine op_pick_false (by rfl) (by rfl) (by rfl) (by rfl) ?_
      | refine op_lss (by rfl) (by rfl) (by rfl) (by rfl) ?_
      | refine op_gtr (by rfl) (by rfl) (by rfl) (by rfl) ?_
      | refine op_eql (by rfl) (by rfl) (by rfl) (by rfl) ?_
      | refine op_neq (by rfl) (by rfl) (by rfl) (by rfl) ?_
      | refine op_eql_str (by rfl) (by rfl) (by rfl) (by rfl) ?_
      | refine op_eql_bool (by rfl) (by rfl) (by rfl) (by rfl) ?_
      | refine op_eql_flat (by rfl) (by rfl) (by rfl) (by rfl) (by rfl) (by rfl) ?_
      | refine op_neq_str (by rfl) (by rfl) (by rfl) (by rfl) ?_
      | refine op_neq_bool (by rfl) (by rfl) (by rfl) (by rfl) ?_
      | refine op_neq_flat (by rfl) (by rfl) (by rfl) (by rfl) (by rfl) (by rfl) ?_
      | refine op_len_str (by rfl) (by rfl) (by rfl) ?_
      | refine op_len_slice (by rfl) (by rfl) (by rfl) ?_
      | refine op_add (by rfl) (by rfl) (by rfl) (by rfl) (by omega) ?_
      | refine op_sub (by rfl) (by rfl) (by rfl) (by rfl) (by omega) ?_
      | refine op_add_u8 (by rfl) (by rfl) (by rfl) (by rfl) (by omega) ?_
      | refine op_sub_u8 (by rfl) (by rfl) (by rfl) (by rfl) (by omega) ?_
      | refine op_mul (by rfl) (by rfl) (by rfl) (by rfl) (by omega) ?_
      | refine op_rem (by rfl) (by rfl) (by rfl) (by rfl) (by omega) ?_
      | refine op_index_str (by rfl) (by rfl) (by rfl) (by rfl) (by omega) (by omega) ?_
      | refine wl_skip (by rfl) (by rfl) (by rfl) ?_
      | (refine wl_split_dec (by rfl) (by rfl) (by rfl) (fun _ => ?_) (fun _ => ?_) <;> (try first | contradiction | (exfalso; omega)))
      | (refine wl_split (by rfl) (by rfl) (by rfl) (fun _ => ?_) (fun _ => ?_) <;> (fail_if_success contradiction))
      | refine wl_nil ?_
      | refine at_then_normal ?_
      | refine at_then_ret ?_
      | refine at_then_exit ?_
      | refine at_block_normal ?_
      | refine at_block_ret ?_
      | refine at_block_exit ?_
      | refine at_block_other (by rfl) ?_
      | refine wc_seq ?_
      | refine wc_region ?_
      | refine wc_block ?_
      | refine wc_skip ?_
      | refine wc_exit ?_
      | refine wc_ret ?_
      | refine at_ret2 (by rfl) (by rfl) (by rfl) ?_
      | refine wc_cond_true (by rfl) ?_
      | refine wc_cond_false (by rfl) ?_
      | (refine wc_cond_dec (by rfl) (fun _ => ?_) (fun _ => ?_) <;> (try first | contradiction | (exfalso; omega)))
      | refine wc_cond (by rfl) (fun _ => ?_) (fun _ => ?_))
    refine wc_loop (fun x : Nat × Nat => [(0, str s), (5, .int .i64 (x.2 : Int)), (6, .int .i64 ((2 * x.1 + 1 : Nat) : Int))])
      (fun x w' => x.1 ≤ tl.length ∧ Kept [] w1 w' ∧ x.2 < 256 ∧ Sp.addTags (tl.drop x.1) x.2 = Sp.addTags tl 0) (fun x => tl.length - x.1) (0, 0) ⟨rfl, rfl, rfl, trivial⟩ ⟨by simp, Kept.refl _ _, by simp, rfl⟩ ?_
    rintro ⟨k, acc⟩ w3 ⟨hk2, hkept, hacc, hadd⟩
    dsimp only at hk2 hkept hacc hadd ⊢
    by_cases hlt2 : k < tl.length
    · have hc := hget k hlt2
      have hok : Sp.okTag tl[k] = true := List.all_eq_true.1 ht2 _ (List.getElem_mem hlt2)
      rw [List.drop_eq_getElem_cons hlt2, Sp.addTags] at hadd
      rw [List.getElem?_eq_getElem hlt2, Option.some.injEq] at hc
      generalize tl[k] = c at hc hok hadd
      have hok' : 97 ≤ c.toNat ∧ c.toNat ≤ 104 := of_decide_eq_true hok
      have hc0 : s.getD (((2 * k + 1 : Nat) : Int)).toNat 0 = c := hc.symm
      obtain ⟨q, hq⟩ : ∃ q, q = c.toNat - 97 := ⟨_, rfl⟩
      have hq8 : q < 8 := by omega
      have hcq : (c.toNat : Int) = q + 97 := by omega
      rw [← hq] at hadd
      obtain ⟨hb1', hb2', hb3'⟩ := Sp.tag_bits acc hacc q hq8
      have hple : 2 ^ q < 256 := show 2 ^ q < 2 ^ 8 from Nat.pow_lt_pow_right (by decide) hq8
      repeat' (first
        | (refine op_index_str (by rfl) (by rfl) (by rfl) (by rfl) (by omega) (by omega) ?_; rw [hc0])
        | refine op_move (by rfl) (by rfl) (by rfl) ?_
        | refine op_assign (by rfl) (by rfl) (by rfl) ?_
        | refine op_pick_true (by rfl) (by rfl) (by rfl) (by rfl) ?_
        | refine op_pick_false (by rfl) (by rfl) (by rfl) (by rfl) ?_
        | refine op_lss (by rfl) (by rfl) (by rfl) (by rfl) ?_
        | refine op_gtr (by rfl) (by rfl) (by rfl) (by rfl) ?_
        | refine op_eql (by rfl) (by rfl) (by rfl) (by rfl) ?_
        | refine op_neq (by rfl) (by rfl) (by rfl) (by rfl) ?_
        | refine op_eql_str (by rfl) (by rfl) (by rfl) (by rfl) ?_
        | refine op_eql_bool (by rfl) (by rfl) (by rfl) (by rfl) ?_
        | refine op_eql_flat (by rfl) (by rfl) (by rfl) (by rfl) (by rfl) (by rfl) ?_
        | refine op_neq_str (by rfl) (by rfl) (by rfl) (by rfl) ?_
        | refine op_neq_bool (by rfl) (by rfl) (by rfl) (by rfl) ?_
        | refine op_neq_flat (by rfl) (by rfl) (by rfl) (by rfl) (by rfl) (by rfl) ?_
        | refine op_len_str (by rfl) (by rfl) (by rfl) ?_
        | refine op_len_slice (by rfl) (by rfl) (by rfl) ?_
        | refine op_add (by rfl) (by rfl) (by rfl) (by rfl) (by omega) ?_
        | refine op_sub (by rfl) (by rfl) (by rfl) (by rfl) (by omega) ?_
        | refine op_add_u8 (by rfl) (by rfl) (by rfl) (by rfl) (by omega) ?_
        | refine op_sub_u8 (by rfl) (by rfl) (by rfl) (by rfl) (by omega) ?_
        | refine op_mul (by rfl) (by rfl) (by rfl) (by rfl) (by omega) ?_
        | refine op_rem (by rfl) (by rfl) (by rfl) (by rfl) (by omega) ?_
        | refine op_index_str (by rfl) (by rfl) (by rfl) (by rfl) (by omega) (by omega) ?_
        | refine wl_skip (by rfl) (by rfl) (by rfl) ?_
        | (refine wl_split_dec (by rfl) (by rfl) (by rfl) (fun _ => ?_) (fun _ => ?_) <;> (try first | contradiction | (exfalso; omega)))
        | (refine wl_split (by rfl) (by rfl) (by rfl) (fun _ => ?_) (fun _ => ?_) <;> (fail_if_success contradiction))
        | refine wl_nil ?_
        | refine at_then_normal ?_
        | refine at_then_ret ?_
        | refine at_then_exit ?_
        | refine at_block_normal ?_
        | refine at_block_ret ?_
        | refine at_block_exit ?_
        | refine at_block_other (by rfl) ?_
        | refine wc_seq ?_
        | refine wc_region ?_
        | refine wc_block ?_
        | refine wc_skip ?_
        | refine wc_exit ?_
        | refine wc_ret ?_
        | refine at_ret2 (by rfl) (by rfl) (by rfl) ?_
        | refine wc_cond_true (by rfl) ?_
        | refine wc_cond_false (by rfl) ?_
        | (refine wc_cond_dec (by rfl) (fun _ => ?_) (fun _ => ?_) <;> (try first | contradiction | (exfalso; omega)))
        | refine wc_cond (by rfl) (fun _ => ?_) (fun _ => ?_))
      refine wc_loop (fun j : Nat => [(0, str s), (5, .int .i64 (acc : Int)), (6, .int .i64 ((2 * k + 1 : Nat) : Int)), (7, .int .i64 ((2 ^ j : Nat) : Int)), (74, .int .u8 ((c.toNat : Int) - 97)), (75, .int .u8 (j : Int))])
        (fun j w' => j ≤ q ∧ w' = w3) (fun j => q - j) 0 ⟨rfl, rfl, rfl, rfl, rfl, rfl, trivial⟩ ⟨by omega, rfl⟩ ?_
      rintro j w4 ⟨hj, rfl⟩
      have hjle : 2 ^ j ≤ 2 ^ q := Nat.pow_le_pow_right (by omega) hj
      by_cases hjq : j < q
      · obtain ⟨pj, hpj⟩ : ∃ pj, pj = 2 ^ j := ⟨_, rfl⟩
        have hpow : (2 : Int) * (pj : Int) = ((2 ^ (j + 1) : Nat) : Int) := by rw [Nat.pow_succ, ← hpj]; omega
        rw [← hpj] at hjle ⊢
        generalize 2 ^ q = pq at hple hjle
        repeat' (first
          | (refine op_mul (by rfl) (by rfl) (by rfl) (by rfl) (by omega) ?_; rw [hpow])
          | refine op_move (by rfl) (by rfl) (by rfl) ?_
          | refine op_assign (by rfl) (by rfl) (by rfl) ?_
          | refine op_pick_true (by rfl) (by rfl) (by rfl) (by rfl) ?_
          | refine op_pick_false (by rfl) (by rfl) (by rfl) (by rfl) ?_
          | refine op_lss (by rfl) (by rfl) (by rfl) (by rfl) ?_
          | refine op_gtr (by rfl) (by rfl) (by rfl) (by rfl) ?_
          | refine op_eql (by rfl) (by rfl) (by rfl) (by rfl) ?_
          | refine op_neq (by rfl) (by rfl) (by rfl) (by rfl) ?_
          | refine op_eql_str (by rfl) (by rfl) (by rfl) (by rfl) ?_
          | refine op_eql_bool (by rfl) (by rfl) (by rfl) (by rfl) ?_
          | refine op_eql_flat (by rfl) (by rfl) (by rfl) (by rfl) (by rfl) (by rfl) ?_
          | refine op_neq_str (by rfl) (by rfl) (by rfl) (by rfl) ?_
          | refine op_neq_bool (by rfl) (by rfl) (by rfl) (by rfl) ?_
          | refine op_neq_flat (by rfl) (by rfl) (by rfl) (by rfl) (by rfl) (by rfl) ?_
          | refine op_len_str (by rfl) (by rfl) (by rfl) ?_
          | refine op_len_slice (by rfl) (by rfl) (by rfl) ?_
          | refine op_add (by rfl) (by rfl) (by rfl) (by rfl) (by omega) ?_
          | refine op_sub (by rfl) (by rfl) (by rfl) (by rfl) (by omega) ?_
          | refine op_add_u8 (by rfl) (by rfl) (by rfl) (by rfl) (by omega) ?_
          | refine op_sub_u8 (by rfl) (by rfl) (by rfl) (by rfl) (by omega) ?_
          | refine op_mul (by rfl) (by rfl) (by rfl) (by rfl) (by omega) ?_
          | refine op_rem (by rfl) (by rfl) (by rfl) (by rfl) (by omega) ?_
          | refine op_index_str (by rfl) (by rfl) (by rfl) (by rfl) (by omega) (by omega) ?_
          | refine wl_skip (by rfl) (by rfl) (by rfl) ?_
          | (refine wl_split_dec (by rfl) (by rfl) (by rfl) (fun _ => ?_) (fun _ => ?_) <;> (try first | contradiction | (exfalso; omega)))
          | (refine wl_split (by rfl) (by rfl) (by rfl) (fun _ => ?_) (fun _ => ?_) <;> (fail_if_success contradiction))
          | refine wl_nil ?_
          | refine at_then_normal ?_
          | refine at_then_ret ?_
          | refine at_then_exit ?_
          | refine at_block_normal ?_
          | refine at_block_ret ?_
          | refine at_block_exit ?_
          | refine at_block_other (by rfl) ?_
          | refine wc_seq ?_
          | refine wc_region ?_
          | refine wc_block ?_
          | refine wc_skip ?_
          | refine wc_exit ?_
          | refine wc_ret ?_
          | refine at_ret2 (by rfl) (by rfl) (by rfl) ?_
          | refine wc_cond_true (by rfl) ?_
          | refine wc_cond_false (by rfl) ?_
          | (refine wc_cond_dec (by rfl) (fun _ => ?_) (fun _ => ?_) <;> (try first | contradiction | (exfalso; omega)))
          | refine wc_cond (by rfl) (fun _ => ?_) (fun _ => ?_))
        exact at_round (j + 1) (by exact ⟨rfl, rfl, rfl, rfl, rfl, rfl, trivial⟩) ⟨by omega, rfl⟩ (by omega)
      · obtain rfl : j = q := by omega
        obtain ⟨bb, hbb⟩ : ∃ bb, bb = Sp.bit acc j := ⟨_, rfl⟩
        rw [← hbb] at hb2' hb3' hadd
        clear hbb hb1'
        obtain ⟨pj, hpj⟩ : ∃ pj, pj = 2 ^ j := ⟨_, rfl⟩
        rw [← hpj] at hb2' hb3' hadd hple ⊢
        repeat' (first
          | (refine op_call (by rfl) (by rfl) (by rfl) (by exact c_rflows pj acc hple hacc _) ?_; rintro _ w5 ⟨rfl, hk5⟩; rw [hb3'])
          | (refine op_add (by rfl) (by rfl) (by rfl) (by rfl) (by omega) ?_)
          | refine op_move (by rfl) (by rfl) (by rfl) ?_
          | refine op_assign (by rfl) (by rfl) (by rfl) ?_
          | refine op_pick_true (by rfl) (by rfl) (by rfl) (by rfl) ?_
          | refine op_pick_false (by rfl) (by rfl) (by rfl) (by rfl) ?_
          | refine op_lss (by rfl) (by rfl) (by rfl) (by rfl) ?_
          | refine op_gtr (by rfl) (by rfl) (by rfl) (by rfl) ?_
          | refine op_eql (by rfl) (by rfl) (by rfl) (by rfl) ?_
          | refine op_neq (by rfl) (by rfl) (by rfl) (by rfl) ?_
          | refine op_eql_str (by rfl) (by rfl) (by rfl) (by rfl) ?_
          | refine op_eql_bool (by rfl) (by rfl) (by rfl) (by rfl) ?_
          | refine op_eql_flat (by rfl) (by rfl) (by rfl) (by rfl) (by rfl) (by rfl) ?_
          | refine op_neq_str (by rfl) (by rfl) (by rfl) (by rfl) ?_
          | refine op_neq_bool (by rfl) (by rfl) (by rfl) (by rfl) ?_
          | refine op_neq_flat (by rfl) (by rfl) (by rfl) (by rfl) (by rfl) (by rfl) ?_
          | refine op_len_str (by rfl) (by rfl) (by rfl) ?_
          | refine op_len_slice (by rfl) (by rfl) (by rfl) ?_
          | refine op_add (by rfl) (by rfl) (by rfl) (by rfl) (by omega) ?_
          | refine op_sub (by rfl) (by rfl) (by rfl) (by rfl) (by omega) ?_
          | refine op_add_u8 (by rfl) (by rfl) (by rfl) (by rfl) (by omega) ?_
          | refine op_sub_u8 (by rfl) (by rfl) (by rfl) (by rfl) (by omega) ?_
          | refine op_mul (by rfl) (by rfl) (by rfl) (by rfl) (by omega) ?_
          | refine op_rem (by rfl) (by rfl) (by rfl) (by rfl) (by omega) ?_
          | refine op_index_str (by rfl) (by rfl) (by rfl) (by rfl) (by omega) (by omega) ?_
          | refine wl_skip (by rfl) (by rfl) (by rfl) ?_
          | (refine wl_split_dec (by rfl) (by rfl) (by rfl) (fun _ => ?_) (fun _ => ?_) <;> (try first | contradiction | (exfalso; omega)))
          | (refine wl_split (by rfl) (by rfl) (by rfl) (fun _ => ?_) (fun _ => ?_) <;> (fail_if_success contradiction))
          | refine wl_nil ?_
          | refine at_then_normal ?_
          | refine at_then_ret ?_
          | refine at_then_exit ?_
          | refine at_block_normal ?_
          | refine at_block_ret ?_
          | refine at_block_exit ?_
          | refine at_block_other (by rfl) ?_
          | refine wc_seq ?_
          | refine wc_region ?_
          | refine wc_block ?_
          | refine wc_skip ?_
          | refine wc_exit ?_
          | refine wc_ret ?_
          | refine at_ret2 (by rfl) (by rfl) (by rfl) ?_
          | refine wc_cond_true (by rfl) ?_
          | refine wc_cond_false (by rfl) ?_
          | (refine wc_cond_dec (by rfl) (fun _ => ?_) (fun _ => ?_) <;> (try first | contradiction | (exfalso; omega)))
          | refine wc_cond (by rfl) (fun _ => ?_) (fun _ => ?_))
        · rename_i h5
          rw [if_pos h5] at hadd
          refine ⟨?_, hkept.trans hk5⟩
          rw [← hadd] at hp
          rw [parseV, hp]; rfl
        · rename_i h5
          rw [h5, if_neg (by simp)] at hadd
          obtain ⟨h7, h8⟩ := hb2' h5
          refine at_round ((k + 1, acc + pj) : Nat × Nat) ⟨rfl, ?_, ?_, trivial⟩ ?_ (by dsimp only; omega)
          · show some (Value.int .i64 _) = some (Value.int .i64 _)
            congr 2
          · show some (Value.int .i64 _) = some (Value.int .i64 _)
            congr 2; try (dsimp only; omega)
          · exact ⟨by dsimp only; omega, hkept.trans hk5, h8, hadd⟩
    · have hd : tl.drop k = [] := List.drop_eq_nil_of_le (by omega)
      rw [hd, Sp.addTags] at hadd
      repeat' (first
        | refine op_move (by rfl) (by rfl) (by rfl) ?_
        | refine op_assign (by rfl) (by rfl) (by rfl) ?_
        | refine op_pick_true (by rfl) (by rfl) (by rfl) (by rfl) ?_
        | refine op_pick_false (by rfl) (by rfl) (by rfl) (by rfl) ?_
        | refine op_lss (by rfl) (by rfl) (by rfl) (by rfl) ?_
        | refine op_gtr (by rfl) (by rfl) (by rfl) (by rfl) ?_
        | refine op_eql (by rfl) (by rfl) (by rfl) (by rfl) ?_
        | refine op_neq (by rfl) (by rfl) (by rfl) (by rfl) ?_
        | refine op_eql_str (by rfl) (by rfl) (by rfl) (by rfl) ?_
        | refine op_eql_bool (by rfl) (by rfl) (by rfl) (by rfl) ?_
        | refine op_eql_flat (by rfl) (by rfl) (by rfl) (by rfl) (by rfl) (by rfl) ?_
        | refine op_neq_str (by rfl) (by rfl) (by rfl) (by rfl) ?_
        | refine op_neq_bool (by rfl) (by rfl) (by rfl) (by rfl) ?_
        | refine op_neq_flat (by rfl) (by rfl) (by rfl) (by rfl) (by rfl) (by rfl) ?_
        | refine op_len_str (by rfl) (by rfl) (by rfl) ?_
        | refine op_len_slice (by rfl) (by rfl) (by rfl) ?_
        | refine op_add (by rfl) (by rfl) (by rfl) (by rfl) (by omega) ?_
        | refine op_sub (by rfl) (by rfl) (by rfl) (by rfl) (by omega) ?_
        | refine op_add_u8 (by rfl) (by rfl) (by rfl) (by rfl) (by omega) ?_
        | refine op_sub_u8 (by rfl) (by rfl) (by rfl) (by rfl) (by omega) ?_
        | refine op_mul (by rfl) (by rfl) (by rfl) (by rfl) (by omega) ?_
        | refine op_rem (by rfl) (by rfl) (by rfl) (by rfl) (by omega) ?_
        | refine op_index_str (by rfl) (by rfl) (by rfl) (by rfl) (by omega) (by omega) ?_
        | refine wl_skip (by rfl) (by rfl) (by rfl) ?_
        | (refine wl_split_dec (by rfl) (by rfl) (by rfl) (fun _ => ?_) (fun _ => ?_) <;> (try first | contradiction | (exfalso; omega)))
        | (refine wl_split (by rfl) (by rfl) (by rfl) (fun _ => ?_) (fun _ => ?_) <;> (fail_if_success contradiction))
        | refine wl_nil ?_
        | refine at_then_normal ?_
        | refine at_then_ret ?_
        | refine at_then_exit ?_
        | refine at_block_normal ?_
        | refine at_block_ret ?_
        | refine at_block_exit ?_
        | refine at_block_other (by rfl) ?_
        | refine wc_seq ?_
        | refine wc_region ?_
        | refine wc_block ?_
        | refine wc_skip ?_
        | refine wc_exit ?_
        | refine wc_ret ?_
        | refine at_ret2 (by rfl) (by rfl) (by rfl) ?_
        | refine wc_cond_true (by rfl) ?_
        | refine wc_cond_false (by rfl) ?_
        | (refine wc_cond_dec (by rfl) (fun _ => ?_) (fun _ => ?_) <;> (try first | contradiction | (exfalso; omega)))
        | refine wc_cond (by rfl) (fun _ => ?_) (fun _ => ?_))
      refine ⟨?_, hkept⟩
      rw [← hadd] at hp
      rw [parseV, hp]; rfl
end Go.Proofs.YtgoglhmnfiehoaaDoor
