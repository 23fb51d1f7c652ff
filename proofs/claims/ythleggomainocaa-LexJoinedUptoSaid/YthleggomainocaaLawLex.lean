/- Own work: the statements about chapter 2: their helpers, and LexTells. -/
import Derived.Test.YthleggomainocaaLex4
namespace Go.Proofs.Ythleggomainocaa
open Go.Fw

theorem str_inj {a b : List UInt8} : (str a = str b) ↔ a = b := by
  constructor
  · intro h
    injection h with h
    injection h with h
    have := congrArg Array.toList h
    simpa using this
  · rintro rfl; rfl
theorem encTok_eq (a b : Sp.Tok) : eqCells (encTok a) (encTok b) = decide (a = b) := by
  obtain ⟨k, t, p⟩ := a
  obtain ⟨k', t', p'⟩ := b
  rw [Bool.eq_iff_iff]
  simp only [encTok, eqCells, eqCell, Bool.and_eq_true, decide_eq_true_eq, Sp.Tok.mk.injEq, str_toList, and_true]
  constructor
  · rintro ⟨h1, h2, h3⟩; exact ⟨by omega, h2, by omega⟩
  · rintro ⟨rfl, rfl, rfl⟩; exact ⟨rfl, rfl, rfl⟩
theorem list_same {α : Type} {l m : List α} {k : Nat} (h : l.take k = m.take k) {a b : α} (ha : l[k]? = some a) (hb : m[k]? = some b) (e : a = b) : l.take (k + 1) = m.take (k + 1) := by
  rw [List.take_add_one, List.take_add_one, ha, hb, h, e]

set_option maxHeartbeats 1000000 in
theorem c_sameToks (v0 v1 : Value) (l0 l1 : List Sp.Tok) (hbnd : l0.length ≤ 1099511627776) (w : World) (h0 : Reads w 3 v0 l0.length (l0.flatMap encTok)) (h1 : Reads w 3 v1 l1.length (l1.flatMap encTok)) :
    Cal Try.prog 8 #[v0, v1] w fun v w' => v = .bool (decide (l0 = l1)) ∧ Kept [] w w' := by
  obtain ⟨hl0, a0, c0, rfl, hc0, hr0⟩ := h0
  obtain ⟨hl1, a1, c1, rfl, hc1, hr1⟩ := h1
  refine enter (N := 26) Try.func8 rfl [(0, .slice a0 l0.length c0), (1, .slice a1 l1.length c1)] args2 rfl ?_
  repeat' (first
    | refine op_move (by rfl) (by rfl) (by rfl) ?_
    | refine op_assign (by rfl) (by rfl) (by rfl) ?_
    | refine op_lss (by rfl) (by rfl) (by rfl) (by rfl) ?_
    | refine op_neq (by rfl) (by rfl) (by rfl) (by rfl) ?_
    | refine op_neq_str (by rfl) (by rfl) (by rfl) (by rfl) ?_
    | refine op_neq_bool (by rfl) (by rfl) (by rfl) (by rfl) ?_
    | refine op_neq_flat (by rfl) (by rfl) (by rfl) (by rfl) (by rfl) (by rfl) ?_
    | refine op_len_str (by rfl) (by rfl) (by rfl) ?_
    | refine op_len_slice (by rfl) (by rfl) (by rfl) ?_
    | refine op_add (by rfl) (by rfl) (by rfl) (by rfl) (by omega) ?_
    | refine op_indexAddr (by rfl) (by rfl) (by rfl) (by rfl) (by omega) (by omega) ?_
    | refine op_load1 (by rfl) (by rfl) (by rfl) (by assumption) (by rfl) ?_
    | refine wl_nil ?_
    | refine at_then_normal ?_
    | refine at_then_ret ?_
    | refine at_then_exit ?_
    | refine at_block_normal ?_
    | refine at_block_ret ?_
    | refine at_block_exit ?_
    | refine at_block_other (by rfl) ?_
    | refine wc_seq ?_
    | refine wc_region ?_
    | refine wc_block ?_
    | refine wc_skip ?_
    | refine wc_exit ?_
    | refine wc_ret ?_
    | refine at_ret1 (by rfl) (by rfl) ?_
    | refine wc_quiet (by kernel_rfl) ?_
    | (refine wq_nil ?_; intro _ hkq)
    | (refine wq_nil_tail ?_; intro _ hkq)
    | refine wc_cond_true (by rfl) ?_
    | refine wc_cond_false (by rfl) ?_
    | (refine wc_cond_dec (by rfl) (fun _ => ?_) (fun _ => ?_) <;> (try first | contradiction | (exfalso; omega)))
    | refine wc_cond (by rfl) (fun _ => ?_) (fun _ => ?_)
    | refine q_move (by rfl) (by rfl) (by rfl) ?_
    | refine q_assign (by rfl) (by rfl) (by rfl) ?_
    | refine q_lss (by rfl) (by rfl) (by rfl) (by rfl) ?_
    | refine q_neq (by rfl) (by rfl) (by rfl) (by rfl) ?_
    | refine q_neq_str (by rfl) (by rfl) (by rfl) (by rfl) ?_
    | refine q_neq_bool (by rfl) (by rfl) (by rfl) (by rfl) ?_
    | refine q_neq_flat (by rfl) (by rfl) (by rfl) (by rfl) (by rfl) (by rfl) ?_
    | refine q_len_str (by rfl) (by rfl) (by rfl) ?_
    | refine q_len_slice (by rfl) (by rfl) (by rfl) ?_
    | refine q_add (by rfl) (by rfl) (by rfl) (by rfl) (by omega) ?_
    | refine q_indexAddr (by rfl) (by rfl) (by rfl) (by rfl) (by omega) (by omega) ?_
    | refine q_load1 (by rfl) (by rfl) (by rfl) (by assumption) (by rfl) ?_)
  · rename_i h
    have : l0 ≠ l1 := fun e => h (by rw [e])
    exact ⟨by simp [this], Kept.refl _ _⟩
  · rename_i h
    have hlen : l0.length = l1.length := by omega
    refine wc_loop (fun k => [(0, .slice a0 l0.length c0), (1, .slice a1 l1.length c1), (12, .int .i64 (l0.length : Int)), (13, .int .i64 ((k : Nat) : Int))])
      (fun k w' => k ≤ l0.length ∧ l0.take k = l1.take k ∧ Kept [] w w') (fun k => l0.length - k) 0 ⟨rfl, rfl, rfl, rfl, trivial⟩ ⟨by omega, by simp, Kept.refl _ _⟩ ?_
    rintro k w1 ⟨hk, heq, hkept⟩
    by_cases hlt : k < l0.length
    · obtain ⟨b0, o0, cs0, e0, f0, rfl, hb0, hcur0⟩ := hr0 (by omega)
      obtain ⟨b1, o1, cs1, e1, f1, rfl, hb1, hcur1⟩ := hr1 (by omega)
      have hb0' := hkept.get0 hb0
      have hb1' := hkept.get0 hb1
      have ht0 : l0[k]? = some l0[k] := List.getElem?_eq_getElem hlt
      have ht1 : l1[k]? = some (l1[k]'(by omega)) := List.getElem?_eq_getElem (by omega)
      have hcell0 : ∀ (j : Nat) (v : Value), (encTok l0[k])[j]? = some v → cs0[o0 + (k : Int).toNat * 3 + j]? = some v := fun j v hv => by
        rw [show o0 + (k : Int).toNat * 3 + j = o0 + (k * 3 + j) by omega]
        exact hcur0 _ _ (encTok_get _ _ _ ht0 j v hv)
      have hcell1 : ∀ (j : Nat) (v : Value), (encTok (l1[k]'(by omega)))[j]? = some v → cs1[o1 + (k : Int).toNat * 3 + j]? = some v := fun j v hv => by
        rw [show o1 + (k : Int).toNat * 3 + j = o1 + (k * 3 + j) by omega]
        exact hcur1 _ _ (encTok_get _ _ _ ht1 j v hv)
      generalize l0[k] = t0 at ht0 hcell0
      generalize l1[k]'(by omega) = t1 at ht1 hcell1
      repeat' (first
        | (refine q_loadN (vs := encTok t0) (by rfl) (by rfl) (by rfl) hb0' (by rfl) hcell0 ?_)
        | (refine q_loadN (vs := encTok t1) (by rfl) (by rfl) (by rfl) hb1' (by rfl) hcell1 ?_)
        | refine op_move (by rfl) (by rfl) (by rfl) ?_
        | refine op_assign (by rfl) (by rfl) (by rfl) ?_
        | refine op_lss (by rfl) (by rfl) (by rfl) (by rfl) ?_
        | refine op_neq (by rfl) (by rfl) (by rfl) (by rfl) ?_
        | refine op_neq_str (by rfl) (by rfl) (by rfl) (by rfl) ?_
        | refine op_neq_bool (by rfl) (by rfl) (by rfl) (by rfl) ?_
        | refine op_neq_flat (by rfl) (by rfl) (by rfl) (by rfl) (by rfl) (by rfl) ?_
        | refine op_len_str (by rfl) (by rfl) (by rfl) ?_
        | refine op_len_slice (by rfl) (by rfl) (by rfl) ?_
        | refine op_add (by rfl) (by rfl) (by rfl) (by rfl) (by omega) ?_
        | refine op_indexAddr (by rfl) (by rfl) (by rfl) (by rfl) (by omega) (by omega) ?_
        | refine op_load1 (by rfl) (by rfl) (by rfl) (by assumption) (by rfl) ?_
        | refine wl_nil ?_
        | refine at_then_normal ?_
        | refine at_then_ret ?_
        | refine at_then_exit ?_
        | refine at_block_normal ?_
        | refine at_block_ret ?_
        | refine at_block_exit ?_
        | refine at_block_other (by rfl) ?_
        | refine wc_seq ?_
        | refine wc_region ?_
        | refine wc_block ?_
        | refine wc_skip ?_
        | refine wc_exit ?_
        | refine wc_ret ?_
        | refine at_ret1 (by rfl) (by rfl) ?_
        | refine wc_quiet (by kernel_rfl) ?_
        | (refine wq_nil ?_; intro _ hkq)
        | (refine wq_nil_tail ?_; intro _ hkq)
        | refine wc_cond_true (by rfl) ?_
        | refine wc_cond_false (by rfl) ?_
        | (refine wc_cond_dec (by rfl) (fun _ => ?_) (fun _ => ?_) <;> (try first | contradiction | (exfalso; omega)))
        | refine wc_cond (by rfl) (fun _ => ?_) (fun _ => ?_)
        | refine q_move (by rfl) (by rfl) (by rfl) ?_
        | refine q_assign (by rfl) (by rfl) (by rfl) ?_
        | refine q_lss (by rfl) (by rfl) (by rfl) (by rfl) ?_
        | refine q_neq (by rfl) (by rfl) (by rfl) (by rfl) ?_
        | refine q_neq_str (by rfl) (by rfl) (by rfl) (by rfl) ?_
        | refine q_neq_bool (by rfl) (by rfl) (by rfl) (by rfl) ?_
        | refine q_neq_flat (by rfl) (by rfl) (by rfl) (by rfl) (by rfl) (by rfl) ?_
        | refine q_len_str (by rfl) (by rfl) (by rfl) ?_
        | refine q_len_slice (by rfl) (by rfl) (by rfl) ?_
        | refine q_add (by rfl) (by rfl) (by rfl) (by rfl) (by omega) ?_
        | refine q_indexAddr (by rfl) (by rfl) (by rfl) (by rfl) (by omega) (by omega) ?_
        | refine q_load1 (by rfl) (by rfl) (by rfl) (by assumption) (by rfl) ?_)
      · rename_i h2 w2 h4
        rw [encTok_eq] at h4
        have : l0 ≠ l1 := fun e => by
          subst e
          rw [ht0] at ht1
          injection ht1 with ht1
          subst ht1
          simp at h4
        exact ⟨by simp [this], hkept.trans hkq⟩
      · rename_i h2 w2 h4
        rw [encTok_eq] at h4
        simp at h4
        refine at_round (k + 1) (by exact ⟨rfl, rfl, rfl, rfl, trivial⟩) ?_ (by omega)
        exact ⟨by omega, list_same heq ht0 ht1 h4, hkept.trans hkq⟩
    · skip
      repeat' (first
        | refine op_move (by rfl) (by rfl) (by rfl) ?_
        | refine op_assign (by rfl) (by rfl) (by rfl) ?_
        | refine op_lss (by rfl) (by rfl) (by rfl) (by rfl) ?_
        | refine op_neq (by rfl) (by rfl) (by rfl) (by rfl) ?_
        | refine op_neq_str (by rfl) (by rfl) (by rfl) (by rfl) ?_
        | refine op_neq_bool (by rfl) (by rfl) (by rfl) (by rfl) ?_
        | refine op_neq_flat (by rfl) (by rfl) (by rfl) (by rfl) (by rfl) (by rfl) ?_
        | refine op_len_str (by rfl) (by rfl) (by rfl) ?_
        | refine op_len_slice (by rfl) (by rfl) (by rfl) ?_
        | refine op_add (by rfl) (by rfl) (by rfl) (by rfl) (by omega) ?_
        | refine op_indexAddr (by rfl) (by rfl) (by rfl) (by rfl) (by omega) (by omega) ?_
        | refine op_load1 (by rfl) (by rfl) (by rfl) (by assumption) (by rfl) ?_
        | refine wl_nil ?_
        | refine at_then_normal ?_
        | refine at_then_ret ?_
        | refine at_then_exit ?_
        | refine at_block_normal ?_
        | refine at_block_ret ?_
        | refine at_block_exit ?_
        | refine at_block_other (by rfl) ?_
        | refine wc_seq ?_
        | refine wc_region ?_
        | refine wc_block ?_
        | refine wc_skip ?_
        | refine wc_exit ?_
        | refine wc_ret ?_
        | refine at_ret1 (by rfl) (by rfl) ?_
        | refine wc_quiet (by kernel_rfl) ?_
        | (refine wq_nil ?_; intro _ hkq)
        | (refine wq_nil_tail ?_; intro _ hkq)
        | refine wc_cond_true (by rfl) ?_
        | refine wc_cond_false (by rfl) ?_
        | (refine wc_cond_dec (by rfl) (fun _ => ?_) (fun _ => ?_) <;> (try first | contradiction | (exfalso; omega)))
        | refine wc_cond (by rfl) (fun _ => ?_) (fun _ => ?_)
        | refine q_move (by rfl) (by rfl) (by rfl) ?_
        | refine q_assign (by rfl) (by rfl) (by rfl) ?_
        | refine q_lss (by rfl) (by rfl) (by rfl) (by rfl) ?_
        | refine q_neq (by rfl) (by rfl) (by rfl) (by rfl) ?_
        | refine q_neq_str (by rfl) (by rfl) (by rfl) (by rfl) ?_
        | refine q_neq_bool (by rfl) (by rfl) (by rfl) (by rfl) ?_
        | refine q_neq_flat (by rfl) (by rfl) (by rfl) (by rfl) (by rfl) (by rfl) ?_
        | refine q_len_str (by rfl) (by rfl) (by rfl) ?_
        | refine q_len_slice (by rfl) (by rfl) (by rfl) ?_
        | refine q_add (by rfl) (by rfl) (by rfl) (by rfl) (by omega) ?_
        | refine q_indexAddr (by rfl) (by rfl) (by rfl) (by rfl) (by omega) (by omega) ?_
        | refine q_load1 (by rfl) (by rfl) (by rfl) (by assumption) (by rfl) ?_)
      have hk' : k = l0.length := by omega
      have : l0 = l1 := by rw [hk', List.take_length, hlen, List.take_length] at heq; exact heq
      exact ⟨by simp [this], hkept⟩

set_option maxHeartbeats 4000000 in
theorem sp_letter_tells (s : List UInt8) (hl : s.length ≤ 1099511627776) (w : World) :
    Cal Try.prog 3 #[str s] w fun v w' => v = .bool true ∧ Kept [] w w' := by
  refine enter (N := 113) Try.func3 rfl [(0, str s)] args1 rfl ?_
  have hbl := toks_len s
  have hne : ∀ {α : Type} [DecidableEq α] (a : α), decide (a ≠ a) = false := fun a => by simp
  repeat' (first
    | (refine op_call (by rfl) (by rfl) (by rfl) (by exact c_cuts s hl _) ?_; rintro ca w1 ⟨hca, hk1⟩; obtain ⟨a0, c0, rfl⟩ := own_val hca)
    | (refine op_call (by rfl) (by rfl) (by rfl) (by exact c_rcuts s hl _) ?_; rintro cb w2 ⟨hcb, hk2⟩; obtain ⟨a1, c1, rfl⟩ := own_val hcb)
    | (refine op_call (by rfl) (by rfl) (by rfl) (by exact c_tokens s hl _) ?_; rintro ta w3 ⟨hta, hk3⟩)
    | (refine op_call (by rfl) (by rfl) (by rfl) (by exact c_rtokens s hl _) ?_; rintro tb w4 ⟨htb, hk4⟩; rw [Sp.rtokens_eq] at htb)
    | (refine op_call (by rfl) (by rfl) (by rfl) (by exact c_sameToks _ _ (Sp.tokens s) (Sp.tokens s) (by omega) _ ((own_reads hta).kept hk4) (own_reads htb)) ?_; rintro _ w5 ⟨rfl, hk5⟩; rw [show decide (Sp.tokens s = Sp.tokens s) = true by simp])
    | (refine op_call (by rfl) (by rfl) (by rfl) (by exact c_word s (by omega) _) ?_; rintro _ w5 ⟨rfl, rfl⟩)
    | (refine op_call (by rfl) (by rfl) (by rfl) (by exact c_rword s (by omega) _) ?_; rintro _ w5 ⟨rfl, rfl⟩)
    | (refine op_call (by rfl) (by rfl) (by rfl) (by exact c_name s (by omega) _) ?_; rintro _ w6 ⟨rfl, hk6⟩)
    | (refine op_call (by rfl) (by rfl) (by rfl) (by exact c_rname s (by omega) _) ?_; rintro _ w7 ⟨rfl, hk7⟩)
    | (refine op_call (by rfl) (by rfl) (by rfl) (by exact c_own _) ?_; rintro o0 w8 ⟨ho0, hk8⟩; obtain ⟨a2, c2, rfl⟩ := own_val ho0)
    | (refine op_call (by rfl) (by rfl) (by rfl) (by exact c_rown _) ?_; rintro o1 w9 ⟨ho1, hk9⟩; obtain ⟨a3, c3, rfl⟩ := own_val ho1)
    | refine op_move (by rfl) (by rfl) (by rfl) ?_
    | refine op_assign (by rfl) (by rfl) (by rfl) ?_
    | refine op_pick_true (by rfl) (by rfl) (by rfl) (by rfl) ?_
    | refine op_pick_false (by rfl) (by rfl) (by rfl) (by rfl) ?_
    | refine op_lss (by rfl) (by rfl) (by rfl) (by rfl) ?_
    | refine op_eql (by rfl) (by rfl) (by rfl) (by rfl) ?_
    | refine op_neq (by rfl) (by rfl) (by rfl) (by rfl) ?_
    | refine op_eql_str (by rfl) (by rfl) (by rfl) (by rfl) ?_
    | refine op_eql_bool (by rfl) (by rfl) (by rfl) (by rfl) ?_
    | refine op_eql_flat (by rfl) (by rfl) (by rfl) (by rfl) (by rfl) (by rfl) ?_
    | refine op_neq_str (by rfl) (by rfl) (by rfl) (by rfl) ?_
    | refine op_neq_bool (by rfl) (by rfl) (by rfl) (by rfl) ?_
    | refine op_neq_flat (by rfl) (by rfl) (by rfl) (by rfl) (by rfl) (by rfl) ?_
    | refine op_len_str (by rfl) (by rfl) (by rfl) ?_
    | refine op_len_slice (by rfl) (by rfl) (by rfl) ?_
    | refine op_not (by rfl) (by rfl) (by rfl) ?_
    | refine op_add (by rfl) (by rfl) (by rfl) (by rfl) (by omega) ?_
    | refine op_index_str (by rfl) (by rfl) (by rfl) (by rfl) (by omega) (by omega) ?_
    | refine op_indexAddr (by rfl) (by rfl) (by rfl) (by rfl) (by omega) (by omega) ?_
    | refine op_load1 (by rfl) (by rfl) (by rfl) (by assumption) (by rfl) ?_
    | refine wl_skip (by rfl) (by rfl) (by rfl) ?_
    | (refine wl_split_dec (by rfl) (by rfl) (by rfl) (fun _ => ?_) (fun _ => ?_) <;> (try first | contradiction | (exfalso; omega)))
    | (refine wl_split (by rfl) (by rfl) (by rfl) (fun _ => ?_) (fun _ => ?_) <;> (fail_if_success contradiction))
    | refine wl_nil ?_
    | refine at_then_normal ?_
    | refine at_then_ret ?_
    | refine at_then_exit ?_
    | refine at_block_normal ?_
    | refine at_block_ret ?_
    | refine at_block_exit ?_
    | refine at_block_other (by rfl) ?_
    | refine wc_seq ?_
    | refine wc_region ?_
    | refine wc_block ?_
    | refine wc_skip ?_
    | refine wc_exit ?_
    | refine wc_ret ?_
    | refine at_ret1 (by rfl) (by rfl) ?_
    | refine wc_quiet (by kernel_rfl) ?_
    | (refine wq_nil ?_; intro _ hkq)
    | (refine wq_nil_tail ?_; intro _ hkq)
    | refine wc_cond_true (by rfl) ?_
    | refine wc_cond_false (by rfl) ?_
    | (refine wc_cond_dec (by rfl) (fun _ => ?_) (fun _ => ?_) <;> (try first | contradiction | (exfalso; omega)))
    | refine wc_cond (by rfl) (fun _ => ?_) (fun _ => ?_)
    | refine q_move (by rfl) (by rfl) (by rfl) ?_
    | refine q_assign (by rfl) (by rfl) (by rfl) ?_
    | refine q_pick_true (by rfl) (by rfl) (by rfl) (by rfl) ?_
    | refine q_pick_false (by rfl) (by rfl) (by rfl) (by rfl) ?_
    | refine q_lss (by rfl) (by rfl) (by rfl) (by rfl) ?_
    | refine q_eql (by rfl) (by rfl) (by rfl) (by rfl) ?_
    | refine q_neq (by rfl) (by rfl) (by rfl) (by rfl) ?_
    | refine q_eql_str (by rfl) (by rfl) (by rfl) (by rfl) ?_
    | refine q_eql_bool (by rfl) (by rfl) (by rfl) (by rfl) ?_
    | refine q_eql_flat (by rfl) (by rfl) (by rfl) (by rfl) (by rfl) (by rfl) ?_
    | refine q_neq_str (by rfl) (by rfl) (by rfl) (by rfl) ?_
    | refine q_neq_bool (by rfl) (by rfl) (by rfl) (by rfl) ?_
    | refine q_neq_flat (by rfl) (by rfl) (by rfl) (by rfl) (by rfl) (by rfl) ?_
    | refine q_len_str (by rfl) (by rfl) (by rfl) ?_
    | refine q_len_slice (by rfl) (by rfl) (by rfl) ?_
    | refine q_not (by rfl) (by rfl) (by rfl) ?_
    | refine q_add (by rfl) (by rfl) (by rfl) (by rfl) (by omega) ?_
    | refine q_index_str (by rfl) (by rfl) (by rfl) (by rfl) (by omega) (by omega) ?_
    | refine q_indexAddr (by rfl) (by rfl) (by rfl) (by rfl) (by omega) (by omega) ?_
    | refine q_load1 (by rfl) (by rfl) (by rfl) (by assumption) (by rfl) ?_
    | refine wq_skip (by rfl) (by rfl) (by rfl) ?_
    | (refine wq_split_dec (by rfl) (by rfl) (by rfl) (fun _ => ?_) (fun _ => ?_) <;> (try first | contradiction | (exfalso; omega)))
    | (refine wq_split (by rfl) (by rfl) (by rfl) (fun _ => ?_) (fun _ => ?_) <;> (fail_if_success contradiction)))
  have hkA : Kept [] w w9 := (((((((hk1.trans hk2).trans hk3).trans hk4).trans hk5).trans hk6).trans hk7).trans hk8).trans hk9
  have hra : Reads w9 1 _ _ _ := (own_reads hca).kept (((((((hk2.trans hk3).trans hk4).trans hk5).trans hk6).trans hk7).trans hk8).trans hk9)
  have hrb : Reads w9 1 _ _ _ := (own_reads hcb).kept ((((((hk3.trans hk4).trans hk5).trans hk6).trans hk7).trans hk8).trans hk9)
  clear hk1 hk2 hk3 hk4 hk5 hk6 hk7 hk8 hk9 hca hcb hta htb ho0 ho1
  obtain ⟨hla, _, _, ea, hca, hra⟩ := hra
  injection ea with ea1 _ ea2
  subst ea1
  subst ea2
  obtain ⟨hlb, _, _, eb, hcb, hrb⟩ := hrb
  injection eb with eb1 _ eb2
  subst eb1
  subst eb2
  have hcl : (Sp.cuts s).length ≤ s.length := by
    have : ∀ (l : List Sp.Tok) (acc : List Nat), (l.foldl (Sp.cutStep s) acc).length ≤ acc.length + l.length := by
      intro l
      induction l with
      | nil => intro acc; simp
      | cons t l ih => intro acc; have h1 := ih (Sp.cutStep s acc t); have h2 := Sp.cutStep_len s acc t; simp only [List.foldl_cons, List.length_cons]; omega
    have := this (Sp.tokens s) []
    simp only [List.length_nil, Nat.zero_add] at this
    unfold Sp.cuts; omega
  refine wc_loop (fun k => [(0, str s), (3, .slice a0 (Sp.cuts s).length c0), (4, .slice a1 (Sp.cuts s).length c1), (49, .int .i64 ((Sp.cuts s).length : Int)), (50, .int .i64 ((k : Nat) : Int))])
    (fun k w' => k ≤ (Sp.cuts s).length ∧ Kept [] w9 w') (fun k => (Sp.cuts s).length - k) 0 ⟨rfl, rfl, rfl, rfl, rfl, trivial⟩ ⟨by omega, Kept.refl _ _⟩ ?_
  rintro k w1 ⟨hk, hkept⟩
  by_cases hlt : k < (Sp.cuts s).length
  · obtain ⟨b0, o0, cs0, e0, f0, rfl, hb0, hcur0⟩ := hra (by omega)
    obtain ⟨b1, o1, cs1, e1, f1, rfl, hb1, hcur1⟩ := hrb (by omega)
    have hb0' := hkept.get0 hb0
    have hb1' := hkept.get0 hb1
    have hx : ((Sp.cuts s).flatMap encInt)[k]? = some (.int .i64 ((Sp.cuts s)[k] : Int)) := by
      have : ∀ (l : List Nat) (k : Nat) (h : k < l.length), (l.flatMap encInt)[k]? = some (.int .i64 (l[k] : Int)) := by
        intro l
        induction l with
        | nil => intro k h; simp at h
        | cons a l ih =>
          intro k h
          cases k with
          | zero => rfl
          | succ k => simpa [encInt] using ih k (by simpa using h)
      exact this _ _ hlt
    have hc0' : cs0[o0 + (k : Int).toNat * 1]? = some (.int .i64 ((Sp.cuts s)[k] : Int)) := by rw [Int.toNat_natCast, Nat.mul_one]; exact hcur0 _ _ hx
    have hc1' : cs1[o1 + (k : Int).toNat * 1]? = some (.int .i64 ((Sp.cuts s)[k] : Int)) := by rw [Int.toNat_natCast, Nat.mul_one]; exact hcur1 _ _ hx
    generalize (Sp.cuts s)[k] = cv at hx hc0' hc1'
    repeat' (first
      | (refine q_load1 (by rfl) (by rfl) (by rfl) hb0' (by exact hc0') ?_)
      | (refine q_load1 (by rfl) (by rfl) (by rfl) hb1' (by exact hc1') ?_)
      | refine op_move (by rfl) (by rfl) (by rfl) ?_
      | refine op_assign (by rfl) (by rfl) (by rfl) ?_
      | refine op_pick_true (by rfl) (by rfl) (by rfl) (by rfl) ?_
      | refine op_pick_false (by rfl) (by rfl) (by rfl) (by rfl) ?_
      | refine op_lss (by rfl) (by rfl) (by rfl) (by rfl) ?_
      | refine op_eql (by rfl) (by rfl) (by rfl) (by rfl) ?_
      | refine op_neq (by rfl) (by rfl) (by rfl) (by rfl) ?_
      | refine op_eql_str (by rfl) (by rfl) (by rfl) (by rfl) ?_
      | refine op_eql_bool (by rfl) (by rfl) (by rfl) (by rfl) ?_
      | refine op_eql_flat (by rfl) (by rfl) (by rfl) (by rfl) (by rfl) (by rfl) ?_
      | refine op_neq_str (by rfl) (by rfl) (by rfl) (by rfl) ?_
      | refine op_neq_bool (by rfl) (by rfl) (by rfl) (by rfl) ?_
      | refine op_neq_flat (by rfl) (by rfl) (by rfl) (by rfl) (by rfl) (by rfl) ?_
      | refine op_len_str (by rfl) (by rfl) (by rfl) ?_
      | refine op_len_slice (by rfl) (by rfl) (by rfl) ?_
      | refine op_not (by rfl) (by rfl) (by rfl) ?_
      | refine op_add (by rfl) (by rfl) (by rfl) (by rfl) (by omega) ?_
      | refine op_index_str (by rfl) (by rfl) (by rfl) (by rfl) (by omega) (by omega) ?_
      | refine op_indexAddr (by rfl) (by rfl) (by rfl) (by rfl) (by omega) (by omega) ?_
      | refine op_load1 (by rfl) (by rfl) (by rfl) (by assumption) (by rfl) ?_
      | refine wl_skip (by rfl) (by rfl) (by rfl) ?_
      | (refine wl_split_dec (by rfl) (by rfl) (by rfl) (fun _ => ?_) (fun _ => ?_) <;> (try first | contradiction | (exfalso; omega)))
      | (refine wl_split (by rfl) (by rfl) (by rfl) (fun _ => ?_) (fun _ => ?_) <;> (fail_if_success contradiction))
      | refine wl_nil ?_
      | refine at_then_normal ?_
      | refine at_then_ret ?_
      | refine at_then_exit ?_
      | refine at_block_normal ?_
      | refine at_block_ret ?_
      | refine at_block_exit ?_
      | refine at_block_other (by rfl) ?_
      | refine wc_seq ?_
      | refine wc_region ?_
      | refine wc_block ?_
      | refine wc_skip ?_
      | refine wc_exit ?_
      | refine wc_ret ?_
      | refine at_ret1 (by rfl) (by rfl) ?_
      | refine wc_quiet (by kernel_rfl) ?_
      | (refine wq_nil ?_; intro _ hkq)
      | (refine wq_nil_tail ?_; intro _ hkq)
      | refine wc_cond_true (by rfl) ?_
      | refine wc_cond_false (by rfl) ?_
      | (refine wc_cond_dec (by rfl) (fun _ => ?_) (fun _ => ?_) <;> (try first | contradiction | (exfalso; omega)))
      | refine wc_cond (by rfl) (fun _ => ?_) (fun _ => ?_)
      | refine q_move (by rfl) (by rfl) (by rfl) ?_
      | refine q_assign (by rfl) (by rfl) (by rfl) ?_
      | refine q_pick_true (by rfl) (by rfl) (by rfl) (by rfl) ?_
      | refine q_pick_false (by rfl) (by rfl) (by rfl) (by rfl) ?_
      | refine q_lss (by rfl) (by rfl) (by rfl) (by rfl) ?_
      | refine q_eql (by rfl) (by rfl) (by rfl) (by rfl) ?_
      | refine q_neq (by rfl) (by rfl) (by rfl) (by rfl) ?_
      | refine q_eql_str (by rfl) (by rfl) (by rfl) (by rfl) ?_
      | refine q_eql_bool (by rfl) (by rfl) (by rfl) (by rfl) ?_
      | refine q_eql_flat (by rfl) (by rfl) (by rfl) (by rfl) (by rfl) (by rfl) ?_
      | refine q_neq_str (by rfl) (by rfl) (by rfl) (by rfl) ?_
      | refine q_neq_bool (by rfl) (by rfl) (by rfl) (by rfl) ?_
      | refine q_neq_flat (by rfl) (by rfl) (by rfl) (by rfl) (by rfl) (by rfl) ?_
      | refine q_len_str (by rfl) (by rfl) (by rfl) ?_
      | refine q_len_slice (by rfl) (by rfl) (by rfl) ?_
      | refine q_not (by rfl) (by rfl) (by rfl) ?_
      | refine q_add (by rfl) (by rfl) (by rfl) (by rfl) (by omega) ?_
      | refine q_index_str (by rfl) (by rfl) (by rfl) (by rfl) (by omega) (by omega) ?_
      | refine q_indexAddr (by rfl) (by rfl) (by rfl) (by rfl) (by omega) (by omega) ?_
      | refine q_load1 (by rfl) (by rfl) (by rfl) (by assumption) (by rfl) ?_
      | refine wq_skip (by rfl) (by rfl) (by rfl) ?_
      | (refine wq_split_dec (by rfl) (by rfl) (by rfl) (fun _ => ?_) (fun _ => ?_) <;> (try first | contradiction | (exfalso; omega)))
      | (refine wq_split (by rfl) (by rfl) (by rfl) (fun _ => ?_) (fun _ => ?_) <;> (fail_if_success contradiction)))
    refine at_round (k + 1) (by exact ⟨rfl, rfl, rfl, rfl, rfl, trivial⟩) ?_ (by omega)
    exact ⟨by omega, hkept.trans hkq⟩
  · skip
    repeat' (first
      | (refine op_call (by rfl) (by rfl) (by rfl) (by exact c_own _) ?_; rintro ow w2 ⟨how, hk2⟩; obtain ⟨gw, cw, cuw, rfl, _, hgw, _, hcuw, _⟩ := own_open how (by decide))
      | refine op_move (by rfl) (by rfl) (by rfl) ?_
      | refine op_assign (by rfl) (by rfl) (by rfl) ?_
      | refine op_pick_true (by rfl) (by rfl) (by rfl) (by rfl) ?_
      | refine op_pick_false (by rfl) (by rfl) (by rfl) (by rfl) ?_
      | refine op_lss (by rfl) (by rfl) (by rfl) (by rfl) ?_
      | refine op_eql (by rfl) (by rfl) (by rfl) (by rfl) ?_
      | refine op_neq (by rfl) (by rfl) (by rfl) (by rfl) ?_
      | refine op_eql_str (by rfl) (by rfl) (by rfl) (by rfl) ?_
      | refine op_eql_bool (by rfl) (by rfl) (by rfl) (by rfl) ?_
      | refine op_eql_flat (by rfl) (by rfl) (by rfl) (by rfl) (by rfl) (by rfl) ?_
      | refine op_neq_str (by rfl) (by rfl) (by rfl) (by rfl) ?_
      | refine op_neq_bool (by rfl) (by rfl) (by rfl) (by rfl) ?_
      | refine op_neq_flat (by rfl) (by rfl) (by rfl) (by rfl) (by rfl) (by rfl) ?_
      | refine op_len_str (by rfl) (by rfl) (by rfl) ?_
      | refine op_len_slice (by rfl) (by rfl) (by rfl) ?_
      | refine op_not (by rfl) (by rfl) (by rfl) ?_
      | refine op_add (by rfl) (by rfl) (by rfl) (by rfl) (by omega) ?_
      | refine op_index_str (by rfl) (by rfl) (by rfl) (by rfl) (by omega) (by omega) ?_
      | refine op_indexAddr (by rfl) (by rfl) (by rfl) (by rfl) (by omega) (by omega) ?_
      | refine op_load1 (by rfl) (by rfl) (by rfl) (by assumption) (by rfl) ?_
      | refine wl_skip (by rfl) (by rfl) (by rfl) ?_
      | (refine wl_split_dec (by rfl) (by rfl) (by rfl) (fun _ => ?_) (fun _ => ?_) <;> (try first | contradiction | (exfalso; omega)))
      | (refine wl_split (by rfl) (by rfl) (by rfl) (fun _ => ?_) (fun _ => ?_) <;> (fail_if_success contradiction))
      | refine wl_nil ?_
      | refine at_then_normal ?_
      | refine at_then_ret ?_
      | refine at_then_exit ?_
      | refine at_block_normal ?_
      | refine at_block_ret ?_
      | refine at_block_exit ?_
      | refine at_block_other (by rfl) ?_
      | refine wc_seq ?_
      | refine wc_region ?_
      | refine wc_block ?_
      | refine wc_skip ?_
      | refine wc_exit ?_
      | refine wc_ret ?_
      | refine at_ret1 (by rfl) (by rfl) ?_
      | refine wc_quiet (by kernel_rfl) ?_
      | (refine wq_nil ?_; intro _ hkq)
      | (refine wq_nil_tail ?_; intro _ hkq)
      | refine wc_cond_true (by rfl) ?_
      | refine wc_cond_false (by rfl) ?_
      | (refine wc_cond_dec (by rfl) (fun _ => ?_) (fun _ => ?_) <;> (try first | contradiction | (exfalso; omega)))
      | refine wc_cond (by rfl) (fun _ => ?_) (fun _ => ?_)
      | refine q_move (by rfl) (by rfl) (by rfl) ?_
      | refine q_assign (by rfl) (by rfl) (by rfl) ?_
      | refine q_pick_true (by rfl) (by rfl) (by rfl) (by rfl) ?_
      | refine q_pick_false (by rfl) (by rfl) (by rfl) (by rfl) ?_
      | refine q_lss (by rfl) (by rfl) (by rfl) (by rfl) ?_
      | refine q_eql (by rfl) (by rfl) (by rfl) (by rfl) ?_
      | refine q_neq (by rfl) (by rfl) (by rfl) (by rfl) ?_
      | refine q_eql_str (by rfl) (by rfl) (by rfl) (by rfl) ?_
      | refine q_eql_bool (by rfl) (by rfl) (by rfl) (by rfl) ?_
      | refine q_eql_flat (by rfl) (by rfl) (by rfl) (by rfl) (by rfl) (by rfl) ?_
      | refine q_neq_str (by rfl) (by rfl) (by rfl) (by rfl) ?_
      | refine q_neq_bool (by rfl) (by rfl) (by rfl) (by rfl) ?_
      | refine q_neq_flat (by rfl) (by rfl) (by rfl) (by rfl) (by rfl) (by rfl) ?_
      | refine q_len_str (by rfl) (by rfl) (by rfl) ?_
      | refine q_len_slice (by rfl) (by rfl) (by rfl) ?_
      | refine q_not (by rfl) (by rfl) (by rfl) ?_
      | refine q_add (by rfl) (by rfl) (by rfl) (by rfl) (by omega) ?_
      | refine q_index_str (by rfl) (by rfl) (by rfl) (by rfl) (by omega) (by omega) ?_
      | refine q_indexAddr (by rfl) (by rfl) (by rfl) (by rfl) (by omega) (by omega) ?_
      | refine q_load1 (by rfl) (by rfl) (by rfl) (by assumption) (by rfl) ?_
      | refine wq_skip (by rfl) (by rfl) (by rfl) ?_
      | (refine wq_split_dec (by rfl) (by rfl) (by rfl) (fun _ => ?_) (fun _ => ?_) <;> (try first | contradiction | (exfalso; omega)))
      | (refine wq_split (by rfl) (by rfl) (by rfl) (fun _ => ?_) (fun _ => ?_) <;> (fail_if_success contradiction)))
    have hkB : Kept [] w w2 := (hkA.trans hkept).trans hk2
    refine wc_loop (fun k => [(0, str s), (63, .slice (some ⟨gw, 0, none⟩) 9 cw), (64, .int .i64 9), (65, .int .i64 ((k : Nat) : Int))])
      (fun k w' => k ≤ 9 ∧ Kept [] w2 w') (fun k => 9 - k) 0 ⟨rfl, rfl, rfl, rfl, trivial⟩ ⟨by omega, Kept.refl _ _⟩ ?_
    rintro k2 w3 ⟨hk3, hkept3⟩
    by_cases hlt3 : k2 < 9
    · have hcell : ∀ cur : Array Value, (∀ (j : Nat) (u : Value), (Sp.ownWords.map str)[j]? = some u → cur[j]? = some u) → cur[0 + (k2 : Int).toNat * 1]? = some (str (Sp.ownWords.getD k2 [])) := fun cur hcur => hcur _ _ (by
        have h9 : k2 < Sp.ownWords.length := hlt3
        simp [List.getD_eq_getElem?_getD, List.getElem?_eq_getElem h9])
      repeat' (first
        | (refine op_load1 (by rfl) (by rfl) (by rfl) (by exact hkept3.get0 hgw) (by exact hcell _ hcuw) ?_)
        | (refine op_call (by rfl) (by rfl) (by rfl) (by exact c_rown _) ?_; rintro rw_ w4 ⟨hrw, hk4⟩; obtain ⟨gr, cr, cur, rfl, _, hgr, _, hcurr, _⟩ := own_open hrw (by decide))
        | (refine op_load1 (by rfl) (by rfl) (by rfl) hgr (by exact hcell _ hcurr) ?_)
        | refine op_move (by rfl) (by rfl) (by rfl) ?_
        | refine op_assign (by rfl) (by rfl) (by rfl) ?_
        | refine op_pick_true (by rfl) (by rfl) (by rfl) (by rfl) ?_
        | refine op_pick_false (by rfl) (by rfl) (by rfl) (by rfl) ?_
        | refine op_lss (by rfl) (by rfl) (by rfl) (by rfl) ?_
        | refine op_eql (by rfl) (by rfl) (by rfl) (by rfl) ?_
        | refine op_neq (by rfl) (by rfl) (by rfl) (by rfl) ?_
        | refine op_eql_str (by rfl) (by rfl) (by rfl) (by rfl) ?_
        | refine op_eql_bool (by rfl) (by rfl) (by rfl) (by rfl) ?_
        | refine op_eql_flat (by rfl) (by rfl) (by rfl) (by rfl) (by rfl) (by rfl) ?_
        | refine op_neq_str (by rfl) (by rfl) (by rfl) (by rfl) ?_
        | refine op_neq_bool (by rfl) (by rfl) (by rfl) (by rfl) ?_
        | refine op_neq_flat (by rfl) (by rfl) (by rfl) (by rfl) (by rfl) (by rfl) ?_
        | refine op_len_str (by rfl) (by rfl) (by rfl) ?_
        | refine op_len_slice (by rfl) (by rfl) (by rfl) ?_
        | refine op_not (by rfl) (by rfl) (by rfl) ?_
        | refine op_add (by rfl) (by rfl) (by rfl) (by rfl) (by omega) ?_
        | refine op_index_str (by rfl) (by rfl) (by rfl) (by rfl) (by omega) (by omega) ?_
        | refine op_indexAddr (by rfl) (by rfl) (by rfl) (by rfl) (by omega) (by omega) ?_
        | refine op_load1 (by rfl) (by rfl) (by rfl) (by assumption) (by rfl) ?_
        | refine wl_skip (by rfl) (by rfl) (by rfl) ?_
        | (refine wl_split_dec (by rfl) (by rfl) (by rfl) (fun _ => ?_) (fun _ => ?_) <;> (try first | contradiction | (exfalso; omega)))
        | (refine wl_split (by rfl) (by rfl) (by rfl) (fun _ => ?_) (fun _ => ?_) <;> (fail_if_success contradiction))
        | refine wl_nil ?_
        | refine at_then_normal ?_
        | refine at_then_ret ?_
        | refine at_then_exit ?_
        | refine at_block_normal ?_
        | refine at_block_ret ?_
        | refine at_block_exit ?_
        | refine at_block_other (by rfl) ?_
        | refine wc_seq ?_
        | refine wc_region ?_
        | refine wc_block ?_
        | refine wc_skip ?_
        | refine wc_exit ?_
        | refine wc_ret ?_
        | refine at_ret1 (by rfl) (by rfl) ?_
        | refine wc_quiet (by kernel_rfl) ?_
        | (refine wq_nil ?_; intro _ hkq)
        | (refine wq_nil_tail ?_; intro _ hkq)
        | refine wc_cond_true (by rfl) ?_
        | refine wc_cond_false (by rfl) ?_
        | (refine wc_cond_dec (by rfl) (fun _ => ?_) (fun _ => ?_) <;> (try first | contradiction | (exfalso; omega)))
        | refine wc_cond (by rfl) (fun _ => ?_) (fun _ => ?_)
        | refine q_move (by rfl) (by rfl) (by rfl) ?_
        | refine q_assign (by rfl) (by rfl) (by rfl) ?_
        | refine q_pick_true (by rfl) (by rfl) (by rfl) (by rfl) ?_
        | refine q_pick_false (by rfl) (by rfl) (by rfl) (by rfl) ?_
        | refine q_lss (by rfl) (by rfl) (by rfl) (by rfl) ?_
        | refine q_eql (by rfl) (by rfl) (by rfl) (by rfl) ?_
        | refine q_neq (by rfl) (by rfl) (by rfl) (by rfl) ?_
        | refine q_eql_str (by rfl) (by rfl) (by rfl) (by rfl) ?_
        | refine q_eql_bool (by rfl) (by rfl) (by rfl) (by rfl) ?_
        | refine q_eql_flat (by rfl) (by rfl) (by rfl) (by rfl) (by rfl) (by rfl) ?_
        | refine q_neq_str (by rfl) (by rfl) (by rfl) (by rfl) ?_
        | refine q_neq_bool (by rfl) (by rfl) (by rfl) (by rfl) ?_
        | refine q_neq_flat (by rfl) (by rfl) (by rfl) (by rfl) (by rfl) (by rfl) ?_
        | refine q_len_str (by rfl) (by rfl) (by rfl) ?_
        | refine q_len_slice (by rfl) (by rfl) (by rfl) ?_
        | refine q_not (by rfl) (by rfl) (by rfl) ?_
        | refine q_add (by rfl) (by rfl) (by rfl) (by rfl) (by omega) ?_
        | refine q_index_str (by rfl) (by rfl) (by rfl) (by rfl) (by omega) (by omega) ?_
        | refine q_indexAddr (by rfl) (by rfl) (by rfl) (by rfl) (by omega) (by omega) ?_
        | refine q_load1 (by rfl) (by rfl) (by rfl) (by assumption) (by rfl) ?_
        | refine wq_skip (by rfl) (by rfl) (by rfl) ?_
        | (refine wq_split_dec (by rfl) (by rfl) (by rfl) (fun _ => ?_) (fun _ => ?_) <;> (try first | contradiction | (exfalso; omega)))
        | (refine wq_split (by rfl) (by rfl) (by rfl) (fun _ => ?_) (fun _ => ?_) <;> (fail_if_success contradiction)))
      refine at_round (k2 + 1) (by exact ⟨rfl, rfl, rfl, rfl, trivial⟩) ?_ (by omega)
      exact ⟨by omega, hkept3.trans hk4⟩
    · skip
      repeat' (first
        | refine op_move (by rfl) (by rfl) (by rfl) ?_
        | refine op_assign (by rfl) (by rfl) (by rfl) ?_
        | refine op_pick_true (by rfl) (by rfl) (by rfl) (by rfl) ?_
        | refine op_pick_false (by rfl) (by rfl) (by rfl) (by rfl) ?_
        | refine op_lss (by rfl) (by rfl) (by rfl) (by rfl) ?_
        | refine op_eql (by rfl) (by rfl) (by rfl) (by rfl) ?_
        | refine op_neq (by rfl) (by rfl) (by rfl) (by rfl) ?_
        | refine op_eql_str (by rfl) (by rfl) (by rfl) (by rfl) ?_
        | refine op_eql_bool (by rfl) (by rfl) (by rfl) (by rfl) ?_
        | refine op_eql_flat (by rfl) (by rfl) (by rfl) (by rfl) (by rfl) (by rfl) ?_
        | refine op_neq_str (by rfl) (by rfl) (by rfl) (by rfl) ?_
        | refine op_neq_bool (by rfl) (by rfl) (by rfl) (by rfl) ?_
        | refine op_neq_flat (by rfl) (by rfl) (by rfl) (by rfl) (by rfl) (by rfl) ?_
        | refine op_len_str (by rfl) (by rfl) (by rfl) ?_
        | refine op_len_slice (by rfl) (by rfl) (by rfl) ?_
        | refine op_not (by rfl) (by rfl) (by rfl) ?_
        | refine op_add (by rfl) (by rfl) (by rfl) (by rfl) (by omega) ?_
        | refine op_index_str (by rfl) (by rfl) (by rfl) (by rfl) (by omega) (by omega) ?_
        | refine op_indexAddr (by rfl) (by rfl) (by rfl) (by rfl) (by omega) (by omega) ?_
        | refine op_load1 (by rfl) (by rfl) (by rfl) (by assumption) (by rfl) ?_
        | refine wl_skip (by rfl) (by rfl) (by rfl) ?_
        | (refine wl_split_dec (by rfl) (by rfl) (by rfl) (fun _ => ?_) (fun _ => ?_) <;> (try first | contradiction | (exfalso; omega)))
        | (refine wl_split (by rfl) (by rfl) (by rfl) (fun _ => ?_) (fun _ => ?_) <;> (fail_if_success contradiction))
        | refine wl_nil ?_
        | refine at_then_normal ?_
        | refine at_then_ret ?_
        | refine at_then_exit ?_
        | refine at_block_normal ?_
        | refine at_block_ret ?_
        | refine at_block_exit ?_
        | refine at_block_other (by rfl) ?_
        | refine wc_seq ?_
        | refine wc_region ?_
        | refine wc_block ?_
        | refine wc_skip ?_
        | refine wc_exit ?_
        | refine wc_ret ?_
        | refine at_ret1 (by rfl) (by rfl) ?_
        | refine wc_quiet (by kernel_rfl) ?_
        | (refine wq_nil ?_; intro _ hkq)
        | (refine wq_nil_tail ?_; intro _ hkq)
        | refine wc_cond_true (by rfl) ?_
        | refine wc_cond_false (by rfl) ?_
        | (refine wc_cond_dec (by rfl) (fun _ => ?_) (fun _ => ?_) <;> (try first | contradiction | (exfalso; omega)))
        | refine wc_cond (by rfl) (fun _ => ?_) (fun _ => ?_)
        | refine q_move (by rfl) (by rfl) (by rfl) ?_
        | refine q_assign (by rfl) (by rfl) (by rfl) ?_
        | refine q_pick_true (by rfl) (by rfl) (by rfl) (by rfl) ?_
        | refine q_pick_false (by rfl) (by rfl) (by rfl) (by rfl) ?_
        | refine q_lss (by rfl) (by rfl) (by rfl) (by rfl) ?_
        | refine q_eql (by rfl) (by rfl) (by rfl) (by rfl) ?_
        | refine q_neq (by rfl) (by rfl) (by rfl) (by rfl) ?_
        | refine q_eql_str (by rfl) (by rfl) (by rfl) (by rfl) ?_
        | refine q_eql_bool (by rfl) (by rfl) (by rfl) (by rfl) ?_
        | refine q_eql_flat (by rfl) (by rfl) (by rfl) (by rfl) (by rfl) (by rfl) ?_
        | refine q_neq_str (by rfl) (by rfl) (by rfl) (by rfl) ?_
        | refine q_neq_bool (by rfl) (by rfl) (by rfl) (by rfl) ?_
        | refine q_neq_flat (by rfl) (by rfl) (by rfl) (by rfl) (by rfl) (by rfl) ?_
        | refine q_len_str (by rfl) (by rfl) (by rfl) ?_
        | refine q_len_slice (by rfl) (by rfl) (by rfl) ?_
        | refine q_not (by rfl) (by rfl) (by rfl) ?_
        | refine q_add (by rfl) (by rfl) (by rfl) (by rfl) (by omega) ?_
        | refine q_index_str (by rfl) (by rfl) (by rfl) (by rfl) (by omega) (by omega) ?_
        | refine q_indexAddr (by rfl) (by rfl) (by rfl) (by rfl) (by omega) (by omega) ?_
        | refine q_load1 (by rfl) (by rfl) (by rfl) (by assumption) (by rfl) ?_
        | refine wq_skip (by rfl) (by rfl) (by rfl) ?_
        | (refine wq_split_dec (by rfl) (by rfl) (by rfl) (fun _ => ?_) (fun _ => ?_) <;> (try first | contradiction | (exfalso; omega)))
        | (refine wq_split (by rfl) (by rfl) (by rfl) (fun _ => ?_) (fun _ => ?_) <;> (fail_if_success contradiction)))
      refine wc_loop (fun k => [(0, str s), (78, .int .i64 (s.length : Int)), (79, .int .i64 ((k : Nat) : Int))])
        (fun k w' => k ≤ s.length ∧ Kept [] w3 w') (fun k => s.length - k) 0 ⟨rfl, rfl, rfl, trivial⟩ ⟨by omega, Kept.refl _ _⟩ ?_
      rintro k4 w4 ⟨hk5, hkept4⟩
      repeat' (first
        | (refine op_call (by rfl) (by rfl) (by rfl) (by exact c_letter _ _) ?_; rintro _ w4 ⟨rfl, rfl⟩)
        | (refine op_call (by rfl) (by rfl) (by rfl) (by exact c_rletter _ _) ?_; rintro _ w4 ⟨rfl, rfl⟩)
        | (refine op_call (by rfl) (by rfl) (by rfl) (by exact c_digit _ _) ?_; rintro _ w4 ⟨rfl, rfl⟩)
        | (refine op_call (by rfl) (by rfl) (by rfl) (by exact c_rdigit _ _) ?_; rintro _ w4 ⟨rfl, rfl⟩)
        | (refine op_call (by rfl) (by rfl) (by rfl) (by exact c_blank _ _) ?_; rintro _ w4 ⟨rfl, rfl⟩)
        | refine op_move (by rfl) (by rfl) (by rfl) ?_
        | refine op_assign (by rfl) (by rfl) (by rfl) ?_
        | refine op_pick_true (by rfl) (by rfl) (by rfl) (by rfl) ?_
        | refine op_pick_false (by rfl) (by rfl) (by rfl) (by rfl) ?_
        | refine op_lss (by rfl) (by rfl) (by rfl) (by rfl) ?_
        | refine op_eql (by rfl) (by rfl) (by rfl) (by rfl) ?_
        | refine op_neq (by rfl) (by rfl) (by rfl) (by rfl) ?_
        | refine op_eql_str (by rfl) (by rfl) (by rfl) (by rfl) ?_
        | refine op_eql_bool (by rfl) (by rfl) (by rfl) (by rfl) ?_
        | refine op_eql_flat (by rfl) (by rfl) (by rfl) (by rfl) (by rfl) (by rfl) ?_
        | refine op_neq_str (by rfl) (by rfl) (by rfl) (by rfl) ?_
        | refine op_neq_bool (by rfl) (by rfl) (by rfl) (by rfl) ?_
        | refine op_neq_flat (by rfl) (by rfl) (by rfl) (by rfl) (by rfl) (by rfl) ?_
        | refine op_len_str (by rfl) (by rfl) (by rfl) ?_
        | refine op_len_slice (by rfl) (by rfl) (by rfl) ?_
        | refine op_not (by rfl) (by rfl) (by rfl) ?_
        | refine op_add (by rfl) (by rfl) (by rfl) (by rfl) (by omega) ?_
        | refine op_index_str (by rfl) (by rfl) (by rfl) (by rfl) (by omega) (by omega) ?_
        | refine op_indexAddr (by rfl) (by rfl) (by rfl) (by rfl) (by omega) (by omega) ?_
        | refine op_load1 (by rfl) (by rfl) (by rfl) (by assumption) (by rfl) ?_
        | refine wl_skip (by rfl) (by rfl) (by rfl) ?_
        | (refine wl_split_dec (by rfl) (by rfl) (by rfl) (fun _ => ?_) (fun _ => ?_) <;> (try first | contradiction | (exfalso; omega)))
        | (refine wl_split (by rfl) (by rfl) (by rfl) (fun _ => ?_) (fun _ => ?_) <;> (fail_if_success contradiction))
        | refine wl_nil ?_
        | refine at_then_normal ?_
        | refine at_then_ret ?_
        | refine at_then_exit ?_
        | refine at_block_normal ?_
        | refine at_block_ret ?_
        | refine at_block_exit ?_
        | refine at_block_other (by rfl) ?_
        | refine wc_seq ?_
        | refine wc_region ?_
        | refine wc_block ?_
        | refine wc_skip ?_
        | refine wc_exit ?_
        | refine wc_ret ?_
        | refine at_ret1 (by rfl) (by rfl) ?_
        | refine wc_quiet (by kernel_rfl) ?_
        | (refine wq_nil ?_; intro _ hkq)
        | (refine wq_nil_tail ?_; intro _ hkq)
        | refine wc_cond_true (by rfl) ?_
        | refine wc_cond_false (by rfl) ?_
        | (refine wc_cond_dec (by rfl) (fun _ => ?_) (fun _ => ?_) <;> (try first | contradiction | (exfalso; omega)))
        | refine wc_cond (by rfl) (fun _ => ?_) (fun _ => ?_)
        | refine q_move (by rfl) (by rfl) (by rfl) ?_
        | refine q_assign (by rfl) (by rfl) (by rfl) ?_
        | refine q_pick_true (by rfl) (by rfl) (by rfl) (by rfl) ?_
        | refine q_pick_false (by rfl) (by rfl) (by rfl) (by rfl) ?_
        | refine q_lss (by rfl) (by rfl) (by rfl) (by rfl) ?_
        | refine q_eql (by rfl) (by rfl) (by rfl) (by rfl) ?_
        | refine q_neq (by rfl) (by rfl) (by rfl) (by rfl) ?_
        | refine q_eql_str (by rfl) (by rfl) (by rfl) (by rfl) ?_
        | refine q_eql_bool (by rfl) (by rfl) (by rfl) (by rfl) ?_
        | refine q_eql_flat (by rfl) (by rfl) (by rfl) (by rfl) (by rfl) (by rfl) ?_
        | refine q_neq_str (by rfl) (by rfl) (by rfl) (by rfl) ?_
        | refine q_neq_bool (by rfl) (by rfl) (by rfl) (by rfl) ?_
        | refine q_neq_flat (by rfl) (by rfl) (by rfl) (by rfl) (by rfl) (by rfl) ?_
        | refine q_len_str (by rfl) (by rfl) (by rfl) ?_
        | refine q_len_slice (by rfl) (by rfl) (by rfl) ?_
        | refine q_not (by rfl) (by rfl) (by rfl) ?_
        | refine q_add (by rfl) (by rfl) (by rfl) (by rfl) (by omega) ?_
        | refine q_index_str (by rfl) (by rfl) (by rfl) (by rfl) (by omega) (by omega) ?_
        | refine q_indexAddr (by rfl) (by rfl) (by rfl) (by rfl) (by omega) (by omega) ?_
        | refine q_load1 (by rfl) (by rfl) (by rfl) (by assumption) (by rfl) ?_
        | refine wq_skip (by rfl) (by rfl) (by rfl) ?_
        | (refine wq_split_dec (by rfl) (by rfl) (by rfl) (fun _ => ?_) (fun _ => ?_) <;> (try first | contradiction | (exfalso; omega)))
        | (refine wq_split (by rfl) (by rfl) (by rfl) (fun _ => ?_) (fun _ => ?_) <;> (fail_if_success contradiction)))
      all_goals first
        | (refine at_round (k4 + 1) (by exact ⟨rfl, rfl, rfl, trivial⟩) ?_ (by omega); exact ⟨by omega, hkept4⟩)
        | exact ⟨rfl, (hkB.trans hkept3).trans hkept4⟩
        | (rename_i h1 h2; refine absurd ?_ h2; clear h2; rw [Bool.eq_iff_iff]; unfold Sp.isBlank; simp only [Bool.or_eq_true, decide_eq_true_eq, iff_true]; omega)
end Go.Proofs.Ythleggomainocaa
