/- Own work: texts RLexT, LawPw, TopParseWhole, one behind the other. -/
import Derived.Test.YtjfkjpbkmpofkaaDoorMw17
import Derived.Test.YtjfkjpbkmpofkaaDoorCards
import Derived.Test.YtjfkjpbkmpofkaaDoorTie
import Derived.Deep.DeepHandedRow
import Derived.Lay
section
namespace Go.Proofs.YtjfkjpbkmpofkaaDoor
open Go.Fw
theorem c_rletter (c : UInt8) (w : World) :
    Cal Tryd.prog 17 #[.int .u8 (c.toNat : Int)] w fun v w' => v = .bool (Sp.isLetter c) ∧ w' = w := by
  refine enter (N := 21) Tryd.func17 rfl [(0, .int .u8 (c.toNat : Int))] args1 rfl ?_
  repeat' (first
    | refine op_move (by rfl) (by rfl) (by rfl) ?_
    | refine op_assign (by rfl) (by rfl) (by rfl) ?_
    | refine op_pick_true (by rfl) (by rfl) (by rfl) (by rfl) ?_
    | refine op_pick_false (by rfl) (by rfl) (by rfl) (by rfl) ?_
    | refine op_leq (by rfl) (by rfl) (by rfl) (by rfl) ?_
    | refine op_geq (by rfl) (by rfl) (by rfl) (by rfl) ?_
    | refine op_eql (by rfl) (by rfl) (by rfl) (by rfl) ?_
    | refine wl_skip (by rfl) (by rfl) (by rfl) ?_
    | (refine wl_split_dec (by rfl) (by rfl) (by rfl) (fun _ => ?_) (fun _ => ?_) <;> (try first | contradiction | (exfalso; omega)))
    | refine wl_nil ?_
    | refine at_then_normal ?_
    | refine wc_seq ?_
    | refine wc_region ?_
    | refine wc_ret ?_
    | refine at_ret1 (by rfl) (by rfl) ?_)
  all_goals (refine ⟨congrArg Value.bool ?_, rfl⟩; unfold Sp.isLetter; rw [Bool.eq_iff_iff]; simp; omega)
theorem c_rdigit (c : UInt8) (w : World) :
    Cal Tryd.prog 18 #[.int .u8 (c.toNat : Int)] w fun v w' => v = .bool (Sp.isDigit c) ∧ w' = w := by
  refine enter (N := 9) Tryd.func18 rfl [(0, .int .u8 (c.toNat : Int))] args1 rfl ?_
  repeat' (first
    | refine op_move (by rfl) (by rfl) (by rfl) ?_
    | refine op_assign (by rfl) (by rfl) (by rfl) ?_
    | refine op_pick_true (by rfl) (by rfl) (by rfl) (by rfl) ?_
    | refine op_pick_false (by rfl) (by rfl) (by rfl) (by rfl) ?_
    | refine op_leq (by rfl) (by rfl) (by rfl) (by rfl) ?_
    | refine op_geq (by rfl) (by rfl) (by rfl) (by rfl) ?_
    | refine wl_skip (by rfl) (by rfl) (by rfl) ?_
    | (refine wl_split_dec (by rfl) (by rfl) (by rfl) (fun _ => ?_) (fun _ => ?_) <;> (try first | contradiction | (exfalso; omega)))
    | refine wl_nil ?_
    | refine at_then_normal ?_
    | refine wc_seq ?_
    | refine wc_region ?_
    | refine wc_ret ?_
    | refine at_ret1 (by rfl) (by rfl) ?_)
  all_goals (refine ⟨congrArg Value.bool ?_, rfl⟩; unfold Sp.isDigit; rw [Bool.eq_iff_iff]; simp; omega)
theorem c_rsign (c : UInt8) (w : World) :
    Cal Tryd.prog 19 #[.int .u8 (c.toNat : Int)] w fun v w' => v = .bool (Sp.isSign c) ∧ w' = w := by
  have hs : Sp.isSign c = (decide (c.toNat = 40) || decide (c.toNat = 41) || decide (c.toNat = 123) || decide (c.toNat = 125) || decide (c.toNat = 44) || decide (c.toNat = 58) || decide (c.toNat = 59) || decide (c.toNat = 61) || decide (c.toNat = 43) || decide (c.toNat = 45) || decide (c.toNat = 42) || decide (c.toNat = 60)) := by
    have e : ∀ n : UInt8, decide (n = c) = decide (c.toNat = n.toNat) := fun n => by
      rw [Bool.eq_iff_iff, decide_eq_true_eq, decide_eq_true_eq, ← UInt8.toNat_inj]; omega
    simp only [Sp.isSign, Sp.signs, List.any_cons, List.any_nil, e, Bool.or_false, Bool.or_assoc]
    rfl
  rw [hs]
  clear hs
  refine enter (N := 17) Tryd.func19 rfl [(0, .int .u8 (c.toNat : Int))] args1 rfl ?_
  repeat' (first
    | refine op_move (by rfl) (by rfl) (by rfl) ?_
    | refine op_assign (by rfl) (by rfl) (by rfl) ?_
    | refine op_eql (by rfl) (by rfl) (by rfl) (by rfl) ?_
    | refine wl_nil ?_
    | refine at_then_normal ?_
    | refine at_then_ret ?_
    | refine at_block_normal ?_
    | refine at_block_ret ?_
    | refine wc_seq ?_
    | refine wc_region ?_
    | refine wc_block ?_
    | refine wc_skip ?_
    | refine wc_ret ?_
    | refine at_ret1 (by rfl) (by rfl) ?_
    | (refine wc_cond_dec (by rfl) (fun _ => ?_) (fun _ => ?_) <;> (try first | contradiction | (exfalso; omega))))
  all_goals (refine ⟨congrArg Value.bool ?_, rfl⟩; rw [Bool.eq_iff_iff]; simp; omega)

structure RLoop where
  at_ : Nat
  st : Nat
  out : Value
  acc : List Sp.Tok
set_option maxHeartbeats 1000000 in
theorem c_rtokens (s : List UInt8) (hl : s.length ≤ 1099511627776) (w : World) :
    Cal Tryd.prog 12 #[str s] w fun v w' => w'.ownsRow w.heap.size 50 3 v (Sp.rtokens s).length ((Sp.rtokens s).flatMap encTok) ∧ Kept [] w w' := by
  refine enter (N := 120) Tryd.func12 rfl [(0, str s)] args1 rfl ?_
  repeat' (first
    | refine op_move (by rfl) (by rfl) (by rfl) ?_
    | refine op_assign (by rfl) (by rfl) (by rfl) ?_
    | refine op_len_str (by rfl) (by rfl) (by rfl) ?_
    | refine wl_nil ?_
    | refine at_then_normal ?_
    | refine wc_seq ?_
    | refine wc_region ?_
    | refine wc_block ?_)
  refine wc_loop (fun x : RLoop => [(0, str s), (3, x.out), (4, .int .i64 (x.st : Int)), (9, .int .i64 (s.length : Int)), (10, .int .i64 (x.at_ : Int))])
    (fun x w' => x.at_ ≤ s.length ∧ x.acc.length ≤ x.at_ ∧ (x.st, x.acc) = Sp.rtoks s x.at_ ∧ ((x.st = 1 ∨ x.st = 2) → x.acc ≠ []) ∧ (∀ t ∈ x.acc, t.text.length ≤ x.at_) ∧
      w'.ownsRow w.heap.size 50 3 x.out x.acc.length (x.acc.flatMap encTok) ∧ Kept [] w w')
    (fun x => s.length - x.at_) ⟨0, 0, .slice none 0 0, []⟩ ⟨rfl, rfl, rfl, rfl, rfl, trivial⟩ ⟨by simp, by simp, by simp [Sp.rtoks], by simp, by simp, World.ownsRow_nil _ _ _ _, Kept.refl _ _⟩ ?_
  rintro ⟨k, st, out, acc⟩ w1 ⟨hk, hacc, heq, hst, htx, hown, hkept⟩
  dsimp only at hk hacc heq hst htx hown hkept ⊢
  have hC : (s.getD (k : Int).toNat 0) = s.getD k 0 := by simp
  repeat' (first
    | (refine wc_cut_block 2 (fun _ : Unit => [(0, str s), (3, out), (4, .int .i64 (st : Int)), (5, .int .i64 (k : Int)), (6, .int .u8 ((s.getD k 0).toNat : Int)), (9, .int .i64 (s.length : Int)), (10, .int .i64 (k : Int))]) (fun _ w' => w' = w1 ∧ ¬ (st = 9 ∧ (s.getD k 0).toNat ≠ 10) ∧ ¬ ((st = 1 ∧ Sp.isWord (s.getD k 0) = true) ∨ (st = 2 ∧ Sp.isDigit (s.getD k 0) = true))) ?_ ?_)
    | (refine wc_cut_reg 8 (fun _ : Unit => [(0, str s), (3, out), (4, .int .i64 (st : Int)), (5, .int .i64 (k : Int)), (6, .int .u8 ((s.getD k 0).toNat : Int)), (9, .int .i64 (s.length : Int)), (10, .int .i64 (k : Int)), (23, .bool (decide ((st = 1 ∧ Sp.isWord (s.getD k 0) = true) ∨ (st = 2 ∧ Sp.isDigit (s.getD k 0) = true))))]) (fun _ w' => w' = w1) ?_ ?_)
    | (refine op_call (by rfl) (by rfl) (by rfl) (by exact c_rletter _ _) ?_; rintro _ w1 ⟨rfl, rfl⟩)
    | (refine op_call (by rfl) (by rfl) (by rfl) (by exact c_rdigit _ _) ?_; rintro _ w1 ⟨rfl, rfl⟩)
    | (rintro ⟨⟩ w1 rfl)
    | refine op_move (by rfl) (by rfl) (by rfl) ?_
    | refine op_assign (by rfl) (by rfl) (by rfl) ?_
    | refine op_pick_true (by rfl) (by rfl) (by rfl) (by rfl) ?_
    | refine op_pick_false (by rfl) (by rfl) (by rfl) (by rfl) ?_
    | refine op_lss (by rfl) (by rfl) (by rfl) (by rfl) ?_
    | refine op_eql (by rfl) (by rfl) (by rfl) (by rfl) ?_
    | refine op_neq (by rfl) (by rfl) (by rfl) (by rfl) ?_
    | refine op_add (by rfl) (by rfl) (by rfl) (by rfl) (by omega) ?_
    | refine op_index_str (by rfl) (by rfl) (by rfl) (by rfl) (by omega) (by omega) ?_
    | refine wl_skip (by rfl) (by rfl) (by rfl) ?_
    | (refine wl_split_dec (by rfl) (by rfl) (by rfl) (fun _ => ?_) (fun _ => ?_) <;> (try first | contradiction | (exfalso; omega)))
    | (refine wl_split (by rfl) (by rfl) (by rfl) (fun _ => ?_) (fun _ => ?_) <;> (fail_if_success contradiction))
    | refine wl_nil ?_
    | refine at_then_normal ?_
    | refine at_then_exit ?_
    | refine at_block_normal ?_
    | refine at_block_exit ?_
    | refine at_block_other (by rfl) ?_
    | refine wc_seq ?_
    | refine wc_region ?_
    | refine wc_block ?_
    | refine wc_skip ?_
    | refine wc_exit ?_
    | refine wc_ret ?_
    | refine at_ret1 (by rfl) (by rfl) ?_
    | refine wc_cond_true (by rfl) ?_
    | refine wc_cond_false (by rfl) ?_
    | (refine wc_cond_dec (by rfl) (fun _ => ?_) (fun _ => ?_) <;> (try first | contradiction | (exfalso; omega)))
    | refine wc_cond (by rfl) (fun _ => ?_) (fun _ => ?_))
  · rename_i h1 h2 h3
    refine at_round (⟨k + 1, st, out, acc⟩ : RLoop) (by exact ⟨rfl, rfl, rfl, rfl, rfl, trivial⟩) ?_ (by dsimp only; omega)
    have : Sp.rtoks s (k + 1) = (st, acc) := by
      rw [Sp.rtoks, ← heq, Sp.rstep, if_pos ⟨by dsimp only; omega, by simp only [hC] at h3; omega⟩]
    exact ⟨by dsimp only; omega, by dsimp only; omega, this.symm, hst, fun t ht => Nat.le_succ_of_le (htx t ht), hown, hkept⟩
  · refine at_cut () ⟨rfl, rfl, rfl, rfl, rfl, rfl, rfl, ?_, trivial⟩ rfl
    refine congrArg (fun b => some (Value.bool b)) ?_
    rw [Bool.eq_iff_iff]; simp only [hC] at *; generalize s.getD k 0 = c at *
    cases hq : Sp.isLetter c <;> cases hq' : Sp.isDigit c <;> simp_all [Sp.isWord] <;> omega
  · rename_i h1 h2 h3 h4
    exact at_cut () ⟨rfl, rfl, rfl, rfl, rfl, rfl, rfl, trivial⟩ ⟨rfl, by rw [hC] at h3; omega, h4⟩
  · refine at_cut () ⟨rfl, rfl, rfl, rfl, rfl, rfl, rfl, ?_, trivial⟩ rfl
    refine congrArg (fun b => some (Value.bool b)) ?_
    rw [Bool.eq_iff_iff]; simp only [hC] at *; generalize s.getD k 0 = c at *
    cases hq : Sp.isLetter c <;> cases hq' : Sp.isDigit c <;> simp_all [Sp.isWord] <;> omega
  · refine at_cut () ⟨rfl, rfl, rfl, rfl, rfl, rfl, rfl, ?_, trivial⟩ rfl
    refine congrArg (fun b => some (Value.bool b)) ?_
    rw [Bool.eq_iff_iff]; simp only [hC] at *; generalize s.getD k 0 = c at *
    cases hq : Sp.isLetter c <;> cases hq' : Sp.isDigit c <;> simp_all [Sp.isWord] <;> omega
  · refine at_cut () ⟨rfl, rfl, rfl, rfl, rfl, rfl, rfl, ?_, trivial⟩ rfl
    refine congrArg (fun b => some (Value.bool b)) ?_
    rw [Bool.eq_iff_iff]; simp only [hC] at *; generalize s.getD k 0 = c at *
    cases hq : Sp.isLetter c <;> cases hq' : Sp.isDigit c <;> simp_all [Sp.isWord] <;> omega
  · refine at_cut () ⟨rfl, rfl, rfl, rfl, rfl, rfl, rfl, ?_, trivial⟩ rfl
    refine congrArg (fun b => some (Value.bool b)) ?_
    rw [Bool.eq_iff_iff]; simp only [hC] at *; generalize s.getD k 0 = c at *
    cases hq : Sp.isLetter c <;> cases hq' : Sp.isDigit c <;> simp_all [Sp.isWord] <;> omega
  · refine at_cut () ⟨rfl, rfl, rfl, rfl, rfl, rfl, rfl, ?_, trivial⟩ rfl
    refine congrArg (fun b => some (Value.bool b)) ?_
    rw [Bool.eq_iff_iff]; simp only [hC] at *; generalize s.getD k 0 = c at *
    cases hq : Sp.isLetter c <;> cases hq' : Sp.isDigit c <;> simp_all [Sp.isWord] <;> omega
  · rename_i h1 h2 h3
    have hne : acc ≠ [] := hst (by omega)
    obtain ⟨l0, t, rfl⟩ : ∃ l0 t, acc = l0 ++ [t] := ⟨acc.dropLast, acc.getLast hne, (List.dropLast_concat_getLast hne).symm⟩
    obtain ⟨g, cap, cur, rfl, hbg, hg, hcap, hcur, hsz⟩ := own_open hown (by simp)
    have hlen : (l0 ++ [t]).length = l0.length + 1 := by simp
    have hc1 : cur[l0.length * 3 + 1]? = some (str t.text) := hcur _ _ (by
      rw [List.flatMap_append, List.getElem?_append_right (by rw [encTok_len]; omega), encTok_len, show l0.length * 3 + 1 - l0.length * 3 = 1 by omega]; rfl)
    have htl : t.text.length ≤ k := htx t (by simp)
    have hsz2 : l0.length * 3 + 3 ≤ cur.size := by rw [hsz]; omega
    repeat' (first
      | (refine wc_quiet_tail 15 (by kernel_rfl) ?_)
      | (refine q_load1 (by rfl) (by rfl) (by rfl) hg (by exact (congrArg (fun i => cur[i]?) (by omega)).trans hc1) ?_)
      | (refine q_add_str (by rfl) (by rfl) (by rfl) (by rfl) (by simp only [List.length_take, List.length_drop]; omega) ?_)
      | (refine op_store (by rfl) (by rfl) (by rfl) (by rfl) (by exact hkq.get0 hg) (by rfl) (by omega) (by rfl) ?_; intro w3 hb3 hk3)
      | refine op_move (by rfl) (by rfl) (by rfl) ?_
      | refine op_assign (by rfl) (by rfl) (by rfl) ?_
      | refine op_len_slice (by rfl) (by rfl) (by rfl) ?_
      | refine op_add (by rfl) (by rfl) (by rfl) (by rfl) (by omega) ?_
      | refine op_sub (by rfl) (by rfl) (by rfl) (by rfl) (by omega) ?_
      | refine wl_nil ?_
      | refine at_then_normal ?_
      | refine at_then_exit ?_
      | refine at_block_exit ?_
      | refine at_block_other (by rfl) ?_
      | refine wc_seq ?_
      | refine wc_region ?_
      | refine wc_exit ?_
      | (refine wq_nil_tail ?_; intro _ hkq)
      | refine q_move (by rfl) (by rfl) (by rfl) ?_
      | refine q_add (by rfl) (by rfl) (by rfl) (by rfl) (by omega) ?_
      | refine q_slice_str (by rfl) (by rfl) (by rfl) (by rfl) (by rfl) (by omega) ?_
      | refine q_fieldAddr (by rfl) (by rfl) (by rfl) ?_
      | refine q_indexAddr (by rfl) (by rfl) (by rfl) (by rfl) (by omega) (by omega) ?_)
    rename_i w2
    have hoff : 0 + (((l0 ++ [t]).length : Int) - 1).toNat * 3 + 1 = l0.length * 3 + 1 := by omega
    have hch : (s.drop (k : Int).toNat).take (((k : Int) + 1).toNat - (k : Int).toNat) = [s.getD k 0] := by
      rw [show ((k : Int) + 1).toNat - (k : Int).toNat = 1 by omega, Int.toNat_natCast]
      exact Sp.take_one s k (by omega)
    rw [hoff, hch] at hb3
    have hst2 := own_set (hkq.own hown (by simp)) (hkq.get0 hg) hb3 (by omega)
    rw [enc_addLast] at hst2
    have hal : Sp.addLast (l0 ++ [t]) (s.getD k 0) = l0 ++ [⟨t.kind, t.text ++ [s.getD k 0], t.pos⟩] := by simp [Sp.addLast]
    have hrt : Sp.rtoks s (k + 1) = (st, Sp.addLast (l0 ++ [t]) (s.getD k 0)) := by
      rw [Sp.rtoks, ← heq, Sp.rstep, if_neg (by dsimp only; omega), if_pos h3]
    refine at_round (⟨k + 1, st, _, Sp.addLast (l0 ++ [t]) (s.getD k 0)⟩ : RLoop) (by exact ⟨rfl, rfl, rfl, rfl, rfl, trivial⟩) ?_ (by dsimp only; omega)
    refine ⟨by dsimp only; omega, ?_, hrt.symm, ?_, ?_, ?_, ?_⟩
    · rw [hal]; simp at hacc ⊢; omega
    · rw [hal]; simp
    · rw [hal]
      intro u hu
      rcases List.mem_append.1 hu with h | h
      · exact Nat.le_succ_of_le (htx u (by simp [h]))
      · simp at h; subst h; simp; exact htl
    · have : (Sp.addLast (l0 ++ [t]) (s.getD k 0)).length = (l0 ++ [t]).length := by rw [hal]; simp
      rw [this]; exact hst2
    · exact (hkept.step0 hkq).step hk3 (fun x hx => .inr (by simp at hx; subst hx; exact hbg))
  · rename_i h1 h2 h3
    exact at_cut () ⟨rfl, rfl, rfl, rfl, rfl, rfl, rfl, trivial⟩ ⟨rfl, by omega, h3⟩
  · rintro ⟨⟩ w1' ⟨rfl, h2, h3⟩
    rename_i h1
    have hch : (s.drop (k : Int).toNat).take (((k : Int) + 1).toNat - (k : Int).toNat) = [s.getD k 0] := by
      rw [show ((k : Int) + 1).toNat - (k : Int).toNat = 1 by omega, Int.toNat_natCast]
      exact Sp.take_one s k (by omega)
    repeat' (first
      | (refine wc_cut_block 3 (fun x : RLoop => [(0, str s), (3, x.out), (4, .int .i64 (x.st : Int)), (5, .int .i64 (k : Int)), (6, .int .u8 ((s.getD k 0).toNat : Int)), (9, .int .i64 (s.length : Int)), (10, .int .i64 (k : Int))]) (fun x w' => ((Sp.rcls (s.getD k 0) = 3 ∨ Sp.rcls (s.getD k 0) = 4) → x.st = 0 ∧ x.acc = acc ++ [⟨Sp.rcls (s.getD k 0), [s.getD k 0], k⟩]) ∧ (¬ (Sp.rcls (s.getD k 0) = 3 ∨ Sp.rcls (s.getD k 0) = 4) → x.st = Sp.rcls (s.getD k 0) ∧ x.acc = acc) ∧ w'.ownsRow w.heap.size 50 3 x.out x.acc.length (x.acc.flatMap encTok) ∧ Kept [] w w') ?_ ?_)
      | (refine op_call (by rfl) (by rfl) (by rfl) (by exact c_rletter _ _) ?_; rintro _ w1 ⟨rfl, rfl⟩)
      | (refine op_call (by rfl) (by rfl) (by rfl) (by exact c_rdigit _ _) ?_; rintro _ w1 ⟨rfl, rfl⟩)
      | (refine op_call (by rfl) (by rfl) (by rfl) (by exact c_rsign _ _) ?_; rintro _ w1 ⟨rfl, rfl⟩)
      | (refine op_append1 (by rfl) (by rfl) (by rfl) (by rfl) (by rfl) hown (by rfl) (by rfl) (by omega) (by omega) (by omega) (by have := hkept.size; omega) ?_; intro v3 w3 hown3 hk3 hb3)
      | refine op_move (by rfl) (by rfl) (by rfl) ?_
      | refine op_assign (by rfl) (by rfl) (by rfl) ?_
      | refine op_pick_true (by rfl) (by rfl) (by rfl) (by rfl) ?_
      | refine op_pick_false (by rfl) (by rfl) (by rfl) (by rfl) ?_
      | refine op_eql (by rfl) (by rfl) (by rfl) (by rfl) ?_
      | refine op_add (by rfl) (by rfl) (by rfl) (by rfl) (by omega) ?_
      | refine op_slice_str (by rfl) (by rfl) (by rfl) (by rfl) (by rfl) (by omega) ?_
      | refine op_struct (by rfl) (by rfl) (by rfl) (by rfl) ?_
      | refine wl_skip (by rfl) (by rfl) (by rfl) ?_
      | (refine wl_split_dec (by rfl) (by rfl) (by rfl) (fun _ => ?_) (fun _ => ?_) <;> (try first | contradiction | (exfalso; omega)))
      | refine wl_nil ?_
      | refine at_then_normal ?_
      | refine at_block_normal ?_
      | refine wc_seq ?_
      | refine wc_region ?_
      | refine wc_block ?_
      | refine wc_skip ?_
      | refine wc_cond_true (by rfl) ?_
      | (refine wc_cond_dec (by rfl) (fun _ => ?_) (fun _ => ?_) <;> (try first | contradiction | (exfalso; omega)))
      | refine wc_cond (by rfl) (fun _ => ?_) (fun _ => ?_))
    · rename_i g0
      have hr : Sp.rcls (s.getD k 0) = 0 := by simp only [Sp.rcls]; rw [if_pos (by simp only [Sp.isBlank, Bool.or_eq_true, decide_eq_true_eq]; omega)]
      exact at_cut (⟨k, 0, out, acc⟩ : RLoop) ⟨rfl, rfl, rfl, rfl, rfl, rfl, rfl, trivial⟩ ⟨fun h => by omega, fun _ => ⟨hr.symm, rfl⟩, hown, hkept⟩
    · rename_i g0 g1
      have hr : Sp.rcls (s.getD k 0) = 0 := by simp only [Sp.rcls]; rw [if_pos (by simp only [Sp.isBlank, Bool.or_eq_true, decide_eq_true_eq]; omega)]
      exact at_cut (⟨k, 0, out, acc⟩ : RLoop) ⟨rfl, rfl, rfl, rfl, rfl, rfl, rfl, trivial⟩ ⟨fun h => by omega, fun _ => ⟨hr.symm, rfl⟩, hown, hkept⟩
    · rename_i g0 g1 g2
      have hr : Sp.rcls (s.getD k 0) = 0 := by simp only [Sp.rcls]; rw [if_pos (by simp only [Sp.isBlank, Bool.or_eq_true, decide_eq_true_eq]; omega)]
      exact at_cut (⟨k, 0, out, acc⟩ : RLoop) ⟨rfl, rfl, rfl, rfl, rfl, rfl, rfl, trivial⟩ ⟨fun h => by omega, fun _ => ⟨hr.symm, rfl⟩, hown, hkept⟩
    · rename_i g1 g2 g3 g4
      have hr : Sp.rcls (s.getD k 0) = 9 := by simp only [Sp.rcls]; rw [if_neg (by simp only [Sp.isBlank, Bool.or_eq_true, decide_eq_true_eq]; omega), if_pos (by omega)]
      exact at_cut (⟨k, 9, out, acc⟩ : RLoop) ⟨rfl, rfl, rfl, rfl, rfl, rfl, rfl, trivial⟩ ⟨fun h => by omega, fun _ => ⟨hr.symm, rfl⟩, hown, hkept⟩
    · rename_i g1 g2 g3 g4 g5
      have hr : Sp.rcls (s.getD k 0) = 1 := by simp only [Sp.rcls]; rw [if_neg (by simp only [Sp.isBlank, Bool.or_eq_true, decide_eq_true_eq]; omega), if_neg (by omega), if_pos g5]
      exact at_cut (⟨k, 1, out, acc⟩ : RLoop) ⟨rfl, rfl, rfl, rfl, rfl, rfl, rfl, trivial⟩ ⟨fun h => by omega, fun _ => ⟨hr.symm, rfl⟩, hown, hkept⟩
    · rename_i g1 g2 g3 g4 g5 g6
      have hr : Sp.rcls (s.getD k 0) = 2 := by simp only [Sp.rcls]; rw [if_neg (by simp only [Sp.isBlank, Bool.or_eq_true, decide_eq_true_eq]; omega), if_neg (by omega), if_neg (by rw [g5]; simp), if_pos g6]
      exact at_cut (⟨k, 2, out, acc⟩ : RLoop) ⟨rfl, rfl, rfl, rfl, rfl, rfl, rfl, trivial⟩ ⟨fun h => by omega, fun _ => ⟨hr.symm, rfl⟩, hown, hkept⟩
    · rename_i g1 g2 g3 g4 g5 g6 g7
      have hr : Sp.rcls (s.getD k 0) = 3 := by simp only [Sp.rcls]; rw [if_neg (by simp only [Sp.isBlank, Bool.or_eq_true, decide_eq_true_eq]; omega), if_neg (by omega), if_neg (by rw [g5]; simp), if_neg (by rw [g6]; simp), if_pos g7]
      rw [hch] at hown3
      refine at_cut (⟨k, 0, v3, acc ++ [⟨Sp.rcls (s.getD k 0), [s.getD k 0], k⟩]⟩ : RLoop) ⟨rfl, rfl, rfl, rfl, rfl, rfl, rfl, trivial⟩ ⟨fun _ => ⟨rfl, rfl⟩, fun h => by omega, ?_, ?_⟩
      · rw [hr]; simpa [encTok, List.flatMap_append, Value.cells] using hown3
      · exact hkept.step hk3 (fun x hx => .inr (by
          cases ho : out.ownBlock with
          | none => simp [ho] at hx
          | some g => simp [ho] at hx; subst hx; exact (hown.lt _ ho).1))
    · rename_i g1 g2 g3 g4 g5 g6 g7
      have hr : Sp.rcls (s.getD k 0) = 4 := by simp only [Sp.rcls]; rw [if_neg (by simp only [Sp.isBlank, Bool.or_eq_true, decide_eq_true_eq]; omega), if_neg (by omega), if_neg (by rw [g5]; simp), if_neg (by rw [g6]; simp), if_neg (by rw [g7]; simp)]
      rw [hch] at hown3
      refine at_cut (⟨k, 0, v3, acc ++ [⟨Sp.rcls (s.getD k 0), [s.getD k 0], k⟩]⟩ : RLoop) ⟨rfl, rfl, rfl, rfl, rfl, rfl, rfl, trivial⟩ ⟨fun _ => ⟨rfl, rfl⟩, fun h => by omega, ?_, ?_⟩
      · rw [hr]; simpa [encTok, List.flatMap_append, Value.cells] using hown3
      · exact hkept.step hk3 (fun x hx => .inr (by
          cases ho : out.ownBlock with
          | none => simp [ho] at hx
          | some g => simp [ho] at hx; subst hx; exact (hown.lt _ ho).1))
    · rintro ⟨k', st', out', acc'⟩ w2 ⟨j1, j2, hown', hkept'⟩
      dsimp only at j1 j2 hown' ⊢
      have hlen : acc'.length ≤ k + 1 := by
        by_cases hc : Sp.rcls (s.getD k 0) = 3 ∨ Sp.rcls (s.getD k 0) = 4
        · rw [(j1 hc).2]; simp; omega
        · rw [(j2 hc).2]; omega
      have hlen2 : (st' = 1 ∨ st' = 2) → acc' = acc ∧ Sp.rcls (s.getD k 0) = st' := fun h => by
        by_cases hc : Sp.rcls (s.getD k 0) = 3 ∨ Sp.rcls (s.getD k 0) = 4
        · have := (j1 hc).1; omega
        · exact ⟨(j2 hc).2, (j2 hc).1.symm⟩
      have hrt : Sp.rtoks s (k + 1) = Sp.rstep (s.getD k 0) k (st, acc) := by rw [Sp.rtoks, ← heq]
      rw [Sp.rstep, if_neg h2, if_neg h3] at hrt
      repeat' (first
        | (refine op_append1 (by rfl) (by rfl) (by rfl) (by rfl) (by rfl) hown' (by rfl) (by rfl) (by omega) (by have := (hlen2 (by omega)).1; subst this; omega) (by omega) (by have := hkept'.size; omega) ?_; intro v3 w3 hown3 hk3 hb3)
        | refine op_move (by rfl) (by rfl) (by rfl) ?_
        | refine op_assign (by rfl) (by rfl) (by rfl) ?_
        | refine op_pick_true (by rfl) (by rfl) (by rfl) (by rfl) ?_
        | refine op_pick_false (by rfl) (by rfl) (by rfl) (by rfl) ?_
        | refine op_eql (by rfl) (by rfl) (by rfl) (by rfl) ?_
        | refine op_add (by rfl) (by rfl) (by rfl) (by rfl) (by omega) ?_
        | refine op_slice_str (by rfl) (by rfl) (by rfl) (by rfl) (by rfl) (by omega) ?_
        | refine op_struct (by rfl) (by rfl) (by rfl) (by rfl) ?_
        | refine wl_skip (by rfl) (by rfl) (by rfl) ?_
        | (refine wl_split_dec (by rfl) (by rfl) (by rfl) (fun _ => ?_) (fun _ => ?_) <;> (try first | contradiction | (exfalso; omega)))
        | refine wl_nil ?_
        | refine at_then_normal ?_
        | refine at_block_normal ?_
        | refine wc_seq ?_
        | refine wc_region ?_
        | refine wc_skip ?_
        | refine wc_cond_true (by rfl) ?_
        | (refine wc_cond_dec (by rfl) (fun _ => ?_) (fun _ => ?_) <;> (try first | contradiction | (exfalso; omega))))
      iterate 2
        · rename_i hlast
          have h12 : st' = 1 ∨ st' = 2 := by omega
          obtain ⟨hae, hcl⟩ := hlen2 h12
          have hac' : acc'.length ≤ k := by rw [hae]; exact hacc
          rw [hch] at hown3
          rw [if_neg (by omega), if_pos (by omega), hcl] at hrt
          dsimp only at hrt
          rw [← hae] at hrt
          refine at_round (⟨k + 1, st', v3, acc' ++ [⟨st', [s.getD k 0], k⟩]⟩ : RLoop) (by exact ⟨rfl, rfl, rfl, rfl, rfl, trivial⟩) ?_ (by dsimp only; omega)
          refine ⟨by dsimp only; omega, by simp; omega, hrt.symm, fun _ => by simp, ?_, ?_, ?_⟩
          · intro u hu
            rcases List.mem_append.1 hu with h | h
            · exact Nat.le_succ_of_le (htx u (by rw [← hae]; exact h))
            · simp at h; subst h; simp
          · simpa [encTok, List.flatMap_append, Value.cells] using hown3
          · exact hkept'.step hk3 (fun x hx => .inr (by
              cases ho : out'.ownBlock with
              | none => simp [ho] at hx
              | some g => simp [ho] at hx; subst hx; exact (hown'.lt _ ho).1))
      · rename_i h5 h6
        have hout : Sp.rtoks s (k + 1) = (st', acc') := by
          rw [hrt]
          by_cases hc : Sp.rcls (s.getD k 0) = 3 ∨ Sp.rcls (s.getD k 0) = 4
          · obtain ⟨rfl, rfl⟩ := j1 hc
            rw [if_neg (by omega), if_neg (by omega)]
          · obtain ⟨rfl, rfl⟩ := j2 hc
            have hle : Sp.rcls (s.getD k 0) = 0 ∨ Sp.rcls (s.getD k 0) = 9 := by
              have : ∀ c, Sp.rcls c = 0 ∨ Sp.rcls c = 9 ∨ Sp.rcls c = 1 ∨ Sp.rcls c = 2 ∨ Sp.rcls c = 3 ∨ Sp.rcls c = 4 := fun c => by
                unfold Sp.rcls; repeat' split
                all_goals simp
              have := this (s.getD k 0)
              omega
            rw [if_pos hle]
        refine at_round (⟨k + 1, st', out', acc'⟩ : RLoop) (by exact ⟨rfl, rfl, rfl, rfl, rfl, trivial⟩) ?_ (by dsimp only; omega)
        refine ⟨by dsimp only; omega, hlen, hout.symm, fun h => by dsimp only at h; omega, ?_, hown', hkept'⟩
        intro u hu
        by_cases hc : Sp.rcls (s.getD k 0) = 3 ∨ Sp.rcls (s.getD k 0) = 4
        · rw [(j1 hc).2] at hu
          rcases List.mem_append.1 hu with h | h
          · exact Nat.le_succ_of_le (htx u h)
          · simp at h; subst h; simp
        · rw [(j2 hc).2] at hu
          exact Nat.le_succ_of_le (htx u hu)
  · have hk' : k = s.length := by omega
    subst hk'
    have : Sp.rtokens s = acc := by rw [Sp.rtokens, ← heq]
    rw [this]
    exact ⟨hown, hkept⟩
end Go.Proofs.YtjfkjpbkmpofkaaDoor
end
section
namespace Go.Proofs.YtjfkjpbkmpofkaaDoor
open Go.Fw
set_option maxHeartbeats 8000000 in
theorem sp_pwhole (s : List UInt8) (hs : s.length ≤ 1048576) (I : Imm) (hC : Conv I) : CalM Tryd.prog 5 #[str s] I [] (fun v _ H' => v = .bool true ∧ H' = []) := by
  refine CalM.of fun w E hm => enter (N := 103) Tryd.func5 rfl [(0, str s)] args1 rfl ?_
  have hA := fun (I' : Imm) (m : Le I I') => p_alive I' (hC.le m)
  have hF := fun (I' : Imm) (m : Le I I') => p_file s I' (hC.le m) (by omega)
  have hin := fun h0 k it h => Sp.file_in s h0 (k := k) (it := it) h
  have hno : Sp.fileErr s ≠ 0 → Sp.fileItems s = [] := fun h => by rw [Sp.fileItems, if_neg h]
  have hemp : Sp.fileErr s = 0 → Sp.fileItems s = [] → (Sp.rtokens s).length = 0 := fun h0 h => by
    rw [Sp.fileItems, if_pos h0] at h
    have := congrArg List.length h
    rw [Sp.items_len] at this
    rw [Sp.rtokens_eq, Sp.cuts_none s (List.length_eq_zero_iff.1 this)]; rfl
  have hfew := Sp.file_few s
  generalize Sp.fileErr s = er at hF hin hno hemp
  generalize hits0 : Sp.fileItems s = its at hF hin hno hemp hfew
  by_cases h0 : er ≠ 0
  · have hi := hno h0
    subst hi
    repeat' (first
      | (refine m_call (d := 10) hm (by rfl) (by rfl) (by rfl) (by first | exact pm0 | exact pm1_0 | exact pm1_1 | exact pm1_2 | exact pm1_3 | exact pm2_0 | exact pm2_1 | exact pm2_2 | exact pm2_3 | exact pm2_4 | exact pm3_0 | exact pm3_1 | exact pm3_2) (hA _ (Le.refl _)) ?_; clear hm; rintro _ I2 _ _ ⟨rfl, rfl⟩ hle hm; have hleI2 := hle; try simp only [setn] at hm)
      | (refine m_call (d := 14) hm (by rfl) (by rfl) (by rfl) (by first | exact pm0 | exact pm1_0 | exact pm1_1 | exact pm1_2 | exact pm1_3 | exact pm2_0 | exact pm2_1 | exact pm2_2 | exact pm2_3 | exact pm2_4 | exact pm3_0 | exact pm3_1 | exact pm3_2) (hF _ hleI2) ?_; clear hm; rintro _ I3 _ _ ⟨a, cp, xs, rfl, hrow, hits, rfl⟩ hle hm; have hleI3 := hle; try simp only [setn] at hm)
      | (refine m_varS (d := 3) hm (by rfl) (by rfl) (by rfl) (by rfl) (by rfl) ?_; clear hm; intro b3 _ hm)
      | refine m_load1 hm (by rfl) (by rfl) (by rfl) (by first | exact gt0 | exact gt1 | exact gt2 | exact gt3 | exact gt4 | exact gt5 | exact gt6) (by rfl) ?_
      | refine op_move (by rfl) (by rfl) (by rfl) ?_
      | refine op_assign (by rfl) (by rfl) (by rfl) ?_
      | refine op_eql (by rfl) (by rfl) (by rfl) (by rfl) ?_
      | refine op_neq (by rfl) (by rfl) (by rfl) (by rfl) ?_
      | refine op_len_slice (by rfl) (by rfl) (by rfl) ?_
      | refine op_not (by rfl) (by rfl) (by rfl) ?_
      | refine op_extract (by rfl) (by rfl) (by rfl) (by rfl) ?_
      | refine op_fieldAddr (by rfl) (by rfl) (by rfl) ?_
      | refine wl_nil ?_
      | refine at_then_normal ?_
      | refine at_then_ret ?_
      | refine wc_seq ?_
      | refine wc_region ?_
      | refine wc_skip ?_
      | refine wc_ret ?_
      | refine at_ret1 (by rfl) (by rfl) ?_
      | refine wc_cond_false (by rfl) ?_
      | (refine wc_cond_dec (by rfl) (fun _ => ?_) (fun _ => ?_) <;> (try first | contradiction | (exfalso; omega))))
    all_goals try (exfalso; omega)
    exact ⟨I3, [], ⟨rfl, rfl⟩, hm.left (H := [])⟩
  obtain rfl : er = 0 := by omega
  repeat' (first
    | (refine m_call (d := 10) hm (by rfl) (by rfl) (by rfl) (by first | exact pm0 | exact pm1_0 | exact pm1_1 | exact pm1_2 | exact pm1_3 | exact pm2_0 | exact pm2_1 | exact pm2_2 | exact pm2_3 | exact pm2_4 | exact pm3_0 | exact pm3_1 | exact pm3_2) (hA _ (Le.refl _)) ?_; clear hm; rintro _ I2 _ _ ⟨rfl, rfl⟩ hle hm; have hleI2 := hle; try simp only [setn] at hm)
    | (refine m_call (d := 14) hm (by rfl) (by rfl) (by rfl) (by first | exact pm0 | exact pm1_0 | exact pm1_1 | exact pm1_2 | exact pm1_3 | exact pm2_0 | exact pm2_1 | exact pm2_2 | exact pm2_3 | exact pm2_4 | exact pm3_0 | exact pm3_1 | exact pm3_2) (hF _ hleI2) ?_; clear hm; rintro _ I3 _ _ ⟨a, cp, xs, rfl, hrow, hits, rfl⟩ hle hm; have hleI3 := hle; try simp only [setn] at hm)
    | (refine m_varS (d := 3) hm (by rfl) (by rfl) (by rfl) (by rfl) (by rfl) ?_; clear hm; intro b3 _ hm)
    | refine m_load1 hm (by rfl) (by rfl) (by rfl) (by first | exact gt0 | exact gt1 | exact gt2 | exact gt3 | exact gt4 | exact gt5 | exact gt6) (by rfl) ?_
    | refine op_move (by rfl) (by rfl) (by rfl) ?_
    | refine op_assign (by rfl) (by rfl) (by rfl) ?_
    | refine op_neq (by rfl) (by rfl) (by rfl) (by rfl) ?_
    | refine op_len_slice (by rfl) (by rfl) (by rfl) ?_
    | refine op_not (by rfl) (by rfl) (by rfl) ?_
    | refine op_extract (by rfl) (by rfl) (by rfl) (by rfl) ?_
    | refine op_fieldAddr (by rfl) (by rfl) (by rfl) ?_
    | refine wl_nil ?_
    | refine at_then_normal ?_
    | refine wc_seq ?_
    | refine wc_region ?_
    | refine wc_block ?_
    | refine wc_skip ?_
    | refine wc_cond_false (by rfl) ?_)
  all_goals try (exfalso; omega)
  obtain ⟨n, hn⟩ : ∃ n, n = its.length := ⟨_, rfl⟩
  rw [← hn] at hm hrow ⊢
  refine wc_loop (fun k : Nat => [(0, str s), (3, ptr b3), (24, .slice a n cp), (25, nt n), (26, nt k)])
    (fun k w' => Mem E I3 [.cell b3 [.slice a n cp] 27] w' ∧ k ≤ n) (fun k => n - k) 0 (by exact ⟨rfl, rfl, rfl, rfl, rfl, trivial⟩) ⟨hm, Nat.zero_le _⟩ ?_
  clear hm
  rintro k w1 ⟨hm, hk⟩
  try dsimp only at hm hk ⊢
  by_cases hlt : k < n
  · have hg : its[k]? = some its[k] := List.getElem?_eq_getElem (by omega)
    have hI := hin rfl k _ hg
    obtain ⟨pa, pc, sa, sc, ba, bc, da, dc, xb, he, _, _, _, _, hdg⟩ := hits.get hg
    generalize its[k] = it at hg hI he hdg
    obtain ⟨q1, q2, q3, q4, q5, q6, q7⟩ := hI
    have q8 := q6.diags
    rw [hits0] at q4
    obtain ⟨m, hmm⟩ : ∃ m, m = it.diags.length := ⟨_, rfl⟩
    obtain ⟨z, hz⟩ : ∃ z : Int, z = it.at_ + it.size := ⟨_, rfl⟩
    have hB : ∀ j : Nat, j < m → ∃ d, it.diags[j]? = some d ∧ d.fr ≤ d.to ∧ d.to ≤ it.size := fun j hj => by
      have : it.diags[j]? = some it.diags[j] := List.getElem?_eq_getElem (by omega)
      exact ⟨_, this, q5 _ (List.getElem_mem _)⟩
    have H2 : k + 1 < n → ∃ kk nm lb vp vs vb sz mk vd, (xs.drop ((k + 1) * 10)).take 10 = itCells kk nm lb vp vs vb z sz mk vd := fun hk1 => by
      have hg2 : its[k + 1]? = some its[k + 1] := List.getElem?_eq_getElem (by omega)
      rw [hg2] at q4
      obtain ⟨pa2, pc2, sa2, sc2, ba2, bc2, da2, dc2, xb2, he2, _⟩ := hits.get hg2
      dsimp only at q4
      rw [hz, q4]
      exact ⟨_, _, _, _, _, _, _, _, _, he2⟩
    have H3 : ¬ k + 1 < n → z = s.length := fun hk1 => by
      rw [List.getElem?_eq_none (by omega)] at q4
      rw [hz, q4]
    rw [← hmm] at he hdg
    repeat' (first
      | (refine i_indexAddr (d := 29) (by rfl) (by rfl) (by rfl) (by rfl) hrow (by omega) (by omega) ?_; intro bt ot hpt; rw [show ((k : Int).toNat * 10) = k * 10 from rfl, he] at hpt)
      | (refine wc_midc 38 (fun _ : Unit => [(0, str s), (3, ptr b3), (5, nt k), (6, ptr b6), (7, .int .i64 z), (24, .slice a n cp), (25, nt n), (26, nt k)]) (fun _ w' => Mem E I3 [.cell b6 (itCells it.kind it.name it.label (.slice pa it.params.length pc) (.slice sa it.sends.length sc) (.slice ba it.body.length bc) it.at_ it.size it.mark (.slice da m dc)) 42, .cell b3 [.slice a n cp] 27] w') (by rfl) ?_ ?_ ?_)
      | (refine m_allocS (d := 6) hm (by rfl) (by rfl) ?_; clear hm; intro b6 _ hm)
      | refine m_load1 hm (by rfl) (by rfl) (by rfl) (by first | exact gt0 | exact gt1 | exact gt2 | exact gt3 | exact gt4 | exact gt5 | exact gt6) (by rfl) ?_
      | refine i_loadN hm (by rfl) (by rfl) (by rfl) (by assumption) (by rfl) ?_
      | (refine m_storeAll hm (by rfl) (by rfl) (by rfl) (by rfl) (by first | exact gt0 | exact gt1 | exact gt2 | exact gt3 | exact gt4 | exact gt5 | exact gt6) (by rfl) (by rfl) (by rfl) ?_; clear hm; intro _ hm; try simp only [setn] at hm)
      | refine op_move (by rfl) (by rfl) (by rfl) ?_
      | refine op_assign (by rfl) (by rfl) (by rfl) ?_
      | refine op_lss (by rfl) (by rfl) (by rfl) (by rfl) ?_
      | refine op_len_str (by rfl) (by rfl) (by rfl) ?_
      | refine op_len_slice (by rfl) (by rfl) (by rfl) ?_
      | refine op_add (by rfl) (by rfl) (by rfl) (by rfl) (by omega) ?_
      | refine op_fieldAddr (by rfl) (by rfl) (by rfl) ?_
      | refine wl_nil ?_
      | refine at_then_normal ?_
      | refine wc_seq ?_
      | refine wc_region ?_
      | refine wc_block ?_
      | refine wc_skip ?_
      | (refine wc_cond_dec (by rfl) (fun _ => ?_) (fun _ => ?_) <;> (try first | contradiction | (exfalso; omega))))
    · intro hb
      have hk1 : k + 1 < n := by have := of_decide_eq_true hb; omega
      obtain ⟨kk, nm, lb, vp, vs, vb, sz, mk, vd, he2⟩ := H2 hk1
      repeat' (first
        | (refine i_indexAddr (d := 43) (by rfl) (by rfl) (by rfl) (by rfl) hrow (by omega) (by omega) ?_; intro bt2 ot2 hpt2; rw [show (((k : Int) + 1).toNat * 10) = (k + 1) * 10 by omega, he2] at hpt2)
        | refine m_load1 hm (by rfl) (by rfl) (by rfl) (by first | exact gt0 | exact gt1 | exact gt2 | exact gt3 | exact gt4 | exact gt5 | exact gt6) (by rfl) ?_
        | refine i_load1 hm (by rfl) (by rfl) (by rfl) (by assumption) (by rfl) ?_
        | refine op_move (by rfl) (by rfl) (by rfl) ?_
        | refine op_assign (by rfl) (by rfl) (by rfl) ?_
        | refine op_add (by rfl) (by rfl) (by rfl) (by rfl) (by omega) ?_
        | refine op_fieldAddr (by rfl) (by rfl) (by rfl) ?_
        | refine wl_nil ?_
        | refine wc_region ?_)
      exact at_cut () (by exact ⟨rfl, rfl, rfl, rfl, rfl, rfl, rfl, rfl, trivial⟩) hm
    · intro hb
      have hk1 : ¬ k + 1 < n := by have := of_decide_eq_false hb; omega
      obtain rfl := H3 hk1
      refine wc_skip ?_
      exact at_cut () (by exact ⟨rfl, rfl, rfl, rfl, rfl, rfl, rfl, rfl, trivial⟩) hm
    · clear hm
      rintro ⟨⟩ w2 hm
      repeat' (first
        | refine m_load1 hm (by rfl) (by rfl) (by rfl) (by first | exact gt0 | exact gt1 | exact gt2 | exact gt3 | exact gt4 | exact gt5 | exact gt6) (by rfl) ?_
        | refine op_move (by rfl) (by rfl) (by rfl) ?_
        | refine op_pick_false (by rfl) (by rfl) (by rfl) (by rfl) ?_
        | refine op_lss (by rfl) (by rfl) (by rfl) (by rfl) ?_
        | refine op_neq (by rfl) (by rfl) (by rfl) (by rfl) ?_
        | refine op_len_slice (by rfl) (by rfl) (by rfl) ?_
        | refine op_sub (by rfl) (by rfl) (by rfl) (by rfl) (by omega) ?_
        | refine op_fieldAddr (by rfl) (by rfl) (by rfl) ?_
        | (refine wl_split_dec (by rfl) (by rfl) (by rfl) (fun _ => ?_) (fun _ => ?_) <;> (try first | contradiction | (exfalso; omega)))
        | refine wl_nil ?_
        | refine at_then_normal ?_
        | refine wc_seq ?_
        | refine wc_region ?_
        | refine wc_block ?_
        | refine wc_skip ?_
        | (refine wc_cond_dec (by rfl) (fun _ => ?_) (fun _ => ?_) <;> (try first | contradiction | (exfalso; omega))))
      all_goals try (exfalso; omega)
      refine wc_loop (fun j : Nat => [(0, str s), (3, ptr b3), (5, nt k), (6, ptr b6), (24, .slice a n cp), (25, nt n), (26, nt k), (68, .slice da m dc), (69, nt m), (70, nt j)])
        (fun j w' => Mem E I3 [.cell b6 (itCells it.kind it.name it.label (.slice pa it.params.length pc) (.slice sa it.sends.length sc) (.slice ba it.body.length bc) it.at_ it.size it.mark (.slice da m dc)) 42, .cell b3 [.slice a n cp] 27] w' ∧ j ≤ m) (fun j => m - j) 0 (by exact ⟨rfl, rfl, rfl, rfl, rfl, rfl, rfl, rfl, rfl, rfl, trivial⟩) ⟨hm, Nat.zero_le _⟩ ?_
      clear hm
      rintro j w3 ⟨hm, hj⟩
      by_cases hjm : j < m
      · obtain ⟨d, hd, hd1, hd2⟩ := hB j hjm
        repeat' (first
          | (refine i_indexFlat (d := 72) (enc := encDg) (z := d) (by rfl) (by rfl) (by rfl) (by rfl) hdg (fun _ => rfl) (by omega) (by omega) (by exact hd) ?_; intro bd od hpd)
          | (refine m_varS (d := 9) hm (by rfl) (by rfl) (by rfl) (by rfl) (by rfl) ?_; clear hm; intro b9 _ hm)
          | refine m_load1 hm (by rfl) (by rfl) (by rfl) (by first | exact gt0 | exact gt1 | exact gt2 | exact gt3 | exact gt4 | exact gt5 | exact gt6) (by rfl) ?_
          | refine i_loadN hm (by rfl) (by rfl) (by rfl) (by assumption) (by rfl) ?_
          | refine op_move (by rfl) (by rfl) (by rfl) ?_
          | refine op_pick_false (by rfl) (by rfl) (by rfl) (by rfl) ?_
          | refine op_lss (by rfl) (by rfl) (by rfl) (by rfl) ?_
          | refine op_gtr (by rfl) (by rfl) (by rfl) (by rfl) ?_
          | refine op_add (by rfl) (by rfl) (by rfl) (by rfl) (by omega) ?_
          | refine op_fieldAddr (by rfl) (by rfl) (by rfl) ?_
          | (refine wl_split_dec (by rfl) (by rfl) (by rfl) (fun _ => ?_) (fun _ => ?_) <;> (try first | contradiction | (exfalso; omega)))
          | refine wl_nil ?_
          | refine at_then_normal ?_
          | refine at_block_normal ?_
          | refine wc_seq ?_
          | refine wc_region ?_
          | refine wc_block ?_
          | refine wc_skip ?_
          | (refine wc_cond_dec (by rfl) (fun _ => ?_) (fun _ => ?_) <;> (try first | contradiction | (exfalso; omega))))
        all_goals try (exfalso; omega)
        refine at_round (j + 1 : Nat) (by exact ⟨rfl, rfl, rfl, rfl, rfl, rfl, rfl, rfl, rfl, rfl, trivial⟩) ⟨hm.tl, by omega⟩ (by omega)
      · obtain rfl : j = m := by omega
        repeat' (first
          | refine op_move (by rfl) (by rfl) (by rfl) ?_
          | refine op_lss (by rfl) (by rfl) (by rfl) (by rfl) ?_
          | refine op_add (by rfl) (by rfl) (by rfl) (by rfl) (by omega) ?_
          | refine wl_nil ?_
          | refine at_then_normal ?_
          | refine at_then_exit ?_
          | refine at_block_normal ?_
          | refine at_block_exit ?_
          | refine wc_seq ?_
          | refine wc_region ?_
          | refine wc_exit ?_
          | (refine wc_cond_dec (by rfl) (fun _ => ?_) (fun _ => ?_) <;> (try first | contradiction | (exfalso; omega))))
        all_goals try (exfalso; omega)
        refine at_round (k + 1 : Nat) (by exact ⟨rfl, rfl, rfl, rfl, rfl, trivial⟩) ⟨hm.tl, by omega⟩ (by omega)
  · skip
    repeat' (first
      | (refine op_call (by rfl) (by rfl) (by rfl) (by exact c_rtokens s (by omega) _) ?_; rintro tv wt ⟨hto, hkt⟩; obtain ⟨ta, tc, rfl⟩ := own_val hto; replace hm := hm.kept0 hkt)
      | refine m_load1 hm (by rfl) (by rfl) (by rfl) (by first | exact gt0 | exact gt1 | exact gt2 | exact gt3 | exact gt4 | exact gt5 | exact gt6) (by rfl) ?_
      | refine op_move (by rfl) (by rfl) (by rfl) ?_
      | refine op_assign (by rfl) (by rfl) (by rfl) ?_
      | refine op_pick_true (by rfl) (by rfl) (by rfl) (by rfl) ?_
      | refine op_pick_false (by rfl) (by rfl) (by rfl) (by rfl) ?_
      | refine op_lss (by rfl) (by rfl) (by rfl) (by rfl) ?_
      | refine op_gtr (by rfl) (by rfl) (by rfl) (by rfl) ?_
      | refine op_eql (by rfl) (by rfl) (by rfl) (by rfl) ?_
      | refine op_len_slice (by rfl) (by rfl) (by rfl) ?_
      | refine op_fieldAddr (by rfl) (by rfl) (by rfl) ?_
      | refine wl_skip (by rfl) (by rfl) (by rfl) ?_
      | (refine wl_split_dec (by rfl) (by rfl) (by rfl) (fun _ => ?_) (fun _ => ?_) <;> (try first | contradiction | (exfalso; omega)))
      | refine wl_nil ?_
      | refine at_then_normal ?_
      | refine at_then_exit ?_
      | refine at_block_exit ?_
      | refine wc_seq ?_
      | refine wc_region ?_
      | refine wc_exit ?_
      | refine wc_ret ?_
      | refine at_ret1 (by rfl) (by rfl) ?_
      | (refine wc_cond_dec (by rfl) (fun _ => ?_) (fun _ => ?_) <;> (try first | contradiction | (exfalso; omega))))
    · exact ⟨I3, [], ⟨rfl, rfl⟩, hm.left (H := [])⟩
    · have hz : its = [] := List.length_eq_zero_iff.1 (by omega)
      have := hemp rfl hz
      exact ⟨I3, [], ⟨by rw [this]; rfl, rfl⟩, hm.left (H := [])⟩
end Go.Proofs.YtjfkjpbkmpofkaaDoor
end
section
namespace Go.Proofs.YtjfkjpbkmpofkaaDoor.parseWholeTop
open Go.ChangeShapes Go.WideShapes Go.ChangeAt Go.RowKit
open Go.Fw (Kept Cal str Ret)
open Go.ChangeMaps (open_string shut_string)

set_option maxRecDepth 100000 in
theorem contract (H : Type) (enc : TypeId × Value → H) (W : World) (base : Nat) (args : Array Value) (ds gs : List (DataW H)) (before : List MemPlace)
    (hval : ∀ (j : Nat) t v, Tryd.f5.params[j]? = some t → args[j]? = some v → Value.okWide Tryd.prog W .any base t v)
    (hW : DataW.Whole enc Tryd.prog Tryd.f5.params.toList Rows.parseWholeSpec.vars false W args.toList ds gs before) (hk : Rows.uptoSmall H (ds ++ gs) = true) (hL : laidMetH Tryd.prog Rows.parseWholeUptoRow.laid W) :
    Calls Tryd.prog 5 args W fun e W' => ∃ v, e = .returned v ∧ Rows.parseWholeSpec.post enc Tryd.prog Tryd.f5 false true false false W args v W' := by
  have hC := conv_of hL (by kernel_rfl) (by kernel_rfl)
  clear hL
  have hW' := hW
  obtain ⟨p, q, hA0, hV, rfl, hfz, hnd⟩ := hW
  have hA : DataW.TrodAll enc Tryd.prog W 0 (fun _ => true) true Tryd.f5.params.toList args.toList ds p := hA0
  rw [Tryd.params5] at hA hval
  obtain ⟨v0, vs0, d0, ds0, p0, q0, hargs, rfl, rfl, h0, r0⟩ := trodAll_cons hA
  obtain ⟨rfl, rfl, rfl⟩ := trodAll_nil r0
  obtain rfl : args = #[v0] := by cases args; simp_all
  obtain ⟨rfl, rfl⟩ := trodVars_none hV
  obtain ⟨s0, rfl, rfl, rfl, hm0⟩ := open_string Tryd.underlying9 (hval 0 9 v0 rfl rfl) h0
  clear hA0
  simp only [List.append_nil] at hW' hk
  have hb0 : s0.data.toList.length ≤ 1048576 := bulk_str hk (by simp)
  refine ((run_kept (sp_pwhole s0.data.toList (by omega) (Go.Fw.immOf W) hC)).run).mono fun e W' he => ?_
  cases e
  case returned v =>
    obtain ⟨rfl, hg⟩ := he
    refine ⟨_, rfl, post_kept (pa := []) (pv := []) hW' (fun _ _ _ => trodAll_cons_mk (shut_bool Tryd.underlying4 _) trodAll_mk0) (fun _ _ => ?_) (fun _ _ => rfl) hg⟩
    exact trodAll_cons_mk (shut_string Tryd.underlying9 hm0) trodAll_mk0
  all_goals exact he.elim

/-- A world for the witness: the settled one, the listed variables holding what they are laid with. -/
noncomputable def laidWorld (os : Os) : World := World.laidAll Tryd.prog os Rows.parseWholeUptoRow.laid
theorem laid_met (os : Os) : laidMet Tryd.prog Rows.parseWholeUptoRow.laid ((laidWorld os).forCall (fun _ _ => 0) ⟨#[], #[.string .empty], []⟩).memory :=
  laidMet_laidAll _ (by kernel_rfl) (by kernel_rfl)
theorem reads (os : Os) {H : Type} (enc : TypeId × Value → H) : ∃ places, DataW.whole enc Tryd.prog ((laidWorld os).forCall (fun _ _ => 0) ⟨#[], #[.string .empty], []⟩).memory Tryd.f5.params.toList Rows.parseWholeSpec.vars false (#[.string .empty] : Array Value).toList 8 = some ([.lit (.string [])], [], places) :=
  ⟨[], by kernel_rfl⟩

set_option maxRecDepth 100000 in
theorem lifted (os : Os) (started : os.Started) (H : Type) (enc : TypeId × Value → H) (F : Stop.Interp) :
    ReturnsInHanded {} Tryd.checked os 5 .any ((Rows.OpenSpec.upto Rows.parseWholeSpec).preRow enc Tryd.prog Tryd.f5 Rows.parseWholeUptoRow.domain false Rows.parseWholeUptoRow.laid) (((Rows.OpenSpec.upto Rows.parseWholeSpec).at F).post enc Tryd.prog Tryd.f5 false true false false) := by
  obtain ⟨places, hx⟩ := reads os enc
  refine returnsInHanded_of_row (C := Tryd.checked) (s := Rows.OpenSpec.upto Rows.parseWholeSpec) ownKnobNone started (by kernel_rfl) Tryd.func5
    (witness_row_at (enc := enc) (C := Tryd.checked) false (laidWorld os) #[.string .empty] (World.laidAll_os _ _ _) (by kernel_rfl) (by kernel_rfl) (by kernel_rfl)
      (OpenSpec.preRow_of_cond 8 hx (by kernel_rfl) (fun k hk => by cases hk; kernel_rfl) (by kernel_rfl) (laid_met os))) ?_
  intro W base args ds gs before hval hW _ hcond _ hL _ _
  exact contract H enc W base args ds gs before hval hW (hcond _ rfl) hL

theorem said : Rows.ParseWholeUptoSaid :=
  OpenClaim.holds_of_cond 5 Tryd.f5 rfl rfl rfl rfl rfl rfl rfl ⟨rfl, rfl, rfl, rfl, rfl⟩ rfl rfl rfl rfl rfl (by kernel_rfl) Tryd.func5 (by kernel_rfl)
    (of_decide_eq_true (by kernel_rfl)) (by unfold Func.isWrapper; first | (rw [if_pos (by decide +kernel)]; kernel_rfl) | (rw [if_neg (by decide +kernel)]; exact ⟨rfl, rfl⟩))
    (fun os started H enc _ F => by rw [OpenClaim.pre_eq_preRow]; exact lifted os started H enc F)

theorem plain (f : FuncId) (fn : Func) (hf : Tryd.pinned.checked.prog.funcNamed "undertone/underlaw3.ParseWhole" = some f) (hfn : Tryd.pinned.checked.prog.funcs[f]? = some fn) :
    true = Tryd.pinned.checked.prog.looks [] ∧ ∀ (j : Nat) t, fn.params[j]? = some t → Tryd.pinned.checked.prog.wantsStandIn t = false := by
  obtain rfl : f = 5 := Option.some.inj ((show Tryd.prog.funcNamed "undertone/underlaw3.ParseWhole" = some 5 by kernel_rfl).symm.trans hf) |>.symm
  obtain rfl : fn = Tryd.f5 := (Option.some.inj (Tryd.func5.symm.trans hfn)).symm
  refine ⟨by kernel_rfl, fun j t ht => ?_⟩
  rw [Tryd.params5] at ht
  have hm := Array.mem_of_getElem? ht
  simp only [List.mem_toArray, List.mem_cons, List.not_mem_nil, or_false] at hm
  rcases hm with rfl
  exact (show Tryd.prog.wantsStandIn 9 = false by kernel_rfl)

theorem proved : Rows.ParseWholeUptoCardSaid :=
  Claim7.holds_tied_plain_at .later [] _ _ _ _ said (fun _ h => by cases h) (by kernel_rfl) (fun _ h => by cases h) parseWholeUpto_row_tie rfl ⟨rfl, rfl⟩ (by kernel_rfl) rfl plain (by kernel_rfl)
end Go.Proofs.YtjfkjpbkmpofkaaDoor.parseWholeTop
end
