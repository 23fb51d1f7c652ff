/- Own work: texts RLexT, RLex, RpA, one behind the other. -/
import Derived.Test.YtjfkjpbkmpofkaaIt23
section
namespace Go.Proofs.Ytjfkjpbkmpofkaa
open Go.Fw
theorem c_rletter (c : UInt8) (w : World) :
    Cal Try.prog 60 #[.int .u8 (c.toNat : Int)] w fun v w' => v = .bool (Sp.isLetter c) ∧ w' = w := by
  refine enter (N := 21) Try.func60 rfl [(0, .int .u8 (c.toNat : Int))] args1 rfl ?_
  repeat' (first
  | refine op_move (k:=?_)
  | refine op_assign (k:=?_)
  | refine op_pick_true (k:=?_)
  | refine op_pick_false (k:=?_)
  | refine op_leq (k:=?_)
  | refine op_geq (k:=?_)
  | refine op_eql (k:=?_)
  | refine wl_skip (k:=?_)
  | (refine wl_split_dec (h1:=fun _ => ?_) (h0:=fun _ => ?_)<;> (try first | contradiction | (exfalso; omega)))
  | refine wl_nil ?_
  | refine at_then_normal ?_
  | refine wc_seq ?_
  | refine wc_region ?_
  | refine wc_ret ?_
  | refine at_ret1 (h:=?_))
  all_goals (refine ⟨congrArg Value.bool ?_, rfl⟩; unfold Sp.isLetter; rw [Bool.eq_iff_iff]; simp; omega)
theorem c_rdigit (c : UInt8) (w : World) :
    Cal Try.prog 61 #[.int .u8 (c.toNat : Int)] w fun v w' => v = .bool (Sp.isDigit c) ∧ w' = w := by
  refine enter (N := 9) Try.func61 rfl [(0, .int .u8 (c.toNat : Int))] args1 rfl ?_
  repeat' (first
  | refine op_move (k:=?_)
  | refine op_assign (k:=?_)
  | refine op_pick_true (k:=?_)
  | refine op_pick_false (k:=?_)
  | refine op_leq (k:=?_)
  | refine op_geq (k:=?_)
  | refine wl_skip (k:=?_)
  | (refine wl_split_dec (h1:=fun _ => ?_) (h0:=fun _ => ?_)<;> (try first | contradiction | (exfalso; omega)))
  | refine wl_nil ?_
  | refine at_then_normal ?_
  | refine wc_seq ?_
  | refine wc_region ?_
  | refine wc_ret ?_
  | refine at_ret1 (h:=?_))
  all_goals (refine ⟨congrArg Value.bool ?_, rfl⟩; unfold Sp.isDigit; rw [Bool.eq_iff_iff]; simp; omega)
theorem c_rsign (c : UInt8) (w : World) :
    Cal Try.prog 62 #[.int .u8 (c.toNat : Int)] w fun v w' => v = .bool (Sp.isSign c) ∧ w' = w := by
  have hs : Sp.isSign c = (decide (c.toNat = 40) || decide (c.toNat = 41) || decide (c.toNat = 123) || decide (c.toNat = 125) || decide (c.toNat = 44) || decide (c.toNat = 58) || decide (c.toNat = 59) || decide (c.toNat = 61) || decide (c.toNat = 43) || decide (c.toNat = 45) || decide (c.toNat = 42) || decide (c.toNat = 60)) := by
    have e : ∀ n : UInt8, decide (n = c) = decide (c.toNat = n.toNat) := fun n => by
      rw [Bool.eq_iff_iff, decide_eq_true_eq, decide_eq_true_eq, ← UInt8.toNat_inj]; omega
    simp only [Sp.isSign, Sp.signs, List.any_cons, List.any_nil, e, Bool.or_false, Bool.or_assoc]
    rfl
  rw [hs]
  clear hs
  refine enter (N := 17) Try.func62 rfl [(0, .int .u8 (c.toNat : Int))] args1 rfl ?_
  repeat' (first
  | refine op_move (k:=?_)
  | refine op_assign (k:=?_)
  | refine op_eql (k:=?_)
  | refine wl_nil ?_
  | refine at_then_normal ?_
  | refine at_then_ret ?_
  | refine at_block_normal ?_
  | refine at_block_ret ?_
  | refine wc_seq ?_
  | refine wc_region ?_
  | refine wc_block ?_
  | refine wc_skip ?_
  | refine wc_ret ?_
  | refine at_ret1 (h:=?_)
  | (refine wc_cond_dec (ht:=fun _ => ?_) (hf:=fun _ => ?_)<;> (try first | contradiction | (exfalso; omega))))
  all_goals (refine ⟨congrArg Value.bool ?_, rfl⟩; rw [Bool.eq_iff_iff]; simp; omega)

structure RLoop where
  at_ : Nat
  st : Nat
  out : Value
  acc : List Sp.Tok
set_option maxHeartbeats 1000000 in
theorem c_rtokens (s : List UInt8) (hl : s.length ≤ 1099511627776) (w : World) :
    Cal Try.prog 33 #[str s] w fun v w' => w'.ownsRow w.heap.size 90 3 v (Sp.rtokens s).length ((Sp.rtokens s).flatMap encTok) ∧ Kept [] w w' := by
  refine enter (N := 120) Try.func33 rfl [(0, str s)] args1 rfl ?_
  repeat' (first
  | refine op_move (k:=?_)
  | refine op_assign (k:=?_)
  | refine op_len_str (k:=?_)
  | refine wl_nil ?_
  | refine at_then_normal ?_
  | refine wc_seq ?_
  | refine wc_region ?_
  | refine wc_block ?_)
  refine wc_loop (fun x : RLoop => [(0, str s), (3, x.out), (4, .int .i64 (x.st : Int)), (9, .int .i64 (s.length : Int)), (10, .int .i64 (x.at_ : Int))])
    (fun x w' => x.at_ ≤ s.length ∧ x.acc.length ≤ x.at_ ∧ (x.st, x.acc) = Sp.rtoks s x.at_ ∧ ((x.st = 1 ∨ x.st = 2) → x.acc ≠ []) ∧ (∀ t ∈ x.acc, t.text.length ≤ x.at_) ∧
      w'.ownsRow w.heap.size 90 3 x.out x.acc.length (x.acc.flatMap encTok) ∧ Kept [] w w')
    (fun x => s.length - x.at_) ⟨0, 0, .slice none 0 0, []⟩ ⟨rfl, rfl, rfl, rfl, rfl, trivial⟩ ⟨by simp, by simp, by simp [Sp.rtoks], by simp, by simp, World.ownsRow_nil _ _ _ _, Kept.refl _ _⟩ ?_
  rintro ⟨k, st, out, acc⟩ w1 ⟨hk, hacc, heq, hst, htx, hown, hkept⟩
  dsimp only at hk hacc heq hst htx hown hkept ⊢
  have hC : (s.getD (k : Int).toNat 0) = s.getD k 0 := by simp
  repeat' (first
  | (refine wc_cut_block 2 (fun _ : Unit => [(0, str s), (3, out), (4, .int .i64 (st : Int)), (5, .int .i64 (k : Int)), (6, .int .u8 ((s.getD k 0).toNat : Int)), (9, .int .i64 (s.length : Int)), (10, .int .i64 (k : Int))]) (fun _ w' => w' = w1 ∧ ¬ (st = 9 ∧ (s.getD k 0).toNat ≠ 10) ∧ ¬ ((st = 1 ∧ Sp.isWord (s.getD k 0) = true) ∨ (st = 2 ∧ Sp.isDigit (s.getD k 0) = true))) ?_ ?_)
  | (refine wc_cut_reg 8 (fun _ : Unit => [(0, str s), (3, out), (4, .int .i64 (st : Int)), (5, .int .i64 (k : Int)), (6, .int .u8 ((s.getD k 0).toNat : Int)), (9, .int .i64 (s.length : Int)), (10, .int .i64 (k : Int)), (23, .bool (decide ((st = 1 ∧ Sp.isWord (s.getD k 0) = true) ∨ (st = 2 ∧ Sp.isDigit (s.getD k 0) = true))))]) (fun _ w' => w' = w1) ?_ ?_)
  | (refine op_call (hc:=by exact c_rletter _ _) (k:=?_); rintro _ w1 ⟨rfl, rfl⟩)
  | (refine op_call (hc:=by exact c_rdigit _ _) (k:=?_); rintro _ w1 ⟨rfl, rfl⟩)
  | (rintro ⟨⟩ w1 rfl)
  | refine op_move (k:=?_)
  | refine op_assign (k:=?_)
  | refine op_pick_true (k:=?_)
  | refine op_pick_false (k:=?_)
  | refine op_lss (k:=?_)
  | refine op_eql (k:=?_)
  | refine op_neq (k:=?_)
  | refine op_add (k:=?_)
  | refine op_index_str (k:=?_)
  | refine wl_skip (k:=?_)
  | (refine wl_split_dec (h1:=fun _ => ?_) (h0:=fun _ => ?_)<;> (try first | contradiction | (exfalso; omega)))
  | (refine wl_split (h1:=fun _ => ?_) (h0:=fun _ => ?_)<;> (fail_if_success contradiction))
  | refine wl_nil ?_
  | refine at_then_normal ?_
  | refine at_then_exit ?_
  | refine at_block_normal ?_
  | refine at_block_exit ?_
  | refine at_block_other (h:=?_)
  | refine wc_seq ?_
  | refine wc_region ?_
  | refine wc_block ?_
  | refine wc_skip ?_
  | refine wc_exit ?_
  | refine wc_ret ?_
  | refine at_ret1 (h:=?_)
  | refine wc_cond_true (ht:=?_)
  | refine wc_cond_false (hf:=?_)
  | (refine wc_cond_dec (ht:=fun _ => ?_) (hf:=fun _ => ?_)<;> (try first | contradiction | (exfalso; omega)))
  | refine wc_cond (ht:=fun _ => ?_) (hf:=fun _ => ?_))
  · rename_i h1 h2 h3
    refine at_round (⟨k + 1, st, out, acc⟩ : RLoop) (by exact ⟨rfl, rfl, rfl, rfl, rfl, trivial⟩) ?_ (by dsimp only; omega)
    have : Sp.rtoks s (k + 1) = (st, acc) := by
      rw [Sp.rtoks, ← heq, Sp.rstep, if_pos ⟨by dsimp only; omega, by simp only [hC] at h3; omega⟩]
    exact ⟨by dsimp only; omega, by dsimp only; omega, this.symm, hst, fun t ht => Nat.le_succ_of_le (htx t ht), hown, hkept⟩
  · refine at_cut () ⟨rfl, rfl, rfl, rfl, rfl, rfl, rfl, ?_, trivial⟩ rfl
    refine congrArg (fun b => some (Value.bool b)) ?_
    rw [Bool.eq_iff_iff]; simp only [hC] at *; generalize s.getD k 0 = c at *
    cases hq : Sp.isLetter c <;> cases hq' : Sp.isDigit c <;> simp_all [Sp.isWord] <;> omega
  · rename_i h1 h2 h3 h4
    exact at_cut () ⟨rfl, rfl, rfl, rfl, rfl, rfl, rfl, trivial⟩ ⟨rfl, by rw [hC] at h3; omega, h4⟩
  · refine at_cut () ⟨rfl, rfl, rfl, rfl, rfl, rfl, rfl, ?_, trivial⟩ rfl
    refine congrArg (fun b => some (Value.bool b)) ?_
    rw [Bool.eq_iff_iff]; simp only [hC] at *; generalize s.getD k 0 = c at *
    cases hq : Sp.isLetter c <;> cases hq' : Sp.isDigit c <;> simp_all [Sp.isWord] <;> omega
  · refine at_cut () ⟨rfl, rfl, rfl, rfl, rfl, rfl, rfl, ?_, trivial⟩ rfl
    refine congrArg (fun b => some (Value.bool b)) ?_
    rw [Bool.eq_iff_iff]; simp only [hC] at *; generalize s.getD k 0 = c at *
    cases hq : Sp.isLetter c <;> cases hq' : Sp.isDigit c <;> simp_all [Sp.isWord] <;> omega
  · refine at_cut () ⟨rfl, rfl, rfl, rfl, rfl, rfl, rfl, ?_, trivial⟩ rfl
    refine congrArg (fun b => some (Value.bool b)) ?_
    rw [Bool.eq_iff_iff]; simp only [hC] at *; generalize s.getD k 0 = c at *
    cases hq : Sp.isLetter c <;> cases hq' : Sp.isDigit c <;> simp_all [Sp.isWord] <;> omega
  · refine at_cut () ⟨rfl, rfl, rfl, rfl, rfl, rfl, rfl, ?_, trivial⟩ rfl
    refine congrArg (fun b => some (Value.bool b)) ?_
    rw [Bool.eq_iff_iff]; simp only [hC] at *; generalize s.getD k 0 = c at *
    cases hq : Sp.isLetter c <;> cases hq' : Sp.isDigit c <;> simp_all [Sp.isWord] <;> omega
  · refine at_cut () ⟨rfl, rfl, rfl, rfl, rfl, rfl, rfl, ?_, trivial⟩ rfl
    refine congrArg (fun b => some (Value.bool b)) ?_
    rw [Bool.eq_iff_iff]; simp only [hC] at *; generalize s.getD k 0 = c at *
    cases hq : Sp.isLetter c <;> cases hq' : Sp.isDigit c <;> simp_all [Sp.isWord] <;> omega
  · rename_i h1 h2 h3
    have hne : acc ≠ [] := hst (by omega)
    obtain ⟨l0, t, rfl⟩ : ∃ l0 t, acc = l0 ++ [t] := ⟨acc.dropLast, acc.getLast hne, (List.dropLast_concat_getLast hne).symm⟩
    obtain ⟨g, cap, cur, rfl, hbg, hg, hcap, hcur, hsz⟩ := own_open hown (by simp)
    have hlen : (l0 ++ [t]).length = l0.length + 1 := by simp
    have hc1 : cur[l0.length * 3 + 1]? = some (str t.text) := hcur _ _ (by
      rw [List.flatMap_append, List.getElem?_append_right (by rw [encTok_len]; omega), encTok_len, show l0.length * 3 + 1 - l0.length * 3 = 1 by omega]; rfl)
    have htl : t.text.length ≤ k := htx t (by simp)
    have hsz2 : l0.length * 3 + 3 ≤ cur.size := by rw [hsz]; omega
    repeat' (first
    | (refine wc_quiet_tail 15 (h:=?_))
    | (refine q_load1 (hb:=hg) (hc:=by exact (congrArg (fun i => cur[i]?) (by omega)).trans hc1) (k:=?_))
    | (refine q_add_str (h:=by simp only [List.length_take, List.length_drop]; omega) (k:=?_))
    | (refine op_store (by rfl) (by rfl) (by rfl) (by rfl) (by exact hkq.get0 hg) (by rfl) (by omega) (by rfl) ?_; intro w3 hb3 hk3)
    | refine op_move (k:=?_)
    | refine op_assign (k:=?_)
    | refine op_len_slice (k:=?_)
    | refine op_add (k:=?_)
    | refine op_sub (k:=?_)
    | refine wl_nil ?_
    | refine at_then_normal ?_
    | refine at_then_exit ?_
    | refine at_block_exit ?_
    | refine at_block_other (h:=?_)
    | refine wc_seq ?_
    | refine wc_region ?_
    | refine wc_exit ?_
    | (refine wq_nil_tail ?_; intro _ hkq)
    | refine q_move (k:=?_)
    | refine q_add (k:=?_)
    | refine q_slice_str (k:=?_)
    | refine q_fieldAddr (k:=?_)
    | refine q_indexAddr (k:=?_))
    rename_i w2
    have hoff : 0 + (((l0 ++ [t]).length : Int) - 1).toNat * 3 + 1 = l0.length * 3 + 1 := by omega
    have hch : (s.drop (k : Int).toNat).take (((k : Int) + 1).toNat - (k : Int).toNat) = [s.getD k 0] := by
      rw [show ((k : Int) + 1).toNat - (k : Int).toNat = 1 by omega, Int.toNat_natCast]
      exact Sp.take_one s k (by omega)
    rw [hoff, hch] at hb3
    have hst2 := own_set (hkq.own hown (by simp)) (hkq.get0 hg) hb3 (by omega)
    rw [enc_addLast] at hst2
    have hal : Sp.addLast (l0 ++ [t]) (s.getD k 0) = l0 ++ [⟨t.kind, t.text ++ [s.getD k 0], t.pos⟩] := by simp [Sp.addLast]
    have hrt : Sp.rtoks s (k + 1) = (st, Sp.addLast (l0 ++ [t]) (s.getD k 0)) := by
      rw [Sp.rtoks, ← heq, Sp.rstep, if_neg (by dsimp only; omega), if_pos h3]
    refine at_round (⟨k + 1, st, _, Sp.addLast (l0 ++ [t]) (s.getD k 0)⟩ : RLoop) (by exact ⟨rfl, rfl, rfl, rfl, rfl, trivial⟩) ?_ (by dsimp only; omega)
    refine ⟨by dsimp only; omega, ?_, hrt.symm, ?_, ?_, ?_, ?_⟩
    · rw [hal]; simp at hacc ⊢; omega
    · rw [hal]; simp
    · rw [hal]
      intro u hu
      rcases List.mem_append.1 hu with h | h
      · exact Nat.le_succ_of_le (htx u (by simp [h]))
      · simp at h; subst h; simp; exact htl
    · have : (Sp.addLast (l0 ++ [t]) (s.getD k 0)).length = (l0 ++ [t]).length := by rw [hal]; simp
      rw [this]; exact hst2
    · exact (hkept.step0 hkq).step hk3 (fun x hx => .inr (by simp at hx; subst hx; exact hbg))
  · rename_i h1 h2 h3
    exact at_cut () ⟨rfl, rfl, rfl, rfl, rfl, rfl, rfl, trivial⟩ ⟨rfl, by omega, h3⟩
  · rintro ⟨⟩ w1' ⟨rfl, h2, h3⟩
    rename_i h1
    have hch : (s.drop (k : Int).toNat).take (((k : Int) + 1).toNat - (k : Int).toNat) = [s.getD k 0] := by
      rw [show ((k : Int) + 1).toNat - (k : Int).toNat = 1 by omega, Int.toNat_natCast]
      exact Sp.take_one s k (by omega)
    repeat' (first
    | (refine wc_cut_block 3 (fun x : RLoop => [(0, str s), (3, x.out), (4, .int .i64 (x.st : Int)), (5, .int .i64 (k : Int)), (6, .int .u8 ((s.getD k 0).toNat : Int)), (9, .int .i64 (s.length : Int)), (10, .int .i64 (k : Int))]) (fun x w' => ((Sp.rcls (s.getD k 0) = 3 ∨ Sp.rcls (s.getD k 0) = 4) → x.st = 0 ∧ x.acc = acc ++ [⟨Sp.rcls (s.getD k 0), [s.getD k 0], k⟩]) ∧ (¬ (Sp.rcls (s.getD k 0) = 3 ∨ Sp.rcls (s.getD k 0) = 4) → x.st = Sp.rcls (s.getD k 0) ∧ x.acc = acc) ∧ w'.ownsRow w.heap.size 90 3 x.out x.acc.length (x.acc.flatMap encTok) ∧ Kept [] w w') ?_ ?_)
    | (refine op_call (hc:=by exact c_rletter _ _) (k:=?_); rintro _ w1 ⟨rfl, rfl⟩)
    | (refine op_call (hc:=by exact c_rdigit _ _) (k:=?_); rintro _ w1 ⟨rfl, rfl⟩)
    | (refine op_call (hc:=by exact c_rsign _ _) (k:=?_); rintro _ w1 ⟨rfl, rfl⟩)
    | (refine op_append1 (hown:=hown) (hbase:=by have := hkept.size; omega) (k:=?_); intro v3 w3 hown3 hk3 hb3)
    | refine op_move (k:=?_)
    | refine op_assign (k:=?_)
    | refine op_pick_true (k:=?_)
    | refine op_pick_false (k:=?_)
    | refine op_eql (k:=?_)
    | refine op_add (k:=?_)
    | refine op_slice_str (k:=?_)
    | refine op_struct (k:=?_)
    | refine wl_skip (k:=?_)
    | (refine wl_split_dec (h1:=fun _ => ?_) (h0:=fun _ => ?_)<;> (try first | contradiction | (exfalso; omega)))
    | refine wl_nil ?_
    | refine at_then_normal ?_
    | refine at_block_normal ?_
    | refine wc_seq ?_
    | refine wc_region ?_
    | refine wc_block ?_
    | refine wc_skip ?_
    | refine wc_cond_true (ht:=?_)
    | (refine wc_cond_dec (ht:=fun _ => ?_) (hf:=fun _ => ?_)<;> (try first | contradiction | (exfalso; omega)))
    | refine wc_cond (ht:=fun _ => ?_) (hf:=fun _ => ?_))
    · rename_i g0
      have hr : Sp.rcls (s.getD k 0) = 0 := by simp only [Sp.rcls]; rw [if_pos (by simp only [Sp.isBlank, Bool.or_eq_true, decide_eq_true_eq]; omega)]
      exact at_cut (⟨k, 0, out, acc⟩ : RLoop) ⟨rfl, rfl, rfl, rfl, rfl, rfl, rfl, trivial⟩ ⟨fun h => by omega, fun _ => ⟨hr.symm, rfl⟩, hown, hkept⟩
    · rename_i g0 g1
      have hr : Sp.rcls (s.getD k 0) = 0 := by simp only [Sp.rcls]; rw [if_pos (by simp only [Sp.isBlank, Bool.or_eq_true, decide_eq_true_eq]; omega)]
      exact at_cut (⟨k, 0, out, acc⟩ : RLoop) ⟨rfl, rfl, rfl, rfl, rfl, rfl, rfl, trivial⟩ ⟨fun h => by omega, fun _ => ⟨hr.symm, rfl⟩, hown, hkept⟩
    · rename_i g0 g1 g2
      have hr : Sp.rcls (s.getD k 0) = 0 := by simp only [Sp.rcls]; rw [if_pos (by simp only [Sp.isBlank, Bool.or_eq_true, decide_eq_true_eq]; omega)]
      exact at_cut (⟨k, 0, out, acc⟩ : RLoop) ⟨rfl, rfl, rfl, rfl, rfl, rfl, rfl, trivial⟩ ⟨fun h => by omega, fun _ => ⟨hr.symm, rfl⟩, hown, hkept⟩
    · rename_i g1 g2 g3 g4
      have hr : Sp.rcls (s.getD k 0) = 9 := by simp only [Sp.rcls]; rw [if_neg (by simp only [Sp.isBlank, Bool.or_eq_true, decide_eq_true_eq]; omega), if_pos (by omega)]
      exact at_cut (⟨k, 9, out, acc⟩ : RLoop) ⟨rfl, rfl, rfl, rfl, rfl, rfl, rfl, trivial⟩ ⟨fun h => by omega, fun _ => ⟨hr.symm, rfl⟩, hown, hkept⟩
    · rename_i g1 g2 g3 g4 g5
      have hr : Sp.rcls (s.getD k 0) = 1 := by simp only [Sp.rcls]; rw [if_neg (by simp only [Sp.isBlank, Bool.or_eq_true, decide_eq_true_eq]; omega), if_neg (by omega), if_pos g5]
      exact at_cut (⟨k, 1, out, acc⟩ : RLoop) ⟨rfl, rfl, rfl, rfl, rfl, rfl, rfl, trivial⟩ ⟨fun h => by omega, fun _ => ⟨hr.symm, rfl⟩, hown, hkept⟩
    · rename_i g1 g2 g3 g4 g5 g6
      have hr : Sp.rcls (s.getD k 0) = 2 := by simp only [Sp.rcls]; rw [if_neg (by simp only [Sp.isBlank, Bool.or_eq_true, decide_eq_true_eq]; omega), if_neg (by omega), if_neg (by rw [g5]; simp), if_pos g6]
      exact at_cut (⟨k, 2, out, acc⟩ : RLoop) ⟨rfl, rfl, rfl, rfl, rfl, rfl, rfl, trivial⟩ ⟨fun h => by omega, fun _ => ⟨hr.symm, rfl⟩, hown, hkept⟩
    · rename_i g1 g2 g3 g4 g5 g6 g7
      have hr : Sp.rcls (s.getD k 0) = 3 := by simp only [Sp.rcls]; rw [if_neg (by simp only [Sp.isBlank, Bool.or_eq_true, decide_eq_true_eq]; omega), if_neg (by omega), if_neg (by rw [g5]; simp), if_neg (by rw [g6]; simp), if_pos g7]
      rw [hch] at hown3
      refine at_cut (⟨k, 0, v3, acc ++ [⟨Sp.rcls (s.getD k 0), [s.getD k 0], k⟩]⟩ : RLoop) ⟨rfl, rfl, rfl, rfl, rfl, rfl, rfl, trivial⟩ ⟨fun _ => ⟨rfl, rfl⟩, fun h => by omega, ?_, ?_⟩
      · rw [hr]; simpa [encTok, List.flatMap_append, Value.cells] using hown3
      · exact hkept.step hk3 (fun x hx => .inr (by
          cases ho : out.ownBlock with
          | none => simp [ho] at hx
          | some g => simp [ho] at hx; subst hx; exact (hown.lt _ ho).1))
    · rename_i g1 g2 g3 g4 g5 g6 g7
      have hr : Sp.rcls (s.getD k 0) = 4 := by simp only [Sp.rcls]; rw [if_neg (by simp only [Sp.isBlank, Bool.or_eq_true, decide_eq_true_eq]; omega), if_neg (by omega), if_neg (by rw [g5]; simp), if_neg (by rw [g6]; simp), if_neg (by rw [g7]; simp)]
      rw [hch] at hown3
      refine at_cut (⟨k, 0, v3, acc ++ [⟨Sp.rcls (s.getD k 0), [s.getD k 0], k⟩]⟩ : RLoop) ⟨rfl, rfl, rfl, rfl, rfl, rfl, rfl, trivial⟩ ⟨fun _ => ⟨rfl, rfl⟩, fun h => by omega, ?_, ?_⟩
      · rw [hr]; simpa [encTok, List.flatMap_append, Value.cells] using hown3
      · exact hkept.step hk3 (fun x hx => .inr (by
          cases ho : out.ownBlock with
          | none => simp [ho] at hx
          | some g => simp [ho] at hx; subst hx; exact (hown.lt _ ho).1))
    · rintro ⟨k', st', out', acc'⟩ w2 ⟨j1, j2, hown', hkept'⟩
      dsimp only at j1 j2 hown' ⊢
      have hlen : acc'.length ≤ k + 1 := by
        by_cases hc : Sp.rcls (s.getD k 0) = 3 ∨ Sp.rcls (s.getD k 0) = 4
        · rw [(j1 hc).2]; simp; omega
        · rw [(j2 hc).2]; omega
      have hlen2 : (st' = 1 ∨ st' = 2) → acc' = acc ∧ Sp.rcls (s.getD k 0) = st' := fun h => by
        by_cases hc : Sp.rcls (s.getD k 0) = 3 ∨ Sp.rcls (s.getD k 0) = 4
        · have := (j1 hc).1; omega
        · exact ⟨(j2 hc).2, (j2 hc).1.symm⟩
      have hrt : Sp.rtoks s (k + 1) = Sp.rstep (s.getD k 0) k (st, acc) := by rw [Sp.rtoks, ← heq]
      rw [Sp.rstep, if_neg h2, if_neg h3] at hrt
      repeat' (first
      | (refine op_append1 (hown:=hown') (hlen:=by have := (hlen2 (by omega)).1; subst this; omega) (hbase:=by have := hkept'.size; omega) (k:=?_); intro v3 w3 hown3 hk3 hb3)
      | refine op_move (k:=?_)
      | refine op_assign (k:=?_)
      | refine op_pick_true (k:=?_)
      | refine op_pick_false (k:=?_)
      | refine op_eql (k:=?_)
      | refine op_add (k:=?_)
      | refine op_slice_str (k:=?_)
      | refine op_struct (k:=?_)
      | refine wl_skip (k:=?_)
      | (refine wl_split_dec (h1:=fun _ => ?_) (h0:=fun _ => ?_)<;> (try first | contradiction | (exfalso; omega)))
      | refine wl_nil ?_
      | refine at_then_normal ?_
      | refine at_block_normal ?_
      | refine wc_seq ?_
      | refine wc_region ?_
      | refine wc_skip ?_
      | refine wc_cond_true (ht:=?_)
      | (refine wc_cond_dec (ht:=fun _ => ?_) (hf:=fun _ => ?_)<;> (try first | contradiction | (exfalso; omega))))
      iterate 2
        · rename_i hlast
          have h12 : st' = 1 ∨ st' = 2 := by omega
          obtain ⟨hae, hcl⟩ := hlen2 h12
          have hac' : acc'.length ≤ k := by rw [hae]; exact hacc
          rw [hch] at hown3
          rw [if_neg (by omega), if_pos (by omega), hcl] at hrt
          dsimp only at hrt
          rw [← hae] at hrt
          refine at_round (⟨k + 1, st', v3, acc' ++ [⟨st', [s.getD k 0], k⟩]⟩ : RLoop) (by exact ⟨rfl, rfl, rfl, rfl, rfl, trivial⟩) ?_ (by dsimp only; omega)
          refine ⟨by dsimp only; omega, by simp; omega, hrt.symm, fun _ => by simp, ?_, ?_, ?_⟩
          · intro u hu
            rcases List.mem_append.1 hu with h | h
            · exact Nat.le_succ_of_le (htx u (by rw [← hae]; exact h))
            · simp at h; subst h; simp
          · simpa [encTok, List.flatMap_append, Value.cells] using hown3
          · exact hkept'.step hk3 (fun x hx => .inr (by
              cases ho : out'.ownBlock with
              | none => simp [ho] at hx
              | some g => simp [ho] at hx; subst hx; exact (hown'.lt _ ho).1))
      · rename_i h5 h6
        have hout : Sp.rtoks s (k + 1) = (st', acc') := by
          rw [hrt]
          by_cases hc : Sp.rcls (s.getD k 0) = 3 ∨ Sp.rcls (s.getD k 0) = 4
          · obtain ⟨rfl, rfl⟩ := j1 hc
            rw [if_neg (by omega), if_neg (by omega)]
          · obtain ⟨rfl, rfl⟩ := j2 hc
            have hle : Sp.rcls (s.getD k 0) = 0 ∨ Sp.rcls (s.getD k 0) = 9 := by
              have : ∀ c, Sp.rcls c = 0 ∨ Sp.rcls c = 9 ∨ Sp.rcls c = 1 ∨ Sp.rcls c = 2 ∨ Sp.rcls c = 3 ∨ Sp.rcls c = 4 := fun c => by
                unfold Sp.rcls; repeat' split
                all_goals simp
              have := this (s.getD k 0)
              omega
            rw [if_pos hle]
        refine at_round (⟨k + 1, st', out', acc'⟩ : RLoop) (by exact ⟨rfl, rfl, rfl, rfl, rfl, trivial⟩) ?_ (by dsimp only; omega)
        refine ⟨by dsimp only; omega, hlen, hout.symm, fun h => by dsimp only at h; omega, ?_, hown', hkept'⟩
        intro u hu
        by_cases hc : Sp.rcls (s.getD k 0) = 3 ∨ Sp.rcls (s.getD k 0) = 4
        · rw [(j1 hc).2] at hu
          rcases List.mem_append.1 hu with h | h
          · exact Nat.le_succ_of_le (htx u h)
          · simp at h; subst h; simp
        · rw [(j2 hc).2] at hu
          exact Nat.le_succ_of_le (htx u hu)
  · have hk' : k = s.length := by omega
    subst hk'
    have : Sp.rtokens s = acc := by rw [Sp.rtokens, ← heq]
    rw [this]
    exact ⟨hown, hkept⟩
end Go.Proofs.Ytjfkjpbkmpofkaa
end
section
namespace Go.Proofs.Ytjfkjpbkmpofkaa
open Go.Fw
theorem c_rown (w : World) : Cal Try.prog 74 #[] w fun v w' => w'.ownsRow w.heap.size 9 1 v 9 (Sp.ownWords.map str) ∧ Kept [] w w' := by
  refine enter (N := 2) Try.func74 rfl [] args0 rfl ?_
  repeat' (first
  | (refine op_buildSlice (by rfl) (by rfl) (by rfl) (by rfl) (by rfl) (by decide) ?_; intro b w1 hbe hb hk)
  | refine op_assign (k:=?_)
  | refine wl_nil ?_
  | refine at_then_normal ?_
  | refine wc_seq ?_
  | refine wc_region ?_
  | refine wc_ret ?_
  | refine at_ret1 (h:=?_))
  exact ⟨own_of_block hb (by rfl) (by omega) (by decide), hk⟩

set_option maxHeartbeats 1000000 in
theorem c_rword (s : List UInt8) (hl : s.length ≤ 9223372036854775807) (w : World) : Cal Try.prog 75 #[str s] w fun v w' => v = .bool (Sp.word s) ∧ w' = w := by
  refine enter (N := 34) Try.func75 rfl [(0, str s)] args1 rfl ?_
  repeat' (first
  | refine op_move (k:=?_)
  | refine op_assign (k:=?_)
  | refine op_len_str (k:=?_)
  | refine wl_nil ?_
  | refine at_then_normal ?_
  | refine wc_seq ?_
  | refine wc_region ?_
  | refine wc_block ?_)
  refine wc_loop (fun k => [(0, str s), (5, .int .i64 (s.length : Int)), (6, .int .i64 ((k : Nat) : Int))]) (fun k w' => w' = w ∧ k ≤ s.length ∧ (0 < k → Sp.isLetter (s.getD 0 0) = true) ∧ ∀ j, j < k → Sp.isWord (s.getD j 0) = true) (fun k => s.length - k) 0 ⟨rfl, rfl, rfl, trivial⟩ ⟨rfl, by omega, by omega, by omega⟩ ?_
  rintro k w ⟨rfl, hk, h0, hn⟩
  repeat' (first
  | (refine op_call (hc:=by exact c_rletter _ _) (k:=?_); rintro _ w ⟨rfl, rfl⟩)
  | (refine op_call (hc:=by exact c_rdigit _ _) (k:=?_); rintro _ w ⟨rfl, rfl⟩)
  | refine op_move (k:=?_)
  | refine op_assign (k:=?_)
  | refine op_pick_true (k:=?_)
  | refine op_pick_false (k:=?_)
  | refine op_lss (k:=?_)
  | refine op_leq (k:=?_)
  | refine op_gtr (k:=?_)
  | refine op_eql (k:=?_)
  | refine op_len_str (k:=?_)
  | refine op_not (k:=?_)
  | refine op_add (k:=?_)
  | refine op_index_str (k:=?_)
  | refine wl_skip (k:=?_)
  | (refine wl_split_dec (h1:=fun _ => ?_) (h0:=fun _ => ?_)<;> (try first | contradiction | (exfalso; omega)))
  | (refine wl_split (h1:=fun _ => ?_) (h0:=fun _ => ?_)<;> (fail_if_success contradiction))
  | refine wl_nil ?_
  | refine at_then_normal ?_
  | refine at_then_ret ?_
  | refine at_then_exit ?_
  | refine at_block_normal ?_
  | refine at_block_ret ?_
  | refine at_block_exit ?_
  | refine wc_seq ?_
  | refine wc_region ?_
  | refine wc_block ?_
  | refine wc_skip ?_
  | refine wc_exit ?_
  | refine wc_ret ?_
  | refine at_ret1 (h:=?_)
  | refine wc_cond_true (ht:=?_)
  | refine wc_cond_false (hf:=?_)
  | (refine wc_cond_dec (ht:=fun _ => ?_) (hf:=fun _ => ?_)<;> (try first | contradiction | (exfalso; omega)))
  | refine wc_cond (ht:=fun _ => ?_) (hf:=fun _ => ?_))
  · rename_i h3 h4 h5
    refine ⟨?_, rfl⟩
    obtain rfl : k = 0 := by omega
    have h4' : Sp.isLetter (s.getD 0 0) = false := by simpa using h4
    rw [show Sp.word s = false by unfold Sp.word; rw [h4']; simp]
  · rename_i h3 h4 h5 h6
    refine ⟨?_, rfl⟩
    rw [word_no (k := k) (by omega) (by simp at h4 h6; simp [Sp.isWord, h4, h6])]
  · rename_i h3 h4 h5 h6
    refine at_round (k + 1) (by exact ⟨rfl, rfl, rfl, trivial⟩) ⟨rfl, by omega, fun _ => h0 (by omega), fun j hj => ?_⟩ (by omega)
    by_cases hjk : j = k
    · subst hjk; simp at h6; simp [Sp.isWord, h6]
    · exact hn j (by omega)
  · rename_i h3 h4
    have h4' : Sp.isLetter (s.getD k 0) = true := by simpa using h4
    refine at_round (k + 1) (by exact ⟨rfl, rfl, rfl, trivial⟩) ⟨rfl, by omega, fun _ => ?_, fun j hj => ?_⟩ (by omega)
    · by_cases hk0 : k = 0
      · subst hk0; exact h4'
      · exact h0 (by omega)
    · by_cases hjk : j = k
      · subst hjk; simp only [Sp.isWord, h4', Bool.true_or]
      · exact hn j (by omega)
  all_goals
    have ha : s.all Sp.isWord = true := (Sp.all_iff _ _).2 (fun j hj => hn j (by omega))
    refine ⟨congrArg Value.bool ?_, rfl⟩
  · have h1 := h0 (by omega)
    rw [Bool.eq_iff_iff]
    unfold Sp.word
    rw [h1, ha]
    simp
    omega
  · rw [show Sp.word s = false by simp [Sp.word]; omega]

theorem c_rname (s : List UInt8) (hl : s.length ≤ 9223372036854775807) (w : World) : Cal Try.prog 64 #[str s] w fun v w' => v = .bool (Sp.name s) ∧ Kept [] w w' := by
  refine enter (N := 17) Try.func64 rfl [(0, str s)] args1 rfl ?_
  repeat' (first
  | (refine op_call (hc:=by exact c_rown _) (k:=?_); rintro _ w1 ⟨hown, hk1⟩; obtain ⟨g, cap, cur, rfl, hbg, hg, hcap, hcur, _⟩ := own_open hown (by decide))
  | refine op_move (k:=?_)
  | refine op_assign (k:=?_)
  | refine op_len_slice (k:=?_)
  | refine wl_nil ?_
  | refine at_then_normal ?_
  | refine wc_seq ?_
  | refine wc_region ?_
  | refine wc_block ?_)
  refine wc_loop (fun k => [(0, str s), (5, .slice (some ⟨g, 0, none⟩) 9 cap), (6, .int .i64 9), (7, .int .i64 ((k : Nat) : Int))]) (fun k w' => w' = w1 ∧ k ≤ 9 ∧ ∀ j, j < k → s ≠ Sp.ownWords.getD j []) (fun k => 9 - k) 0 ⟨rfl, rfl, rfl, rfl, trivial⟩ ⟨rfl, by omega, by omega⟩ ?_
  rintro k w1 ⟨rfl, hk, hn⟩
  have hcell : k < 9 → cur[0 + (k : Int).toNat * 1]? = some (str (Sp.ownWords.getD k [])) := fun h => hcur _ _ (by
    have h9 : k < Sp.ownWords.length := h
    simp [List.getD_eq_getElem?_getD, List.getElem?_eq_getElem h9])
  repeat' (first
  | (refine op_load1 (hc:=by exact hcell (by omega)) (k:=?_))
  | (refine op_call (hc:=by exact c_rword s hl _) (k:=?_); rintro _ w ⟨rfl, rfl⟩)
  | refine op_move (k:=?_)
  | refine op_assign (k:=?_)
  | refine op_lss (k:=?_)
  | refine op_eql_str (k:=?_)
  | refine op_add (k:=?_)
  | refine op_indexAddr (k:=?_)
  | refine wl_nil ?_
  | refine at_then_normal ?_
  | refine at_then_ret ?_
  | refine at_then_exit ?_
  | refine at_block_normal ?_
  | refine at_block_ret ?_
  | refine at_block_exit ?_
  | refine wc_seq ?_
  | refine wc_region ?_
  | refine wc_block ?_
  | refine wc_skip ?_
  | refine wc_exit ?_
  | refine wc_ret ?_
  | refine at_ret1 (h:=?_)
  | (refine wc_cond_dec (ht:=fun _ => ?_) (hf:=fun _ => ?_)<;> (try first | contradiction | (exfalso; omega))))
  · rename_i h0 h1
    have h1 := h1.symm
    refine ⟨?_, hk1⟩
    have h9 : k < Sp.ownWords.length := show k < 9 by omega
    have : Sp.ownWords.any (fun w => decide (s = w)) = true := by
      rw [List.any_eq_true]
      exact ⟨_, List.getElem_mem h9, by rw [h1, List.getD_eq_getElem?_getD, List.getElem?_eq_getElem h9]; simp⟩
    simp only [Sp.name, this, Bool.not_true, Bool.false_and]
  · rename_i h0 h1
    refine at_round (k + 1) (by exact ⟨rfl, rfl, rfl, rfl, trivial⟩) ⟨rfl, by omega, fun j hj => ?_⟩ (by omega)
    by_cases hjk : j = k
    · subst hjk; exact fun e => h1 e.symm
    · exact hn j (by omega)
  · rename_i h0
    refine ⟨?_, hk1⟩
    have : Sp.ownWords.any (fun w => decide (s = w)) = false := by
      rw [List.any_eq_false]
      intro x hx
      obtain ⟨j, hj, rfl⟩ := List.mem_iff_getElem.1 hx
      have := hn j (by have : j < 9 := hj; omega)
      rw [List.getD_eq_getElem?_getD, List.getElem?_eq_getElem hj] at this
      simpa using this
    simp only [Sp.name, this, Bool.not_false, Bool.true_and]

/-! the reference's tokens -/
structure RCLoop where
  at_ : Nat
  out : Value
  acc : List Nat
set_option maxHeartbeats 1000000 in
theorem c_rcuts (s : List UInt8) (hl : s.length ≤ 1099511627776) (w : World) :
    Cal Try.prog 17 #[str s] w fun v w' => w'.ownsRow w.heap.size 3 1 v (Sp.cuts s).length ((Sp.cuts s).flatMap encInt) ∧ Kept [] w w' := by
  rw [← Sp.rcuts_eq]
  refine enter (N := 41) Try.func17 rfl [(0, str s)] args1 rfl ?_
  repeat' (first
  | (refine op_call (hc:=by exact c_rtokens s hl _) (k:=?_); rintro tv w1 ⟨htv, hk1⟩; rw [Sp.rtokens_eq] at htv; obtain ⟨ta, tc, rfl⟩ := own_val htv)
  | refine op_move (k:=?_)
  | refine op_assign (k:=?_)
  | refine op_len_slice (k:=?_)
  | refine wl_nil ?_
  | refine at_then_normal ?_
  | refine wc_seq ?_
  | refine wc_region ?_
  | refine wc_block ?_)
  have htl := toks_len s
  refine wc_loop (fun x : RCLoop => [(0, str s), (3, x.out), (7, .slice ta (Sp.tokens s).length tc), (8, .int .i64 ((Sp.tokens s).length : Int)), (9, .int .i64 (x.at_ : Int))])
    (fun x w' => x.at_ ≤ (Sp.tokens s).length ∧ x.acc.length ≤ x.at_ ∧ (x.at_, x.acc) = ((Sp.tokens s).take x.at_).foldl (Sp.rcutStep s) (0, []) ∧ w'.ownsRow w1.heap.size 3 1 x.out x.acc.length (x.acc.flatMap encInt) ∧ Kept [] w1 w')
    (fun x => (Sp.tokens s).length - x.at_) ⟨0, .slice none 0 0, []⟩ ⟨rfl, rfl, rfl, rfl, rfl, trivial⟩ ⟨by simp, by simp, by simp, World.ownsRow_nil _ _ _ _, Kept.refl _ _⟩ ?_
  rintro ⟨k, out, acc⟩ w2 ⟨hk, hacc, heq, hown, hkept⟩
  dsimp only at hk hacc heq hown hkept ⊢
  by_cases hlt : k < (Sp.tokens s).length
  · obtain ⟨g, cap, cur, htve, hbg, hg, hcap, hcur, hsz⟩ := own_open htv (by omega)
    injection htve with e1 e2 e3
    subst e1
    have hg2 := hkept.get0 hg
    have htok : (Sp.tokens s)[k]? = some (Sp.tokens s)[k] := List.getElem?_eq_getElem hlt
    have hok := Sp.tokens_ok s _ (List.getElem_mem hlt)
    have hfold := Sp.fold_take (Sp.rcutStep s) (0, []) _ _ _ htok
    have hp0 : k ≠ 0 → (Sp.tokens s)[k].pos ≠ 0 := fun h0 => by
      have h1 := List.pairwise_iff_getElem.1 (Sp.tokens_sorted s) 0 k (by omega) (by omega) (by omega)
      have h2 := (Sp.tokens_ok s _ (List.getElem_mem (show 0 < (Sp.tokens s).length by omega))).len
      omega
    have hcell : ∀ (j : Nat) (v : Value), (encTok (Sp.tokens s)[k])[j]? = some v → cur[0 + (k : Int).toNat * 3 + j]? = some v := fun j v hv => by
      rw [show 0 + (k : Int).toNat * 3 + j = k * 3 + j by omega]
      exact hcur _ _ (encTok_get _ _ _ htok j v hv)
    generalize (Sp.tokens s)[k] = t at htok hok hfold hcell hp0
    have hp1 := hok.pos
    obtain ⟨oa, oc, rfl⟩ := own_val hown
    by_cases hk0 : k = 0
    all_goals
      have hp2 : k ≠ 0 → 1 ≤ t.pos := fun h => by have := hp0 h; omega
      repeat' (first
      | (refine op_loadN (vs:=encTok t) (hb:=hg2) (hc:=hcell) (k:=?_))
      | (refine op_alloc (k:=?_); intro b wa zc hbe hzs hba hka)
      | (refine op_store_all (hb:=hba) (ho:=hzs) (k:=?_); intro w3 hb hks; have hkb : Kept [] w2 w3 := hka.step hks (fun x hx => .inr (by simp at hx; omega)))
      | (refine op_append1 (hown:=by exact hkb.own hown (by simp)) (hbase:=by have := hkept.size; have := hkb.size; omega) (k:=?_); intro v3 w4 hown3 hk3 hb3)
      | refine op_move (k:=?_)
      | refine op_assign (k:=?_)
      | refine op_pick_true (k:=?_)
      | refine op_pick_false (k:=?_)
      | refine op_lss (k:=?_)
      | refine op_eql (k:=?_)
      | refine op_eql_str (k:=?_)
      | refine op_add (k:=?_)
      | refine op_sub (k:=?_)
      | refine op_index_str (k:=?_)
      | refine op_fieldAddr (k:=?_)
      | refine op_indexAddr (k:=?_)
      | refine op_load1 (k:=?_)
      | refine wl_skip (k:=?_)
      | (refine wl_split_dec (h1:=fun _ => ?_) (h0:=fun _ => ?_)<;> (try first | contradiction | (exfalso; omega)))
      | refine wl_nil ?_
      | refine at_then_normal ?_
      | refine at_block_normal ?_
      | refine wc_seq ?_
      | refine wc_region ?_
      | refine wc_block ?_
      | refine wc_skip ?_
      | refine wc_cond_true (ht:=?_)
      | refine wc_cond_false (hf:=?_)
      | (refine wc_cond_dec (ht:=fun _ => ?_) (hf:=fun _ => ?_)<;> (try first | contradiction | (exfalso; omega))))
    all_goals
      have e10 : ((t.pos : Int) - 1).toNat = t.pos - 1 := by omega
      rw [← heq] at hfold
    all_goals first
      | (have hst : k = 0 ∨ ((t.text = Sp.wFn ∨ t.text = Sp.wChan) ∧ (s.getD (t.pos - 1) 0).toNat = 10) := by
          rw [← e10]
          simp only [Sp.wFn, Sp.wChan]
          first
            | exact .inl (by omega)
            | exact .inr ⟨.inl (by assumption), by omega⟩
            | exact .inr ⟨.inr (by assumption), by omega⟩
         rw [Sp.rcutStep] at hfold
         dsimp only at hfold
         rw [if_pos hst] at hfold
         refine at_round (⟨k + 1, v3, acc ++ [t.pos]⟩ : RCLoop) (by exact ⟨rfl, rfl, rfl, rfl, rfl, trivial⟩) ?_ (by dsimp only; omega)
         refine ⟨by dsimp only; omega, by simp; omega, hfold.symm, ?_, ?_⟩
         · simpa [encInt, List.flatMap_append, Value.cells, encTok] using hown3
         · exact (hkept.step0 hkb).step hk3 (fun x hx => .inr (by
            cases oa with
            | none => simp [Value.ownBlock] at hx
            | some a => simp [Value.ownBlock] at hx; subst hx; exact (hown.lt _ rfl).1)))
      | (have hst : ¬ (k = 0 ∨ ((t.text = Sp.wFn ∨ t.text = Sp.wChan) ∧ (s.getD (t.pos - 1) 0).toNat = 10)) := by
          rw [← e10]
          simp only [Sp.wFn, Sp.wChan]
          rintro (h | ⟨h1, h2⟩)
          · omega
          · rcases h1 with h1 | h1 <;> first | omega | exact absurd h1 (by assumption)
         rw [Sp.rcutStep] at hfold
         dsimp only at hfold
         rw [if_neg hst] at hfold
         refine at_round (⟨k + 1, .slice oa acc.length oc, acc⟩ : RCLoop) (by exact ⟨rfl, rfl, rfl, rfl, rfl, trivial⟩) ?_ (by dsimp only; omega)
         exact ⟨by dsimp only; omega, by dsimp only; omega, hfold.symm, hkb.own hown (by simp), hkept.step0 hkb⟩)
  · have hkk : k = (Sp.tokens s).length := by omega
    have hcs : Sp.rcuts s = acc := by rw [hkk, List.take_length] at heq; rw [Sp.rcuts, ← heq]
    repeat' (first
    | refine op_move (k:=?_)
    | refine op_assign (k:=?_)
    | refine op_lss (k:=?_)
    | refine wl_nil ?_
    | refine at_then_normal ?_
    | refine at_then_exit ?_
    | refine at_block_exit ?_
    | refine wc_seq ?_
    | refine wc_region ?_
    | refine wc_exit ?_
    | refine wc_ret ?_
    | refine at_ret1 (h:=?_)
    | (refine wc_cond_dec (ht:=fun _ => ?_) (hf:=fun _ => ?_)<;> (try first | contradiction | (exfalso; omega))))
    rw [hcs]
    exact ⟨ownsRow_base hown hk1.size, hk1.trans hkept⟩
end Go.Proofs.Ytjfkjpbkmpofkaa
end
section
namespace Go.Proofs.Ytjfkjpbkmpofkaa
open Go.Fw

abbrev pObj (pb : Nat) (la : Option Addr) (lc : Nat) (T : Sp.Src) (ds : List Sp.Dg) (deep : Nat) (da : Option Addr) (dc : Nat) : HItem :=
  .obj pb (.cells [.slice la T.l.length lc, nt T.size, .slice da ds.length dc, nt deep].toArray 93 (0, 0))
/-- the reference's parser, and what it told. -/
abbrev PSt (pb : Nat) (la : Option Addr) (lc : Nat) (T : Sp.Src) (ds : List Sp.Dg) (deep : Nat) (da : Option Addr) (dc : Nat) : List HItem := [pObj pb la lc T ds deep da dc, dgRow ds da dc]

section
variable {I : Imm} {pb deep lc dc : Nat} {la da : Option Addr} {T : Sp.Src} {ds : List Sp.Dg}

theorem c_T (i : Nat) (hr : TokR I T la lc) : CalR Try.prog 36 #[ptr pb, nt i] I (PSt pb la lc T ds deep da dc) (.agg (encTok (T.tok i)).toArray) := by
  refine CalR.of fun w J hm hl hH hJ => enter (N := 24) Try.func36 rfl [(0, ptr pb), (1, nt i)] args2 rfl ?_
  have hp := immOf_ptr (hH _ List.mem_cons_self)
  rw [← hJ] at hp
  replace hr := hr.le hl
  by_cases hi : i < T.l.length
  · have htk := tok_get hi
    repeat' (first
    | (refine i_indexFlat (hr:=by exact hr) (he:=by intro _; rfl) (hz:=by exact htk) (k:=?_); intro b1 o1 hp1)
    | (refine m_allocS (d:=4) hm (k:=?_); clear hm; intro b4 _ hm)
    | refine i_load1 hm (k:=?_)
    | refine i_loadN hm (k:=?_)
    | (refine m_storeAll hm (k:=?_); clear hm; intro _ hm; try simp only [setn] at hm)
    | refine m_ret_agg hm (h:=?_)
    | refine op_move (k:=?_)
    | refine op_lss (k:=?_)
    | refine op_len_slice (k:=?_)
    | refine op_nilCheck (k:=?_)
    | refine op_fieldAddr (k:=?_)
    | refine wl_nil ?_
    | refine at_then_normal ?_
    | refine at_then_ret ?_
    | refine wc_seq ?_
    | refine wc_region ?_
    | refine wc_ret ?_
    | (refine wc_cond_dec (ht:=fun _ => ?_) (hf:=fun _ => ?_)<;> (try first | contradiction | (exfalso; omega))))
    exact ⟨rfl, hm.kept⟩
  · have he : T.tok i = ⟨0, [], T.size⟩ := Sp.tok_end (by omega)
    rw [he]
    repeat' (first
    | (refine m_allocS (d:=4) hm (k:=?_); clear hm; intro b4 _ hm)
    | refine i_load1 hm (k:=?_)
    | (refine m_storeAll hm (k:=?_); clear hm; intro _ hm; try simp only [setn] at hm)
    | refine m_ret_agg hm (h:=?_)
    | refine op_move (k:=?_)
    | refine op_lss (k:=?_)
    | refine op_len_slice (k:=?_)
    | refine op_nilCheck (k:=?_)
    | refine op_fieldAddr (k:=?_)
    | refine op_struct (k:=?_)
    | refine wl_nil ?_
    | refine at_then_normal ?_
    | refine wc_seq ?_
    | refine wc_region ?_
    | refine wc_skip ?_
    | refine wc_ret ?_
    | (refine wc_cond_dec (ht:=fun _ => ?_) (hf:=fun _ => ?_)<;> (try first | contradiction | (exfalso; omega))))
    exact ⟨rfl, hm.kept⟩

theorem c_is (i : Nat) (s : List UInt8) (hr : TokR I T la lc) : CalR Try.prog 34 #[ptr pb, nt i, str s] I (PSt pb la lc T ds deep da dc) (.bool (T.is i s)) := by
  refine CalR.of fun w J hm hl hH hJ => enter (N := 26) Try.func34 rfl [(0, ptr pb), (1, nt i), (2, str s)] args3 rfl ?_
  have hp := immOf_ptr (hH _ List.mem_cons_self)
  rw [← hJ] at hp
  replace hr := hr.le hl
  by_cases hi : i < T.l.length
  · have htk := tok_get hi
    repeat' (first
    | (refine i_indexFlat (hr:=by exact hr) (he:=by intro _; rfl) (hz:=by exact htk) (k:=?_); intro b1 o1 hp1)
    | refine i_load1 hm (k:=?_)
    | refine op_move (k:=?_)
    | refine op_assign (k:=?_)
    | refine op_pick_true (k:=?_)
    | refine op_lss (k:=?_)
    | refine op_eql_str (k:=?_)
    | refine op_len_slice (k:=?_)
    | refine op_nilCheck (k:=?_)
    | refine op_fieldAddr (k:=?_)
    | (refine wl_split_dec (h1:=fun _ => ?_) (h0:=fun _ => ?_)<;> (try first | contradiction | (exfalso; omega)))
    | refine wl_nil ?_
    | refine at_then_normal ?_
    | refine wc_seq ?_
    | refine wc_region ?_
    | refine wc_ret ?_
    | refine at_ret1 (h:=?_))
    refine ⟨congrArg Value.bool ?_, hm.kept⟩
    rw [Sp.Src.is, decide_eq_true hi, Bool.true_and]
  · skip
    repeat' (first
    | refine i_load1 hm (k:=?_)
    | refine op_move (k:=?_)
    | refine op_assign (k:=?_)
    | refine op_pick_false (k:=?_)
    | refine op_lss (k:=?_)
    | refine op_len_slice (k:=?_)
    | refine op_nilCheck (k:=?_)
    | refine op_fieldAddr (k:=?_)
    | refine wl_skip (k:=?_)
    | (refine wl_split_dec (h1:=fun _ => ?_) (h0:=fun _ => ?_)<;> (try first | contradiction | (exfalso; omega)))
    | refine wl_nil ?_
    | refine at_then_normal ?_
    | refine wc_seq ?_
    | refine wc_region ?_
    | refine wc_ret ?_
    | refine at_ret1 (h:=?_))
    refine ⟨congrArg Value.bool ?_, hm.kept⟩
    rw [Sp.Src.is, decide_eq_false hi, Bool.false_and]

theorem c_end (i : Nat) (hr : TokR I T la lc) (hT : Ok T) (hi : i ≤ T.l.length) : CalR Try.prog 79 #[ptr pb, nt i] I (PSt pb la lc T ds deep da dc) (nt (T.endOf i)) := by
  refine CalR.of fun w J hm hl hH hJ => enter (N := 27) Try.func79 rfl [(0, ptr pb), (1, nt i)] args2 rfl ?_
  have hp := immOf_ptr (hH _ List.mem_cons_self)
  rw [← hJ] at hp
  replace hr := hr.le hl
  have h1 := hT.at_ (i - 1)
  have h2 := hT.size
  have h3 := hT.len
  by_cases h0 : i = 0
  · subst h0
    repeat' (first
    | refine op_move (k:=?_)
    | refine op_assign (k:=?_)
    | refine op_eql (k:=?_)
    | refine wl_nil ?_
    | refine at_then_normal ?_
    | refine at_then_ret ?_
    | refine wc_seq ?_
    | refine wc_region ?_
    | refine wc_ret ?_
    | refine at_ret1 (h:=?_)
    | refine wc_cond_true (ht:=?_))
    exact ⟨rfl, hm.kept⟩
  · have hlt : i - 1 < T.l.length := by omega
    have htk := tok_get hlt
    repeat' (first
    | (refine iq_indexFlat (hr:=by exact hr) (he:=by intro _; rfl) (hz:=by rw [show ((i : Int) - 1).toNat = i - 1 by omega]; exact htk) (k:=?_); intro b1 o1 hp1)
    | refine iq_load1 hm (k:=?_)
    | refine op_move (k:=?_)
    | refine op_assign (k:=?_)
    | refine op_eql (k:=?_)
    | refine wl_nil ?_
    | refine at_then_normal ?_
    | refine wc_seq ?_
    | refine wc_region ?_
    | refine wc_skip ?_
    | refine wc_ret ?_
    | refine at_ret1 (h:=?_)
    | refine wc_quiet (h:=?_)
    | (refine wq_nil ?_; intro _ hkq; replace hm := hm.kept0 hkq; clear hkq)
    | (refine wc_cond_dec (ht:=fun _ => ?_) (hf:=fun _ => ?_)<;> (try first | contradiction | (exfalso; omega)))
    | refine q_move (k:=?_)
    | refine q_assign (k:=?_)
    | refine q_len_str (k:=?_)
    | refine q_nilCheck (k:=?_)
    | refine q_add (k:=?_)
    | refine q_sub (k:=?_)
    | refine q_fieldAddr (k:=?_))
    refine ⟨?_, hm.kept⟩
    rw [Sp.Src.endOf, if_neg h0, nt, Int.natCast_add]
end
end Go.Proofs.Ytjfkjpbkmpofkaa
end
