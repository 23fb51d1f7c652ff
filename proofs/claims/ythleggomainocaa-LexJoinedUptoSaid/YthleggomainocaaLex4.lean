/- Own work: where items begin. -/
import Derived.Test.YthleggomainocaaLex3
import Derived.Test.YthleggomainocaaSpecCuts
namespace Go.Proofs.Ythleggomainocaa
open Go.Fw
def encInt (n : Nat) : List Value := [.int .i64 (n : Int)]
theorem encInt_len (l : List Nat) : (l.flatMap encInt).length = l.length * 1 := by
  induction l with
  | nil => rfl
  | cons t l ih => simp only [List.flatMap_cons, List.length_append, ih, List.length_cons, encInt]; simp; omega
theorem encTok_get (l : List Sp.Tok) (k : Nat) (t : Sp.Tok) (h : l[k]? = some t) (j : Nat) (v : Value) (hv : (encTok t)[j]? = some v) : (l.flatMap encTok)[k * 3 + j]? = some v := by
  induction l generalizing k with
  | nil => simp at h
  | cons a l ih =>
    have hj : j < 3 := by
      have := (List.getElem?_eq_some_iff.1 hv).1
      simpa [encTok] using this
    cases k with
    | zero =>
      simp at h
      subst h
      rw [List.flatMap_cons, List.getElem?_append_left (by simp [encTok]; omega)]
      simpa using hv
    | succ k =>
      rw [List.flatMap_cons, List.getElem?_append_right (by simp [encTok]; omega)]
      have := ih k (by simpa using h)
      rw [← this]
      congr 1
      simp [encTok]; omega
structure CLoop where
  at_ : Nat
  out : Value
  acc : List Nat
theorem toks_len (s : List UInt8) : (Sp.tokens s).length ≤ s.length := by
  have key : ∀ (n k : Nat), s.length - k = n → (Sp.toksAt s k).length ≤ n := by
    intro n
    induction n using Nat.strongRecOn with
    | _ n ih =>
      intro k hn
      by_cases h : k < s.length
      · have hl := Sp.one_le (s.drop k) (by simp; omega)
        simp only [List.length_drop] at hl
        have := ih (s.length - (k + (Sp.one (s.drop k)).2)) (by omega) _ rfl
        rw [Sp.toksAt_step s k h, List.length_append]
        split
        · simp; omega
        · simp; omega
      · rw [Sp.toksAt_end s k (by omega)]; simp
  have := key _ 0 rfl
  rw [Sp.tokens_eq]; simpa using this
set_option maxHeartbeats 1000000 in
theorem c_cuts (s : List UInt8) (hl : s.length ≤ 1099511627776) (w : World) :
    Cal Try.prog 6 #[str s] w fun v w' => w'.ownsRow w.heap.size 3 1 v (Sp.cuts s).length ((Sp.cuts s).flatMap encInt) ∧ Kept [] w w' := by
  refine enter (N := 53) Try.func6 rfl [(0, str s)] args1 rfl ?_
  repeat' (first
    | (refine op_call (by rfl) (by rfl) (by rfl) (by exact c_tokens s hl _) ?_; rintro tv w1 ⟨htv, hk1⟩; obtain ⟨ta, tc, rfl⟩ := own_val htv)
    | refine op_move (by rfl) (by rfl) (by rfl) ?_
    | refine op_assign (by rfl) (by rfl) (by rfl) ?_
    | refine op_pick_true (by rfl) (by rfl) (by rfl) (by rfl) ?_
    | refine op_pick_false (by rfl) (by rfl) (by rfl) (by rfl) ?_
    | refine op_lss (by rfl) (by rfl) (by rfl) (by rfl) ?_
    | refine op_eql (by rfl) (by rfl) (by rfl) (by rfl) ?_
    | refine op_eql_str (by rfl) (by rfl) (by rfl) (by rfl) ?_
    | refine op_eql_bool (by rfl) (by rfl) (by rfl) (by rfl) ?_
    | refine op_eql_flat (by rfl) (by rfl) (by rfl) (by rfl) (by rfl) (by rfl) ?_
    | refine op_len_str (by rfl) (by rfl) (by rfl) ?_
    | refine op_len_slice (by rfl) (by rfl) (by rfl) ?_
    | refine op_add (by rfl) (by rfl) (by rfl) (by rfl) (by omega) ?_
    | refine op_sub (by rfl) (by rfl) (by rfl) (by rfl) (by omega) ?_
    | refine op_index_str (by rfl) (by rfl) (by rfl) (by rfl) (by omega) (by omega) ?_
    | refine op_fieldAddr (by rfl) (by rfl) (by rfl) ?_
    | refine op_indexAddr (by rfl) (by rfl) (by rfl) (by rfl) (by omega) (by omega) ?_
    | refine op_load1 (by rfl) (by rfl) (by rfl) (by assumption) (by rfl) ?_
    | refine wl_skip (by rfl) (by rfl) (by rfl) ?_
    | (refine wl_split_dec (by rfl) (by rfl) (by rfl) (fun _ => ?_) (fun _ => ?_) <;> (try first | contradiction | (exfalso; omega)))
    | refine wl_split (by rfl) (by rfl) (by rfl) (fun _ => ?_) (fun _ => ?_)
    | refine wl_nil ?_
    | refine at_then_normal ?_
    | refine at_then_ret ?_
    | refine at_then_exit ?_
    | refine at_block_normal ?_
    | refine at_block_ret ?_
    | refine at_block_exit ?_
    | refine at_block_other (by rfl) ?_
    | refine wc_seq ?_
    | refine wc_region ?_
    | refine wc_block ?_
    | refine wc_skip ?_
    | refine wc_exit ?_
    | refine wc_ret ?_
    | refine at_ret1 (by rfl) (by rfl) ?_
    | refine wc_cond_true (by rfl) ?_
    | refine wc_cond_false (by rfl) ?_
    | (refine wc_cond_dec (by rfl) (fun _ => ?_) (fun _ => ?_) <;> (try first | contradiction | (exfalso; omega)))
    | refine wc_cond (by rfl) (fun _ => ?_) (fun _ => ?_))
  have htl := toks_len s
  refine wc_loop (fun x : CLoop => [(0, str s), (3, x.out), (8, .slice ta (Sp.tokens s).length tc), (9, .int .i64 ((Sp.tokens s).length : Int)), (10, .int .i64 (x.at_ : Int))])
    (fun x w' => x.at_ ≤ (Sp.tokens s).length ∧ x.acc.length ≤ x.at_ ∧ x.acc = ((Sp.tokens s).take x.at_).foldl (Sp.cutStep s) [] ∧ w'.ownsRow w1.heap.size 3 1 x.out x.acc.length (x.acc.flatMap encInt) ∧ Kept [] w1 w')
    (fun x => (Sp.tokens s).length - x.at_) ⟨0, .slice none 0 0, []⟩ ⟨rfl, rfl, rfl, rfl, rfl, trivial⟩ ⟨by simp, by simp, by simp, World.ownsRow_nil _ _ _ _, Kept.refl _ _⟩ ?_
  rintro ⟨k, out, acc⟩ w2 ⟨hk, hacc, heq, hown, hkept⟩
  dsimp only at hk hacc heq hown hkept ⊢
  by_cases hlt : k < (Sp.tokens s).length
  · obtain ⟨g, cap, cur, htve, hbg, hg, hcap, hcur, hsz⟩ := own_open htv (by omega)
    injection htve with e1 e2 e3
    subst e1
    have hg2 := hkept.get0 hg
    have htok : (Sp.tokens s)[k]? = some (Sp.tokens s)[k] := List.getElem?_eq_getElem hlt
    have hok := Sp.tokens_ok s _ (List.getElem_mem hlt)
    have hfold := Sp.fold_take (Sp.cutStep s) [] _ _ _ htok
    have hcell : ∀ (j : Nat) (v : Value), (encTok (Sp.tokens s)[k])[j]? = some v → cur[0 + (k : Int).toNat * 3 + j]? = some v := fun j v hv => by
      rw [show 0 + (k : Int).toNat * 3 + j = k * 3 + j by omega]
      exact hcur _ _ (encTok_get _ _ _ htok j v hv)
    generalize (Sp.tokens s)[k] = t at htok hok hfold hcell
    have hp1 := hok.pos
    obtain ⟨oa, oc, rfl⟩ := own_val hown
    repeat' (first
      | (refine op_loadN (vs := encTok t) (by rfl) (by rfl) (by rfl) hg2 (by rfl) hcell ?_)
      | (refine op_var (by rfl) (by rfl) (by rfl) (by rfl) (by rfl) ?_; intro b w3 hbe hb hkb)
      | (refine op_append1 (by rfl) (by rfl) (by rfl) (by rfl) (by rfl) (by exact hkb.own hown (by simp)) (by rfl) (by rfl) (by omega) (by omega) (by omega) (by have := hkept.size; have := hkb.size; omega) ?_; intro v3 w4 hown3 hk3 hb3)
      | refine op_move (by rfl) (by rfl) (by rfl) ?_
      | refine op_assign (by rfl) (by rfl) (by rfl) ?_
      | refine op_pick_true (by rfl) (by rfl) (by rfl) (by rfl) ?_
      | refine op_pick_false (by rfl) (by rfl) (by rfl) (by rfl) ?_
      | refine op_lss (by rfl) (by rfl) (by rfl) (by rfl) ?_
      | refine op_eql (by rfl) (by rfl) (by rfl) (by rfl) ?_
      | refine op_eql_str (by rfl) (by rfl) (by rfl) (by rfl) ?_
      | refine op_eql_bool (by rfl) (by rfl) (by rfl) (by rfl) ?_
      | refine op_eql_flat (by rfl) (by rfl) (by rfl) (by rfl) (by rfl) (by rfl) ?_
      | refine op_len_str (by rfl) (by rfl) (by rfl) ?_
      | refine op_len_slice (by rfl) (by rfl) (by rfl) ?_
      | refine op_add (by rfl) (by rfl) (by rfl) (by rfl) (by omega) ?_
      | refine op_sub (by rfl) (by rfl) (by rfl) (by rfl) (by omega) ?_
      | refine op_index_str (by rfl) (by rfl) (by rfl) (by rfl) (by omega) (by omega) ?_
      | refine op_fieldAddr (by rfl) (by rfl) (by rfl) ?_
      | refine op_indexAddr (by rfl) (by rfl) (by rfl) (by rfl) (by omega) (by omega) ?_
      | refine op_load1 (by rfl) (by rfl) (by rfl) (by assumption) (by rfl) ?_
      | refine wl_skip (by rfl) (by rfl) (by rfl) ?_
      | (refine wl_split_dec (by rfl) (by rfl) (by rfl) (fun _ => ?_) (fun _ => ?_) <;> (try first | contradiction | (exfalso; omega)))
      | refine wl_split (by rfl) (by rfl) (by rfl) (fun _ => ?_) (fun _ => ?_)
      | refine wl_nil ?_
      | refine at_then_normal ?_
      | refine at_then_ret ?_
      | refine at_then_exit ?_
      | refine at_block_normal ?_
      | refine at_block_ret ?_
      | refine at_block_exit ?_
      | refine at_block_other (by rfl) ?_
      | refine wc_seq ?_
      | refine wc_region ?_
      | refine wc_block ?_
      | refine wc_skip ?_
      | refine wc_exit ?_
      | refine wc_ret ?_
      | refine at_ret1 (by rfl) (by rfl) ?_
      | refine wc_cond_true (by rfl) ?_
      | refine wc_cond_false (by rfl) ?_
      | (refine wc_cond_dec (by rfl) (fun _ => ?_) (fun _ => ?_) <;> (try first | contradiction | (exfalso; omega)))
      | refine wc_cond (by rfl) (fun _ => ?_) (fun _ => ?_))
    all_goals
      have e10 : ((t.pos : Int) - 1).toNat = t.pos - 1 := by omega
      rw [← heq] at hfold
    all_goals first
      | (have hst : Sp.begins s t = true ∨ acc = [] := by
          simp only [Sp.begins, Bool.and_eq_true, Bool.or_eq_true, decide_eq_true_eq, ← e10]
          simp only [Sp.wFn, Sp.wChan]
          first
            | exact .inr (List.eq_nil_of_length_eq_zero (by omega))
            | exact .inl ⟨⟨by omega, .inl (by assumption)⟩, by omega⟩
            | exact .inl ⟨⟨by omega, .inr (by assumption)⟩, by omega⟩
         rw [Sp.cutStep, if_pos hst] at hfold
         refine at_round (⟨k + 1, v3, acc ++ [t.pos]⟩ : CLoop) (by exact ⟨rfl, rfl, rfl, rfl, rfl, trivial⟩) ?_ (by dsimp only; omega)
         refine ⟨by dsimp only; omega, by simp; omega, hfold.symm, ?_, ?_⟩
         · simpa [encInt, List.flatMap_append, Value.cells, encTok] using hown3
         · exact (hkept.step0 hkb).step hk3 (fun x hx => .inr (by
            cases oa with
            | none => simp [Value.ownBlock] at hx
            | some a => simp [Value.ownBlock] at hx; subst hx; exact (hown.lt _ rfl).1)))
      | (have hst : ¬ (Sp.begins s t = true ∨ acc = []) := by
          rintro (h | h)
          · simp only [Sp.begins, Bool.and_eq_true, Bool.or_eq_true, decide_eq_true_eq, ← e10] at h
            simp only [Sp.wFn, Sp.wChan] at h
            obtain ⟨⟨h1, h2⟩, h3⟩ := h
            rcases h2 with h2 | h2 <;> first | omega | exact absurd h2 (by assumption)
          · have h0 : acc.length = 0 := by rw [h]; rfl
            omega
         rw [Sp.cutStep, if_neg hst] at hfold
         refine at_round (⟨k + 1, .slice oa acc.length oc, acc⟩ : CLoop) (by exact ⟨rfl, rfl, rfl, rfl, rfl, trivial⟩) ?_ (by dsimp only; omega)
         exact ⟨by dsimp only; omega, by dsimp only; omega, hfold.symm, hkb.own hown (by simp), hkept.step0 hkb⟩)
  · have hkk : k = (Sp.tokens s).length := by omega
    have hcs : Sp.cuts s = acc := by rw [heq, hkk, List.take_length]; rfl
    repeat' (first
      | refine op_move (by rfl) (by rfl) (by rfl) ?_
      | refine op_assign (by rfl) (by rfl) (by rfl) ?_
      | refine op_pick_true (by rfl) (by rfl) (by rfl) (by rfl) ?_
      | refine op_pick_false (by rfl) (by rfl) (by rfl) (by rfl) ?_
      | refine op_lss (by rfl) (by rfl) (by rfl) (by rfl) ?_
      | refine op_eql (by rfl) (by rfl) (by rfl) (by rfl) ?_
      | refine op_eql_str (by rfl) (by rfl) (by rfl) (by rfl) ?_
      | refine op_eql_bool (by rfl) (by rfl) (by rfl) (by rfl) ?_
      | refine op_eql_flat (by rfl) (by rfl) (by rfl) (by rfl) (by rfl) (by rfl) ?_
      | refine op_len_str (by rfl) (by rfl) (by rfl) ?_
      | refine op_len_slice (by rfl) (by rfl) (by rfl) ?_
      | refine op_add (by rfl) (by rfl) (by rfl) (by rfl) (by omega) ?_
      | refine op_sub (by rfl) (by rfl) (by rfl) (by rfl) (by omega) ?_
      | refine op_index_str (by rfl) (by rfl) (by rfl) (by rfl) (by omega) (by omega) ?_
      | refine op_fieldAddr (by rfl) (by rfl) (by rfl) ?_
      | refine op_indexAddr (by rfl) (by rfl) (by rfl) (by rfl) (by omega) (by omega) ?_
      | refine op_load1 (by rfl) (by rfl) (by rfl) (by assumption) (by rfl) ?_
      | refine wl_skip (by rfl) (by rfl) (by rfl) ?_
      | (refine wl_split_dec (by rfl) (by rfl) (by rfl) (fun _ => ?_) (fun _ => ?_) <;> (try first | contradiction | (exfalso; omega)))
      | refine wl_split (by rfl) (by rfl) (by rfl) (fun _ => ?_) (fun _ => ?_)
      | refine wl_nil ?_
      | refine at_then_normal ?_
      | refine at_then_ret ?_
      | refine at_then_exit ?_
      | refine at_block_normal ?_
      | refine at_block_ret ?_
      | refine at_block_exit ?_
      | refine at_block_other (by rfl) ?_
      | refine wc_seq ?_
      | refine wc_region ?_
      | refine wc_block ?_
      | refine wc_skip ?_
      | refine wc_exit ?_
      | refine wc_ret ?_
      | refine at_ret1 (by rfl) (by rfl) ?_
      | refine wc_cond_true (by rfl) ?_
      | refine wc_cond_false (by rfl) ?_
      | (refine wc_cond_dec (by rfl) (fun _ => ?_) (fun _ => ?_) <;> (try first | contradiction | (exfalso; omega)))
      | refine wc_cond (by rfl) (fun _ => ?_) (fun _ => ?_))
    rw [hcs]
    exact ⟨ownsRow_base hown hk1.size, hk1.trans hkept⟩
/-! the reference's -/
structure RCLoop where
  at_ : Nat
  out : Value
  acc : List Nat
set_option maxHeartbeats 1000000 in
theorem c_rcuts (s : List UInt8) (hl : s.length ≤ 1099511627776) (w : World) :
    Cal Try.prog 7 #[str s] w fun v w' => w'.ownsRow w.heap.size 3 1 v (Sp.cuts s).length ((Sp.cuts s).flatMap encInt) ∧ Kept [] w w' := by
  rw [← Sp.rcuts_eq]
  refine enter (N := 41) Try.func7 rfl [(0, str s)] args1 rfl ?_
  repeat' (first
    | (refine op_call (by rfl) (by rfl) (by rfl) (by exact c_rtokens s hl _) ?_; rintro tv w1 ⟨htv, hk1⟩; rw [Sp.rtokens_eq] at htv; obtain ⟨ta, tc, rfl⟩ := own_val htv)
    | refine op_move (by rfl) (by rfl) (by rfl) ?_
    | refine op_assign (by rfl) (by rfl) (by rfl) ?_
    | refine op_pick_true (by rfl) (by rfl) (by rfl) (by rfl) ?_
    | refine op_pick_false (by rfl) (by rfl) (by rfl) (by rfl) ?_
    | refine op_lss (by rfl) (by rfl) (by rfl) (by rfl) ?_
    | refine op_eql (by rfl) (by rfl) (by rfl) (by rfl) ?_
    | refine op_eql_str (by rfl) (by rfl) (by rfl) (by rfl) ?_
    | refine op_eql_bool (by rfl) (by rfl) (by rfl) (by rfl) ?_
    | refine op_eql_flat (by rfl) (by rfl) (by rfl) (by rfl) (by rfl) (by rfl) ?_
    | refine op_len_str (by rfl) (by rfl) (by rfl) ?_
    | refine op_len_slice (by rfl) (by rfl) (by rfl) ?_
    | refine op_add (by rfl) (by rfl) (by rfl) (by rfl) (by omega) ?_
    | refine op_sub (by rfl) (by rfl) (by rfl) (by rfl) (by omega) ?_
    | refine op_index_str (by rfl) (by rfl) (by rfl) (by rfl) (by omega) (by omega) ?_
    | refine op_fieldAddr (by rfl) (by rfl) (by rfl) ?_
    | refine op_indexAddr (by rfl) (by rfl) (by rfl) (by rfl) (by omega) (by omega) ?_
    | refine op_load1 (by rfl) (by rfl) (by rfl) (by assumption) (by rfl) ?_
    | refine wl_skip (by rfl) (by rfl) (by rfl) ?_
    | (refine wl_split_dec (by rfl) (by rfl) (by rfl) (fun _ => ?_) (fun _ => ?_) <;> (try first | contradiction | (exfalso; omega)))
    | refine wl_split (by rfl) (by rfl) (by rfl) (fun _ => ?_) (fun _ => ?_)
    | refine wl_nil ?_
    | refine at_then_normal ?_
    | refine at_then_ret ?_
    | refine at_then_exit ?_
    | refine at_block_normal ?_
    | refine at_block_ret ?_
    | refine at_block_exit ?_
    | refine at_block_other (by rfl) ?_
    | refine wc_seq ?_
    | refine wc_region ?_
    | refine wc_block ?_
    | refine wc_skip ?_
    | refine wc_exit ?_
    | refine wc_ret ?_
    | refine at_ret1 (by rfl) (by rfl) ?_
    | refine wc_cond_true (by rfl) ?_
    | refine wc_cond_false (by rfl) ?_
    | (refine wc_cond_dec (by rfl) (fun _ => ?_) (fun _ => ?_) <;> (try first | contradiction | (exfalso; omega)))
    | refine wc_cond (by rfl) (fun _ => ?_) (fun _ => ?_))
  have htl := toks_len s
  refine wc_loop (fun x : RCLoop => [(0, str s), (3, x.out), (7, .slice ta (Sp.tokens s).length tc), (8, .int .i64 ((Sp.tokens s).length : Int)), (9, .int .i64 (x.at_ : Int))])
    (fun x w' => x.at_ ≤ (Sp.tokens s).length ∧ x.acc.length ≤ x.at_ ∧ (x.at_, x.acc) = ((Sp.tokens s).take x.at_).foldl (Sp.rcutStep s) (0, []) ∧ w'.ownsRow w1.heap.size 3 1 x.out x.acc.length (x.acc.flatMap encInt) ∧ Kept [] w1 w')
    (fun x => (Sp.tokens s).length - x.at_) ⟨0, .slice none 0 0, []⟩ ⟨rfl, rfl, rfl, rfl, rfl, trivial⟩ ⟨by simp, by simp, by simp, World.ownsRow_nil _ _ _ _, Kept.refl _ _⟩ ?_
  rintro ⟨k, out, acc⟩ w2 ⟨hk, hacc, heq, hown, hkept⟩
  dsimp only at hk hacc heq hown hkept ⊢
  by_cases hlt : k < (Sp.tokens s).length
  · obtain ⟨g, cap, cur, htve, hbg, hg, hcap, hcur, hsz⟩ := own_open htv (by omega)
    injection htve with e1 e2 e3
    subst e1
    have hg2 := hkept.get0 hg
    have htok : (Sp.tokens s)[k]? = some (Sp.tokens s)[k] := List.getElem?_eq_getElem hlt
    have hok := Sp.tokens_ok s _ (List.getElem_mem hlt)
    have hfold := Sp.fold_take (Sp.rcutStep s) (0, []) _ _ _ htok
    have hp0 : k ≠ 0 → (Sp.tokens s)[k].pos ≠ 0 := fun h0 => by
      have h1 := List.pairwise_iff_getElem.1 (Sp.tokens_sorted s) 0 k (by omega) (by omega) (by omega)
      have h2 := (Sp.tokens_ok s _ (List.getElem_mem (show 0 < (Sp.tokens s).length by omega))).len
      omega
    have hcell : ∀ (j : Nat) (v : Value), (encTok (Sp.tokens s)[k])[j]? = some v → cur[0 + (k : Int).toNat * 3 + j]? = some v := fun j v hv => by
      rw [show 0 + (k : Int).toNat * 3 + j = k * 3 + j by omega]
      exact hcur _ _ (encTok_get _ _ _ htok j v hv)
    generalize (Sp.tokens s)[k] = t at htok hok hfold hcell hp0
    have hp1 := hok.pos
    obtain ⟨oa, oc, rfl⟩ := own_val hown
    by_cases hk0 : k = 0
    all_goals
      have hp2 : k ≠ 0 → 1 ≤ t.pos := fun h => by have := hp0 h; omega
      repeat' (first
        | (refine op_loadN (vs := encTok t) (by rfl) (by rfl) (by rfl) hg2 (by rfl) hcell ?_)
        | (refine op_alloc (by rfl) (by rfl) ?_; intro b wa zc hbe hzs hba hka)
        | (refine op_store_all (by rfl) (by rfl) (by rfl) (by rfl) hba (by rfl) hzs (by rfl) ?_; intro w3 hb hks; have hkb : Kept [] w2 w3 := hka.step hks (fun x hx => .inr (by simp at hx; omega)))
        | (refine op_append1 (by rfl) (by rfl) (by rfl) (by rfl) (by rfl) (by exact hkb.own hown (by simp)) (by rfl) (by rfl) (by omega) (by omega) (by omega) (by have := hkept.size; have := hkb.size; omega) ?_; intro v3 w4 hown3 hk3 hb3)
        | refine op_move (by rfl) (by rfl) (by rfl) ?_
        | refine op_assign (by rfl) (by rfl) (by rfl) ?_
        | refine op_pick_true (by rfl) (by rfl) (by rfl) (by rfl) ?_
        | refine op_pick_false (by rfl) (by rfl) (by rfl) (by rfl) ?_
        | refine op_lss (by rfl) (by rfl) (by rfl) (by rfl) ?_
        | refine op_eql (by rfl) (by rfl) (by rfl) (by rfl) ?_
        | refine op_eql_str (by rfl) (by rfl) (by rfl) (by rfl) ?_
        | refine op_eql_bool (by rfl) (by rfl) (by rfl) (by rfl) ?_
        | refine op_eql_flat (by rfl) (by rfl) (by rfl) (by rfl) (by rfl) (by rfl) ?_
        | refine op_len_str (by rfl) (by rfl) (by rfl) ?_
        | refine op_len_slice (by rfl) (by rfl) (by rfl) ?_
        | refine op_add (by rfl) (by rfl) (by rfl) (by rfl) (by omega) ?_
        | refine op_sub (by rfl) (by rfl) (by rfl) (by rfl) (by omega) ?_
        | refine op_index_str (by rfl) (by rfl) (by rfl) (by rfl) (by omega) (by omega) ?_
        | refine op_fieldAddr (by rfl) (by rfl) (by rfl) ?_
        | refine op_indexAddr (by rfl) (by rfl) (by rfl) (by rfl) (by omega) (by omega) ?_
        | refine op_load1 (by rfl) (by rfl) (by rfl) (by assumption) (by rfl) ?_
        | refine wl_skip (by rfl) (by rfl) (by rfl) ?_
        | (refine wl_split_dec (by rfl) (by rfl) (by rfl) (fun _ => ?_) (fun _ => ?_) <;> (try first | contradiction | (exfalso; omega)))
        | refine wl_split (by rfl) (by rfl) (by rfl) (fun _ => ?_) (fun _ => ?_)
        | refine wl_nil ?_
        | refine at_then_normal ?_
        | refine at_then_ret ?_
        | refine at_then_exit ?_
        | refine at_block_normal ?_
        | refine at_block_ret ?_
        | refine at_block_exit ?_
        | refine at_block_other (by rfl) ?_
        | refine wc_seq ?_
        | refine wc_region ?_
        | refine wc_block ?_
        | refine wc_skip ?_
        | refine wc_exit ?_
        | refine wc_ret ?_
        | refine at_ret1 (by rfl) (by rfl) ?_
        | refine wc_cond_true (by rfl) ?_
        | refine wc_cond_false (by rfl) ?_
        | (refine wc_cond_dec (by rfl) (fun _ => ?_) (fun _ => ?_) <;> (try first | contradiction | (exfalso; omega)))
        | refine wc_cond (by rfl) (fun _ => ?_) (fun _ => ?_))
    all_goals
      have e10 : ((t.pos : Int) - 1).toNat = t.pos - 1 := by omega
      rw [← heq] at hfold
    all_goals first
      | (have hst : k = 0 ∨ ((t.text = Sp.wFn ∨ t.text = Sp.wChan) ∧ (s.getD (t.pos - 1) 0).toNat = 10) := by
          rw [← e10]
          simp only [Sp.wFn, Sp.wChan]
          first
            | exact .inl (by omega)
            | exact .inr ⟨.inl (by assumption), by omega⟩
            | exact .inr ⟨.inr (by assumption), by omega⟩
         rw [Sp.rcutStep] at hfold
         dsimp only at hfold
         rw [if_pos hst] at hfold
         refine at_round (⟨k + 1, v3, acc ++ [t.pos]⟩ : RCLoop) (by exact ⟨rfl, rfl, rfl, rfl, rfl, trivial⟩) ?_ (by dsimp only; omega)
         refine ⟨by dsimp only; omega, by simp; omega, hfold.symm, ?_, ?_⟩
         · simpa [encInt, List.flatMap_append, Value.cells, encTok] using hown3
         · exact (hkept.step0 hkb).step hk3 (fun x hx => .inr (by
            cases oa with
            | none => simp [Value.ownBlock] at hx
            | some a => simp [Value.ownBlock] at hx; subst hx; exact (hown.lt _ rfl).1)))
      | (have hst : ¬ (k = 0 ∨ ((t.text = Sp.wFn ∨ t.text = Sp.wChan) ∧ (s.getD (t.pos - 1) 0).toNat = 10)) := by
          rw [← e10]
          simp only [Sp.wFn, Sp.wChan]
          rintro (h | ⟨h1, h2⟩)
          · omega
          · rcases h1 with h1 | h1 <;> first | omega | exact absurd h1 (by assumption)
         rw [Sp.rcutStep] at hfold
         dsimp only at hfold
         rw [if_neg hst] at hfold
         refine at_round (⟨k + 1, .slice oa acc.length oc, acc⟩ : RCLoop) (by exact ⟨rfl, rfl, rfl, rfl, rfl, trivial⟩) ?_ (by dsimp only; omega)
         exact ⟨by dsimp only; omega, by dsimp only; omega, hfold.symm, hkb.own hown (by simp), hkept.step0 hkb⟩)
  · have hkk : k = (Sp.tokens s).length := by omega
    have hcs : Sp.rcuts s = acc := by rw [hkk, List.take_length] at heq; rw [Sp.rcuts, ← heq]
    repeat' (first
      | refine op_move (by rfl) (by rfl) (by rfl) ?_
      | refine op_assign (by rfl) (by rfl) (by rfl) ?_
      | refine op_pick_true (by rfl) (by rfl) (by rfl) (by rfl) ?_
      | refine op_pick_false (by rfl) (by rfl) (by rfl) (by rfl) ?_
      | refine op_lss (by rfl) (by rfl) (by rfl) (by rfl) ?_
      | refine op_eql (by rfl) (by rfl) (by rfl) (by rfl) ?_
      | refine op_eql_str (by rfl) (by rfl) (by rfl) (by rfl) ?_
      | refine op_eql_bool (by rfl) (by rfl) (by rfl) (by rfl) ?_
      | refine op_eql_flat (by rfl) (by rfl) (by rfl) (by rfl) (by rfl) (by rfl) ?_
      | refine op_len_str (by rfl) (by rfl) (by rfl) ?_
      | refine op_len_slice (by rfl) (by rfl) (by rfl) ?_
      | refine op_add (by rfl) (by rfl) (by rfl) (by rfl) (by omega) ?_
      | refine op_sub (by rfl) (by rfl) (by rfl) (by rfl) (by omega) ?_
      | refine op_index_str (by rfl) (by rfl) (by rfl) (by rfl) (by omega) (by omega) ?_
      | refine op_fieldAddr (by rfl) (by rfl) (by rfl) ?_
      | refine op_indexAddr (by rfl) (by rfl) (by rfl) (by rfl) (by omega) (by omega) ?_
      | refine op_load1 (by rfl) (by rfl) (by rfl) (by assumption) (by rfl) ?_
      | refine wl_skip (by rfl) (by rfl) (by rfl) ?_
      | (refine wl_split_dec (by rfl) (by rfl) (by rfl) (fun _ => ?_) (fun _ => ?_) <;> (try first | contradiction | (exfalso; omega)))
      | refine wl_split (by rfl) (by rfl) (by rfl) (fun _ => ?_) (fun _ => ?_)
      | refine wl_nil ?_
      | refine at_then_normal ?_
      | refine at_then_ret ?_
      | refine at_then_exit ?_
      | refine at_block_normal ?_
      | refine at_block_ret ?_
      | refine at_block_exit ?_
      | refine at_block_other (by rfl) ?_
      | refine wc_seq ?_
      | refine wc_region ?_
      | refine wc_block ?_
      | refine wc_skip ?_
      | refine wc_exit ?_
      | refine wc_ret ?_
      | refine at_ret1 (by rfl) (by rfl) ?_
      | refine wc_cond_true (by rfl) ?_
      | refine wc_cond_false (by rfl) ?_
      | (refine wc_cond_dec (by rfl) (fun _ => ?_) (fun _ => ?_) <;> (try first | contradiction | (exfalso; omega)))
      | refine wc_cond (by rfl) (fun _ => ?_) (fun _ => ?_))
    rw [hcs]
    exact ⟨ownsRow_base hown hk1.size, hk1.trans hkept⟩
end Go.Proofs.Ythleggomainocaa
