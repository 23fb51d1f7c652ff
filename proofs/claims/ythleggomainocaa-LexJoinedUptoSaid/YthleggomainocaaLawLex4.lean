/- Own work: the statements about chapter 2: LexJoined. -/
import Derived.Test.YthleggomainocaaLawLex3
import Derived.Test.YthleggomainocaaSpecJoin
namespace Go.Proofs.Ythleggomainocaa
open Go.Fw

theorem enc_len (l : List Sp.Tok) : (l.flatMap encTok).length = l.length * 3 := by
  induction l with
  | nil => rfl
  | cons a l ih => rw [List.flatMap_cons, List.length_append, ih, List.length_cons, show (encTok a).length = 3 from rfl]; omega

set_option maxHeartbeats 4000000 in
theorem sp_joined (s t : List UInt8) (hl : s.length ≤ 1048576) (hl' : t.length ≤ 1048576) (w : World) :
    Cal Try.prog 5 #[str s, str t] w fun v w' => v = .bool true ∧ Kept [] w w' := by
  refine enter (N := 91) Try.func5 rfl [(0, str s), (1, str t)] args2 rfl ?_
  have hj := Sp.tokens_join s t
  have hbs := toks_len s
  have hbt := toks_len t
  have hlu : (Sp.tokens (s ++ [10] ++ t)).length = (Sp.tokens s).length + (Sp.tokens t).length := by rw [hj, List.length_append, List.length_map]
  have hsame : decide (Sp.tokens s = Sp.tokens s) = true := by simp
  have ht1 : ((Sp.tokens (s ++ [10] ++ t)).flatMap encTok).take ((Sp.tokens s).length * 3) = (Sp.tokens s).flatMap encTok := by
    rw [hj, List.flatMap_append, ← enc_len, List.take_left]
  have ht2 : ((Sp.tokens (s ++ [10] ++ t)).flatMap encTok).drop ((Sp.tokens s).length * 3) = ((Sp.tokens t).map (Sp.shift (s.length + 1))).flatMap encTok := by
    rw [hj, List.flatMap_append, ← enc_len, List.drop_left]
  repeat' (first
    | (refine op_add_str (by rfl) (by rfl) (by rfl) (by rfl) (by simp; omega) ?_)
    | (refine op_call (by rfl) (by rfl) (by rfl) (by exact c_alive _) ?_; rintro _ w1 ⟨rfl, hk1⟩)
    | (refine op_call (by rfl) (by rfl) (by rfl) (by exact c_tokens (s ++ [10] ++ t) (by simp; omega) _) ?_; rintro ta w2 ⟨htu, hk2⟩; obtain ⟨a0, c0, rfl⟩ := own_val htu)
    | (refine op_call (by rfl) (by rfl) (by rfl) (by exact c_tokens s (by omega) _) ?_; rintro ta w3 ⟨hts, hk3⟩; obtain ⟨a1, c1, rfl⟩ := own_val hts)
    | (refine op_call (by rfl) (by rfl) (by rfl) (by exact c_tokens t (by omega) _) ?_; rintro ta w4 ⟨htt, hk4⟩; obtain ⟨a2, c2, rfl⟩ := own_val htt)
    | (refine op_sub_to (by rfl) (by rfl) (by rfl) (by rfl) ((own_reads htu).kept (hk3.trans hk4)) (by omega) ?_; rw [Int.toNat_natCast, ht1]; intro sv hsv)
    | (refine op_call (by rfl) (by rfl) (by rfl) (by exact c_sameToks _ _ (Sp.tokens s) (Sp.tokens s) (by omega) _ hsv ((own_reads hts).kept hk4)) ?_; rintro _ w5 ⟨rfl, hk5⟩; rw [hsame])
    | (refine op_sub_from (by rfl) (by rfl) (by rfl) (by rfl) ((own_reads htu).kept ((hk3.trans hk4).trans hk5)) (by omega) ?_; rw [Int.toNat_natCast, ht2, hlu, Nat.add_sub_cancel_left]; intro sv2 hsv2; obtain ⟨_, a3, c3, rfl, hc3, hr3⟩ := hsv2)
    | refine op_move (by rfl) (by rfl) (by rfl) ?_
    | refine op_assign (by rfl) (by rfl) (by rfl) ?_
    | refine op_pick_true (by rfl) (by rfl) (by rfl) (by rfl) ?_
    | refine op_pick_false (by rfl) (by rfl) (by rfl) (by rfl) ?_
    | refine op_lss (by rfl) (by rfl) (by rfl) (by rfl) ?_
    | refine op_leq (by rfl) (by rfl) (by rfl) (by rfl) ?_
    | refine op_neq (by rfl) (by rfl) (by rfl) (by rfl) ?_
    | refine op_neq_str (by rfl) (by rfl) (by rfl) (by rfl) ?_
    | refine op_neq_bool (by rfl) (by rfl) (by rfl) (by rfl) ?_
    | refine op_neq_flat (by rfl) (by rfl) (by rfl) (by rfl) (by rfl) (by rfl) ?_
    | refine op_len_str (by rfl) (by rfl) (by rfl) ?_
    | refine op_len_slice (by rfl) (by rfl) (by rfl) ?_
    | refine op_not (by rfl) (by rfl) (by rfl) ?_
    | refine op_add (by rfl) (by rfl) (by rfl) (by rfl) (by omega) ?_
    | refine op_sub (by rfl) (by rfl) (by rfl) (by rfl) (by omega) ?_
    | refine op_slice_str (by rfl) (by rfl) (by rfl) (by rfl) (by rfl) (by omega) ?_
    | refine op_slice_from (by rfl) (by rfl) (by rfl) (by rfl) (by omega) ?_
    | refine op_slice_to (by rfl) (by rfl) (by rfl) (by rfl) (by omega) ?_
    | refine op_fieldAddr (by rfl) (by rfl) (by rfl) ?_
    | refine op_indexAddr (by rfl) (by rfl) (by rfl) (by rfl) (by omega) (by omega) ?_
    | refine op_load1 (by rfl) (by rfl) (by rfl) (by assumption) (by rfl) ?_
    | refine wl_skip (by rfl) (by rfl) (by rfl) ?_
    | (refine wl_split_dec (by rfl) (by rfl) (by rfl) (fun _ => ?_) (fun _ => ?_) <;> (try first | contradiction | (exfalso; omega)))
    | (refine wl_split (by rfl) (by rfl) (by rfl) (fun _ => ?_) (fun _ => ?_) <;> (fail_if_success contradiction))
    | refine wl_nil ?_
    | refine at_then_normal ?_
    | refine at_then_ret ?_
    | refine at_then_exit ?_
    | refine at_block_normal ?_
    | refine at_block_ret ?_
    | refine at_block_exit ?_
    | refine at_block_other (by rfl) ?_
    | refine wc_seq ?_
    | refine wc_region ?_
    | refine wc_block ?_
    | refine wc_skip ?_
    | refine wc_exit ?_
    | refine wc_ret ?_
    | refine at_ret1 (by rfl) (by rfl) ?_
    | refine wc_cond_true (by rfl) ?_
    | refine wc_cond_false (by rfl) ?_
    | (refine wc_cond_dec (by rfl) (fun _ => ?_) (fun _ => ?_) <;> (try first | contradiction | (exfalso; omega)))
    | refine wc_cond (by rfl) (fun _ => ?_) (fun _ => ?_))
  have hkA : Kept [] w w5 := (((hk1.trans hk2).trans hk3).trans hk4).trans hk5
  have hrt : Reads w5 3 _ _ _ := (own_reads htt).kept hk5
  obtain ⟨_, _, _, ea, hc2, hr2⟩ := hrt
  injection ea with ea1 _ ea2
  subst ea1
  subst ea2
  clear hk1 hk2 hk3 hk4 hk5 htu hts htt hsv
  refine wc_loop (fun k => [(0, str s), (7, .slice a2 (Sp.tokens t).length c2), (49, .slice a3 (Sp.tokens t).length c3), (50, .int .i64 ((Sp.tokens t).length : Int)), (51, .int .i64 ((k : Nat) : Int))])
    (fun k w' => k ≤ (Sp.tokens t).length ∧ Kept [] w5 w') (fun k => (Sp.tokens t).length - k) 0 ⟨rfl, rfl, rfl, rfl, rfl, trivial⟩ ⟨by simp, Kept.refl _ _⟩ ?_
  rintro k w6 ⟨hk, hkept⟩
  by_cases hlt : k < (Sp.tokens t).length
  · obtain ⟨b2, o2, cs2, e2, f2, rfl, hb2, hcur2⟩ := hr2 (by omega)
    obtain ⟨b3, o3, cs3, e3, f3, rfl, hb3, hcur3⟩ := hr3 (by omega)
    have hb2' := hkept.get0 hb2
    have hb3' := hkept.get0 hb3
    have htok : (Sp.tokens t)[k]? = some (Sp.tokens t)[k] := List.getElem?_eq_getElem hlt
    have htok3 : ((Sp.tokens t).map (Sp.shift (s.length + 1)))[k]? = some (Sp.shift (s.length + 1) (Sp.tokens t)[k]) := by rw [List.getElem?_map, htok]; rfl
    have hok := Sp.tokens_ok t _ (List.getElem_mem hlt)
    have hcell2 : ∀ (j : Nat) (v : Value), (encTok (Sp.tokens t)[k])[j]? = some v → cs2[o2 + (k : Int).toNat * 3 + j]? = some v := fun j v hv => by
      rw [show o2 + (k : Int).toNat * 3 + j = o2 + (k * 3 + j) by omega]
      exact hcur2 _ _ (encTok_get _ _ _ htok j v hv)
    have hcell3 : ∀ (j : Nat) (v : Value), (encTok (Sp.shift (s.length + 1) (Sp.tokens t)[k]))[j]? = some v → cs3[o3 + (k : Int).toNat * 3 + j]? = some v := fun j v hv => by
      rw [show o3 + (k : Int).toNat * 3 + j = o3 + (k * 3 + j) by omega]
      exact hcur3 _ _ (encTok_get _ _ _ htok3 j v hv)
    generalize (Sp.tokens t)[k] = x at hok hcell2 hcell3
    have hxp := hok.pos
    have hxa : ((Sp.shift (s.length + 1) x).pos : Int) = (x.pos : Int) + s.length + 1 := by simp only [Sp.shift]; omega
    repeat' (first
      | (refine op_loadN (vs := encTok (Sp.shift (s.length + 1) x)) (by rfl) (by rfl) (by rfl) hb3' (by rfl) hcell3 ?_)
      | (refine op_loadN (vs := encTok x) (by rfl) (by rfl) (by rfl) hb2'' (by rfl) hcell2 ?_)
      | (refine op_store_all (by rfl) (by rfl) (by rfl) (by rfl) hbb (by rfl) hzt (by rfl) ?_; intro w10 hb10 hkt; have hkc : Kept [] w8 w10 := hkb.step hkt (fun x hx => .inr (by simp at hx; omega)); have hb9' := hkc.get0 hb9)
      | (refine op_alloc (by rfl) (by rfl) ?_; have := hb9; intro bb wb zd hbf hzt hbb hkb)
      | (refine op_store_all (by rfl) (by rfl) (by rfl) (by rfl) hba (by rfl) hzs (by rfl) ?_; intro w8 hb9 hks; have hka2 : Kept [] w6 w8 := hka.step hks (fun x hx => .inr (by simp at hx; omega)); have hb2'' := hka2.get0 hb2')
      | (refine op_alloc (by rfl) (by rfl) ?_; intro ba wa zc hbe hzs hba hka)
      | refine op_move (by rfl) (by rfl) (by rfl) ?_
      | refine op_assign (by rfl) (by rfl) (by rfl) ?_
      | refine op_pick_true (by rfl) (by rfl) (by rfl) (by rfl) ?_
      | refine op_pick_false (by rfl) (by rfl) (by rfl) (by rfl) ?_
      | refine op_lss (by rfl) (by rfl) (by rfl) (by rfl) ?_
      | refine op_leq (by rfl) (by rfl) (by rfl) (by rfl) ?_
      | refine op_neq (by rfl) (by rfl) (by rfl) (by rfl) ?_
      | refine op_neq_str (by rfl) (by rfl) (by rfl) (by rfl) ?_
      | refine op_neq_bool (by rfl) (by rfl) (by rfl) (by rfl) ?_
      | refine op_neq_flat (by rfl) (by rfl) (by rfl) (by rfl) (by rfl) (by rfl) ?_
      | refine op_len_str (by rfl) (by rfl) (by rfl) ?_
      | refine op_len_slice (by rfl) (by rfl) (by rfl) ?_
      | refine op_not (by rfl) (by rfl) (by rfl) ?_
      | refine op_add (by rfl) (by rfl) (by rfl) (by rfl) (by omega) ?_
      | refine op_sub (by rfl) (by rfl) (by rfl) (by rfl) (by omega) ?_
      | refine op_slice_str (by rfl) (by rfl) (by rfl) (by rfl) (by rfl) (by omega) ?_
      | refine op_slice_from (by rfl) (by rfl) (by rfl) (by rfl) (by omega) ?_
      | refine op_slice_to (by rfl) (by rfl) (by rfl) (by rfl) (by omega) ?_
      | refine op_fieldAddr (by rfl) (by rfl) (by rfl) ?_
      | refine op_indexAddr (by rfl) (by rfl) (by rfl) (by rfl) (by omega) (by omega) ?_
      | refine op_load1 (by rfl) (by rfl) (by rfl) (by assumption) (by rfl) ?_
      | refine wl_skip (by rfl) (by rfl) (by rfl) ?_
      | (refine wl_split_dec (by rfl) (by rfl) (by rfl) (fun _ => ?_) (fun _ => ?_) <;> (try first | contradiction | (exfalso; omega)))
      | (refine wl_split (by rfl) (by rfl) (by rfl) (fun _ => ?_) (fun _ => ?_) <;> (fail_if_success contradiction))
      | refine wl_nil ?_
      | refine at_then_normal ?_
      | refine at_then_ret ?_
      | refine at_then_exit ?_
      | refine at_block_normal ?_
      | refine at_block_ret ?_
      | refine at_block_exit ?_
      | refine at_block_other (by rfl) ?_
      | refine wc_seq ?_
      | refine wc_region ?_
      | refine wc_block ?_
      | refine wc_skip ?_
      | refine wc_exit ?_
      | refine wc_ret ?_
      | refine at_ret1 (by rfl) (by rfl) ?_
      | refine wc_cond_true (by rfl) ?_
      | refine wc_cond_false (by rfl) ?_
      | (refine wc_cond_dec (by rfl) (fun _ => ?_) (fun _ => ?_) <;> (try first | contradiction | (exfalso; omega)))
      | refine wc_cond (by rfl) (fun _ => ?_) (fun _ => ?_))
    refine at_round (k + 1) (by exact ⟨rfl, rfl, rfl, rfl, rfl, trivial⟩) ?_ (by omega)
    exact ⟨by omega, hkept.trans (hka2.trans hkc)⟩
  · skip
    repeat' (first
      | refine op_move (by rfl) (by rfl) (by rfl) ?_
      | refine op_assign (by rfl) (by rfl) (by rfl) ?_
      | refine op_pick_true (by rfl) (by rfl) (by rfl) (by rfl) ?_
      | refine op_pick_false (by rfl) (by rfl) (by rfl) (by rfl) ?_
      | refine op_lss (by rfl) (by rfl) (by rfl) (by rfl) ?_
      | refine op_leq (by rfl) (by rfl) (by rfl) (by rfl) ?_
      | refine op_neq (by rfl) (by rfl) (by rfl) (by rfl) ?_
      | refine op_neq_str (by rfl) (by rfl) (by rfl) (by rfl) ?_
      | refine op_neq_bool (by rfl) (by rfl) (by rfl) (by rfl) ?_
      | refine op_neq_flat (by rfl) (by rfl) (by rfl) (by rfl) (by rfl) (by rfl) ?_
      | refine op_len_str (by rfl) (by rfl) (by rfl) ?_
      | refine op_len_slice (by rfl) (by rfl) (by rfl) ?_
      | refine op_not (by rfl) (by rfl) (by rfl) ?_
      | refine op_add (by rfl) (by rfl) (by rfl) (by rfl) (by omega) ?_
      | refine op_sub (by rfl) (by rfl) (by rfl) (by rfl) (by omega) ?_
      | refine op_slice_str (by rfl) (by rfl) (by rfl) (by rfl) (by rfl) (by omega) ?_
      | refine op_slice_from (by rfl) (by rfl) (by rfl) (by rfl) (by omega) ?_
      | refine op_slice_to (by rfl) (by rfl) (by rfl) (by rfl) (by omega) ?_
      | refine op_fieldAddr (by rfl) (by rfl) (by rfl) ?_
      | refine op_indexAddr (by rfl) (by rfl) (by rfl) (by rfl) (by omega) (by omega) ?_
      | refine op_load1 (by rfl) (by rfl) (by rfl) (by assumption) (by rfl) ?_
      | refine wl_skip (by rfl) (by rfl) (by rfl) ?_
      | (refine wl_split_dec (by rfl) (by rfl) (by rfl) (fun _ => ?_) (fun _ => ?_) <;> (try first | contradiction | (exfalso; omega)))
      | (refine wl_split (by rfl) (by rfl) (by rfl) (fun _ => ?_) (fun _ => ?_) <;> (fail_if_success contradiction))
      | refine wl_nil ?_
      | refine at_then_normal ?_
      | refine at_then_ret ?_
      | refine at_then_exit ?_
      | refine at_block_normal ?_
      | refine at_block_ret ?_
      | refine at_block_exit ?_
      | refine at_block_other (by rfl) ?_
      | refine wc_seq ?_
      | refine wc_region ?_
      | refine wc_block ?_
      | refine wc_skip ?_
      | refine wc_exit ?_
      | refine wc_ret ?_
      | refine at_ret1 (by rfl) (by rfl) ?_
      | refine wc_cond_true (by rfl) ?_
      | refine wc_cond_false (by rfl) ?_
      | (refine wc_cond_dec (by rfl) (fun _ => ?_) (fun _ => ?_) <;> (try first | contradiction | (exfalso; omega)))
      | refine wc_cond (by rfl) (fun _ => ?_) (fun _ => ?_))
    exact ⟨rfl, hkA.trans hkept⟩
end Go.Proofs.Ythleggomainocaa
