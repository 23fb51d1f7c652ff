/- Own work: texts LawPt, one behind the other. -/
import Derived.Test.YtjfkjpbkmpofkaaGreatDoorMt29
section
namespace Go.Proofs.YtjfkjpbkmpofkaaGreatDoor
open Go.Fw
set_option maxHeartbeats 16000000 in
theorem sp_ptells (s : List UInt8) (at_ : Int) (f u : Int) (x : List UInt8) (hs : s.length ≤ 1048576) (hx : x.length ≤ 1048576) (I : Imm) (hC : Conv I) :
    CalM Tryz.prog 3 #[str s, .int .i64 at_, .agg (edCells f u x).toArray] I [] (fun v _ H' => v = .bool true ∧ H' = []) := by
  refine CalM.of fun w E hm => enter (N := 123) Tryz.func3 rfl [(0, str s), (1, .int .i64 at_), (2, .agg (edCells f u x).toArray)] args3 rfl ?_
  have hF := fun (I' : Imm) (m : Le I I') => p_file s I' (hC.le m) (by omega)
  have hR := fun (I' : Imm) => c_file s I' (by omega)
  have hG := fun (I' : Imm) => p_change s f u x (by omega) (by omega) I'
  have hP := fun (I' : Imm) (m : Le I I') => p_item s at_ I' (hC.le m) hs
  have hQ := fun (I' : Imm) => c_item s at_ I' hs
  have hsm := Sp.item_small s at_ hs
  have hft := Sp.file_few s
  have hst := Sp.file_small s
  generalize Sp.item s at_ = it at hP hQ hsm
  generalize Sp.fileErr s = er at hF hR
  generalize Sp.fileItems s = its at hF hR hft hst
  have hch : ∃ ce ct, Sp.chErr s f u x = ce ∧ Sp.chTo s f u x = ct ∧
      (((f < 0 ∨ u < f ∨ u > s.length) ∧ ce = 3 ∧ ct = []) ∨ ((0 ≤ f ∧ f ≤ u ∧ u ≤ s.length) ∧ (x.length > 4000 ∨ (s.length : Int) - (u - f) + x.length > 4000) ∧ ce = 4 ∧ ct = []) ∨
        ((0 ≤ f ∧ f ≤ u ∧ u ≤ s.length) ∧ ¬ (x.length > 4000 ∨ (s.length : Int) - (u - f) + x.length > 4000) ∧ ce = 0 ∧ ct = s.take f.toNat ++ x ++ s.drop u.toNat)) := by
    refine ⟨_, _, rfl, rfl, ?_⟩
    by_cases h3 : f < 0 ∨ u < f ∨ u > s.length
    · have he : Sp.chErr s f u x = 3 := by rw [Sp.chErr, if_pos h3]
      exact .inl ⟨h3, he, by rw [Sp.chTo, he]; rfl⟩
    · by_cases h4 : x.length > 4000 ∨ (s.length : Int) - (u - f) + x.length > 4000
      · have he : Sp.chErr s f u x = 4 := by rw [Sp.chErr, if_neg h3, if_pos h4]
        exact .inr (.inl ⟨by omega, h4, he, by rw [Sp.chTo, he]; rfl⟩)
      · have he : Sp.chErr s f u x = 0 := by rw [Sp.chErr, if_neg h3, if_neg h4]
        exact .inr (.inr ⟨by omega, h4, he, by rw [Sp.chTo, he]; rfl⟩)
  obtain ⟨ce, ct, e1, e2, hch⟩ := hch
  rw [e1, e2] at hG
  clear e1 e2
  rcases hch with ⟨h3, rfl, rfl⟩ | ⟨h3, h4, rfl, rfl⟩ | ⟨h3, h4, rfl, rfl⟩
  all_goals by_cases hl : s.length ≤ 4000
  · skip
    repeat' (first
      | (refine m_call (d := 15) hm (by rfl) (by rfl) (by rfl) (by first | exact pm0 | exact pm1_0 | exact pm1_1 | exact pm1_2 | exact pm1_3 | exact pm2_0 | exact pm2_1 | exact pm2_2 | exact pm2_3 | exact pm2_4 | exact pm3_0 | exact pm3_1 | exact pm3_2) (hF _ (Le.refl _)) ?_; clear hm; rintro _ I2 _ _ ⟨a, cp, xs, rfl, hrow, hits, rfl⟩ hle hm; have hleI2 := hle; try simp only [setn] at hm)
      | (refine m_call (d := 20) hm (by rfl) (by rfl) (by rfl) (by first | exact pm0 | exact pm1_0 | exact pm1_1 | exact pm1_2 | exact pm1_3 | exact pm2_0 | exact pm2_1 | exact pm2_2 | exact pm2_3 | exact pm2_4 | exact pm3_0 | exact pm3_1 | exact pm3_2) (hR _) ?_; clear hm; rintro _ I3 _ _ ⟨a2, cp2, xs2, rfl, hrow2, hits2, rfl⟩ hle hm; have hleI3 := hle; try simp only [setn] at hm)
      | (refine m_call (d := 29) hm (by rfl) (by rfl) (by rfl) (by first | exact pm0 | exact pm1_0 | exact pm1_1 | exact pm1_2 | exact pm1_3 | exact pm2_0 | exact pm2_1 | exact pm2_2 | exact pm2_3 | exact pm2_4 | exact pm3_0 | exact pm3_1 | exact pm3_2) (p_sameFile its (by omega) hst _ a a2 cp cp2 xs xs2 (hrow.le hleI3) (hits.le hleI3) hrow2 hits2) ?_; clear hm; rintro _ I4 _ _ ⟨rfl, rfl⟩ hle hm; have hleI4 := hle; try simp only [setn] at hm)
      | (refine m_call (d := 37) hm (by rfl) (by rfl) (by rfl) (by first | exact pm0 | exact pm1_0 | exact pm1_1 | exact pm1_2 | exact pm1_3 | exact pm2_0 | exact pm2_1 | exact pm2_2 | exact pm2_3 | exact pm2_4 | exact pm3_0 | exact pm3_1 | exact pm3_2) (hP _ ((hleI2.trans hleI3).trans hleI4)) ?_; clear hm; rintro _ I5 _ _ ⟨_, rfl, ⟨ap, pc, as_, sc, ab, bc, ad, dc, xb, rfl, r1, r2, r3, r4, r5⟩, rfl⟩ hle hm; have hleI5 := hle; try simp only [setn] at hm)
      | (refine wc_mix_mem (id := 7) (hm.perm pm0) [([0,1,2],[3,4]),([5,6,7,9],[8]),([],[10])] 11 (by kernel_rfl) ?_; clear hm; intro wd hR hm)
      | (refine mt_call (d := 41) hm (by rfl) (by rfl) (by rfl) (by first | exact pm0 | exact pm1_0 | exact pm1_1 | exact pm1_2 | exact pm1_3 | exact pm2_0 | exact pm2_1 | exact pm2_2 | exact pm2_3 | exact pm2_4 | exact pm3_0 | exact pm3_1 | exact pm3_2) (hQ _) ?_; clear hm; rintro _ I6 _ _ ⟨_, rfl, hq, rfl⟩ hle hm; have hleI6 := hle; try simp only [setn] at hm)
      | (refine mt_call (d := 42) hm (by rfl) (by rfl) (by rfl) (by first | exact pm0 | exact pm1_0 | exact pm1_1 | exact pm1_2 | exact pm1_3 | exact pm2_0 | exact pm2_1 | exact pm2_2 | exact pm2_3 | exact pm2_4 | exact pm3_0 | exact pm3_1 | exact pm3_2) (p_sameItem it hsm _ _ _ (ItAt.le hleI6 ⟨ap, pc, as_, sc, ab, bc, ad, dc, xb, rfl, r1, r2, r3, r4, r5⟩) hq) ?_; clear hm; rintro _ I7 _ _ ⟨rfl, rfl⟩ hle hm; have hleI7 := hle; try simp only [setn] at hm)
      | (refine mt_call (d := 46) hm (by rfl) (by rfl) (by rfl) (by first | exact pm0 | exact pm1_0 | exact pm1_1 | exact pm1_2 | exact pm1_3 | exact pm2_0 | exact pm2_1 | exact pm2_2 | exact pm2_3 | exact pm2_4 | exact pm3_0 | exact pm3_1 | exact pm3_2) (p_own it hsm _ _ (ItAt.le (hleI6.trans hleI7) ⟨ap, pc, as_, sc, ab, bc, ad, dc, xb, rfl, r1, r2, r3, r4, r5⟩)) ?_; clear hm; rintro _ I8 _ _ ⟨_, rfl, ho, rfl⟩ hle hm; have hleI8 := hle; try simp only [setn] at hm)
      | (refine mt_call (d := 48) hm (by rfl) (by rfl) (by rfl) (by first | exact pm0 | exact pm1_0 | exact pm1_1 | exact pm1_2 | exact pm1_3 | exact pm2_0 | exact pm2_1 | exact pm2_2 | exact pm2_3 | exact pm2_4 | exact pm3_0 | exact pm3_1 | exact pm3_2) (p_sameItem it hsm _ _ _ ho (ItAt.le ((hleI6.trans hleI7).trans hleI8) ⟨ap, pc, as_, sc, ab, bc, ad, dc, xb, rfl, r1, r2, r3, r4, r5⟩)) ?_; clear hm; rintro _ I9 _ _ ⟨rfl, rfl⟩ hle hm; have hleI9 := hle; try simp only [setn] at hm)
      | (refine m_call (d := 54) hm (by rfl) (by rfl) (by rfl) (by first | exact pm0 | exact pm1_0 | exact pm1_1 | exact pm1_2 | exact pm1_3 | exact pm2_0 | exact pm2_1 | exact pm2_2 | exact pm2_3 | exact pm2_4 | exact pm3_0 | exact pm3_1 | exact pm3_2) (hG _) ?_; clear hm; rintro _ I10 _ _ ⟨rfl, rfl⟩ hle hm; have hleI10 := hle; try simp only [setn] at hm)
      | (refine q_add_str (d := 115) (by rfl) (by rfl) (by rfl) (by rfl) (by simp only [List.length_append, List.length_take]; omega) ?_)
      | (refine q_add_str (d := 120) (by rfl) (by rfl) (by rfl) (by rfl) (by simp only [List.length_append, List.length_take, List.length_drop]; omega) ?_)
      | refine mw_loadAll hR (by rfl) (by rfl) (by rfl) (by first | exact gt0 | exact gt1 | exact gt2 | exact gt3 | exact gt4 | exact gt5 | exact gt6) (by rfl) ?_
      | refine mw_load1 hR (by rfl) (by rfl) (by rfl) (by first | exact gt0 | exact gt1 | exact gt2 | exact gt3 | exact gt4 | exact gt5 | exact gt6) (by rfl) ?_
      | refine iw_load1 hR (by rfl) (by rfl) (by rfl) (by assumption) (by rfl) ?_
      | refine mt_struct hm (by rfl) (by rfl) (by rfl) (by rfl) ?_
      | refine iw_loadN hR (by rfl) (by rfl) (by rfl) (by assumption) (by rfl) ?_
      | refine mw_loadN hR (by rfl) (by rfl) (by rfl) (by first | exact gt0 | exact gt1 | exact gt2 | exact gt3 | exact gt4 | exact gt5 | exact gt6) (by rfl) (by rfl) ?_
      | refine wx_cons ?_
      | refine wv_nilX ?_
      | refine ws_nil ?_
      | refine at_X ?_
      | (refine wx_nil ?_; replace hm := hR.back hm; clear hR; try simp only [setn] at hm)
      | (refine m_box (d := 5) hm (by rfl) (by rfl) (by rfl) (by rfl) ?_; clear hm; intro b5 _ hm)
      | (refine m_varS (d := 7) hm (by rfl) (by rfl) (by rfl) (by rfl) (by rfl) ?_; clear hm; intro b7 _ hm)
      | (refine m_var1 (d := 7) hm (by rfl) (by rfl) (by rfl) (by rfl) (by rfl) ?_; clear hm; intro b7 _ hm)
      | (refine m_varS (d := 9) hm (by rfl) (by rfl) (by rfl) (by rfl) (by rfl) ?_; clear hm; intro b9 _ hm)
      | (refine m_var1 (d := 9) hm (by rfl) (by rfl) (by rfl) (by rfl) (by rfl) ?_; clear hm; intro b9 _ hm)
      | (refine m_varS (d := 11) hm (by rfl) (by rfl) (by rfl) (by rfl) (by rfl) ?_; clear hm; intro b11 _ hm)
      | (refine m_var1 (d := 11) hm (by rfl) (by rfl) (by rfl) (by rfl) (by rfl) ?_; clear hm; intro b11 _ hm)
      | refine m_load1 hm (by rfl) (by rfl) (by rfl) (by first | exact gt0 | exact gt1 | exact gt2 | exact gt3 | exact gt4 | exact gt5 | exact gt6) (by rfl) ?_
      | refine i_load1 hm (by rfl) (by rfl) (by rfl) (by assumption) (by rfl) ?_
      | refine m_loadAll hm (by rfl) (by rfl) (by rfl) (by first | exact gt0 | exact gt1 | exact gt2 | exact gt3 | exact gt4 | exact gt5 | exact gt6) (by rfl) ?_
      | refine i_loadN hm (by rfl) (by rfl) (by rfl) (by assumption) (by rfl) ?_
      | refine i_load1z hm (by rfl) (by rfl) (by rfl) (by assumption) (by rfl) ?_
      | refine mq_load1 hm (by rfl) (by rfl) (by rfl) (by first | exact gt0 | exact gt1 | exact gt2 | exact gt3 | exact gt4 | exact gt5 | exact gt6) (by rfl) ?_
      | refine iq_load1 hm (by rfl) (by rfl) (by rfl) (by assumption) (by rfl) ?_
      | refine mq_loadAll hm (by rfl) (by rfl) (by rfl) (by first | exact gt0 | exact gt1 | exact gt2 | exact gt3 | exact gt4 | exact gt5 | exact gt6) (by rfl) ?_
      | refine iq_loadN hm (by rfl) (by rfl) (by rfl) (by assumption) (by rfl) ?_
      | refine iq_load1z hm (by rfl) (by rfl) (by rfl) (by assumption) (by rfl) ?_
      | (refine m_storeAll hm (by rfl) (by rfl) (by rfl) (by rfl) (by first | exact gt0 | exact gt1 | exact gt2 | exact gt3 | exact gt4 | exact gt5 | exact gt6) (by rfl) (by rfl) (by rfl) ?_; clear hm; intro _ hm; try simp only [setn] at hm)
      | (refine m_store1 hm (by rfl) (by rfl) (by rfl) (by rfl) (by first | exact gt0 | exact gt1 | exact gt2 | exact gt3 | exact gt4 | exact gt5 | exact gt6) (by rfl) (by rfl) (by rfl) ?_; clear hm; intro _ hm; try simp only [setn] at hm)
      | (refine m_storeN hm (by rfl) (by rfl) (by rfl) (by rfl) (by first | exact gt0 | exact gt1 | exact gt2 | exact gt3 | exact gt4 | exact gt5 | exact gt6) (by rfl) (by rfl) (by rfl) ?_; clear hm; intro _ hm; try simp only [setn] at hm)
      | refine m_ret_agg hm (by rfl) (by rfl) (by first | exact gt0 | exact gt1 | exact gt2 | exact gt3 | exact gt4 | exact gt5 | exact gt6) (by rfl) ?_
      | refine m_ret2_agg hm (by rfl) (by rfl) (by rfl) (by first | exact gt0 | exact gt1 | exact gt2 | exact gt3 | exact gt4 | exact gt5 | exact gt6) (by rfl) ?_
      | refine op_move (by rfl) (by rfl) (by rfl) ?_
      | refine op_assign (by rfl) (by rfl) (by rfl) ?_
      | refine op_pick_true (by rfl) (by rfl) (by rfl) (by rfl) ?_
      | refine op_pick_false (by rfl) (by rfl) (by rfl) (by rfl) ?_
      | refine op_lss (by rfl) (by rfl) (by rfl) (by rfl) ?_
      | refine op_leq (by rfl) (by rfl) (by rfl) (by rfl) ?_
      | refine op_gtr (by rfl) (by rfl) (by rfl) (by rfl) ?_
      | refine op_eql (by rfl) (by rfl) (by rfl) (by rfl) ?_
      | refine op_neq (by rfl) (by rfl) (by rfl) (by rfl) ?_
      | refine op_eql_str (by rfl) (by rfl) (by rfl) (by rfl) ?_
      | refine op_eql_bool (by rfl) (by rfl) (by rfl) (by rfl) ?_
      | refine op_eql_flat (by rfl) (by rfl) (by rfl) (by rfl) (by rfl) (by rfl) ?_
      | refine op_neq_str (by rfl) (by rfl) (by rfl) (by rfl) ?_
      | refine op_neq_bool (by rfl) (by rfl) (by rfl) (by rfl) ?_
      | refine op_neq_flat (by rfl) (by rfl) (by rfl) (by rfl) (by rfl) (by rfl) ?_
      | refine op_len_str (by rfl) (by rfl) (by rfl) ?_
      | refine op_len_slice (by rfl) (by rfl) (by rfl) ?_
      | refine op_not (by rfl) (by rfl) (by rfl) ?_
      | refine op_extract (by rfl) (by rfl) (by rfl) (by rfl) ?_
      | refine op_add (by rfl) (by rfl) (by rfl) (by rfl) (by omega) ?_
      | refine op_sub (by rfl) (by rfl) (by rfl) (by rfl) (by omega) ?_
      | refine op_add_u8 (by rfl) (by rfl) (by rfl) (by rfl) (by omega) ?_
      | refine op_sub_u8 (by rfl) (by rfl) (by rfl) (by rfl) (by omega) ?_
      | refine op_slice_str (by rfl) (by rfl) (by rfl) (by rfl) (by rfl) (by omega) ?_
      | refine op_slice_from (by rfl) (by rfl) (by rfl) (by rfl) (by omega) ?_
      | refine op_slice_to (by rfl) (by rfl) (by rfl) (by rfl) (by omega) ?_
      | refine op_fieldAddr (by rfl) (by rfl) (by rfl) ?_
      | refine op_load1 (by rfl) (by rfl) (by rfl) (by assumption) (by rfl) ?_
      | refine wl_skip (by rfl) (by rfl) (by rfl) ?_
      | (refine wl_split_dec (by rfl) (by rfl) (by rfl) (fun _ => ?_) (fun _ => ?_) <;> (try first | contradiction | (exfalso; omega)))
      | (refine wl_split (by rfl) (by rfl) (by rfl) (fun _ => ?_) (fun _ => ?_) <;> (fail_if_success contradiction))
      | refine wl_nil ?_
      | refine at_then_normal ?_
      | refine at_then_ret ?_
      | refine wc_seq ?_
      | refine wc_region ?_
      | refine wc_skip ?_
      | refine wc_ret ?_
      | refine at_ret1 (by rfl) (by rfl) ?_
      | refine wc_quiet (by kernel_rfl) ?_
      | (refine wq_nil ?_; intro _ hkq; replace hm := hm.kept0 hkq; clear hkq)
      | (refine wq_nil_tail ?_; intro _ hkq; replace hm := hm.kept0 hkq; clear hkq)
      | refine wc_cond_true (by rfl) ?_
      | refine wc_cond_false (by rfl) ?_
      | (refine wc_cond_dec (by rfl) (fun _ => ?_) (fun _ => ?_) <;> (try first | contradiction | (exfalso; omega)))
      | refine wc_cond (by rfl) (fun _ => ?_) (fun _ => ?_)
      | refine q_move (by rfl) (by rfl) (by rfl) ?_
      | refine q_assign (by rfl) (by rfl) (by rfl) ?_
      | refine q_pick_true (by rfl) (by rfl) (by rfl) (by rfl) ?_
      | refine q_pick_false (by rfl) (by rfl) (by rfl) (by rfl) ?_
      | refine q_lss (by rfl) (by rfl) (by rfl) (by rfl) ?_
      | refine q_leq (by rfl) (by rfl) (by rfl) (by rfl) ?_
      | refine q_gtr (by rfl) (by rfl) (by rfl) (by rfl) ?_
      | refine q_eql (by rfl) (by rfl) (by rfl) (by rfl) ?_
      | refine q_neq (by rfl) (by rfl) (by rfl) (by rfl) ?_
      | refine q_eql_str (by rfl) (by rfl) (by rfl) (by rfl) ?_
      | refine q_eql_bool (by rfl) (by rfl) (by rfl) (by rfl) ?_
      | refine q_eql_flat (by rfl) (by rfl) (by rfl) (by rfl) (by rfl) (by rfl) ?_
      | refine q_neq_str (by rfl) (by rfl) (by rfl) (by rfl) ?_
      | refine q_neq_bool (by rfl) (by rfl) (by rfl) (by rfl) ?_
      | refine q_neq_flat (by rfl) (by rfl) (by rfl) (by rfl) (by rfl) (by rfl) ?_
      | refine q_len_str (by rfl) (by rfl) (by rfl) ?_
      | refine q_len_slice (by rfl) (by rfl) (by rfl) ?_
      | refine q_not (by rfl) (by rfl) (by rfl) ?_
      | refine q_extract (by rfl) (by rfl) (by rfl) (by rfl) ?_
      | refine q_add (by rfl) (by rfl) (by rfl) (by rfl) (by omega) ?_
      | refine q_sub (by rfl) (by rfl) (by rfl) (by rfl) (by omega) ?_
      | refine q_add_u8 (by rfl) (by rfl) (by rfl) (by rfl) (by omega) ?_
      | refine q_sub_u8 (by rfl) (by rfl) (by rfl) (by rfl) (by omega) ?_
      | refine q_slice_str (by rfl) (by rfl) (by rfl) (by rfl) (by rfl) (by omega) ?_
      | refine q_slice_from (by rfl) (by rfl) (by rfl) (by rfl) (by omega) ?_
      | refine q_slice_to (by rfl) (by rfl) (by rfl) (by rfl) (by omega) ?_
      | refine q_fieldAddr (by rfl) (by rfl) (by rfl) ?_
      | refine q_load1 (by rfl) (by rfl) (by rfl) (by assumption) (by rfl) ?_
      | refine wq_skip (by rfl) (by rfl) (by rfl) ?_
      | (refine wq_split_dec (by rfl) (by rfl) (by rfl) (fun _ => ?_) (fun _ => ?_) <;> (try first | contradiction | (exfalso; omega)))
      | (refine wq_split (by rfl) (by rfl) (by rfl) (fun _ => ?_) (fun _ => ?_) <;> (fail_if_success contradiction))
      | refine v_move (by rfl) (by rfl) (by rfl) ?_
      | refine v_assign (by rfl) (by rfl) (by rfl) ?_
      | refine v_pick_true (by rfl) (by rfl) (by rfl) (by rfl) ?_
      | refine v_pick_false (by rfl) (by rfl) (by rfl) (by rfl) ?_
      | refine v_lss (by rfl) (by rfl) (by rfl) (by rfl) ?_
      | refine v_leq (by rfl) (by rfl) (by rfl) (by rfl) ?_
      | refine v_gtr (by rfl) (by rfl) (by rfl) (by rfl) ?_
      | refine v_eql (by rfl) (by rfl) (by rfl) (by rfl) ?_
      | refine v_neq (by rfl) (by rfl) (by rfl) (by rfl) ?_
      | refine v_eql_str (by rfl) (by rfl) (by rfl) (by rfl) ?_
      | refine v_eql_bool (by rfl) (by rfl) (by rfl) (by rfl) ?_
      | refine v_eql_flat (by rfl) (by rfl) (by rfl) (by rfl) (by rfl) (by rfl) ?_
      | refine v_neq_str (by rfl) (by rfl) (by rfl) (by rfl) ?_
      | refine v_neq_bool (by rfl) (by rfl) (by rfl) (by rfl) ?_
      | refine v_neq_flat (by rfl) (by rfl) (by rfl) (by rfl) (by rfl) (by rfl) ?_
      | refine v_len_str (by rfl) (by rfl) (by rfl) ?_
      | refine v_len_slice (by rfl) (by rfl) (by rfl) ?_
      | refine v_not (by rfl) (by rfl) (by rfl) ?_
      | refine v_extract (by rfl) (by rfl) (by rfl) (by rfl) ?_
      | refine v_add (by rfl) (by rfl) (by rfl) (by rfl) (by omega) ?_
      | refine v_sub (by rfl) (by rfl) (by rfl) (by rfl) (by omega) ?_
      | refine v_add_u8 (by rfl) (by rfl) (by rfl) (by rfl) (by omega) ?_
      | refine v_sub_u8 (by rfl) (by rfl) (by rfl) (by rfl) (by omega) ?_
      | refine v_slice_str (by rfl) (by rfl) (by rfl) (by rfl) (by rfl) (by omega) ?_
      | refine v_slice_from (by rfl) (by rfl) (by rfl) (by rfl) (by omega) ?_
      | refine v_slice_to (by rfl) (by rfl) (by rfl) (by rfl) (by omega) ?_
      | refine v_fieldAddr (by rfl) (by rfl) (by rfl) ?_
      | refine v_load1 (by rfl) (by rfl) (by rfl) (by assumption) (by rfl) ?_
      | refine wv_skip (by rfl) (by rfl) (by rfl) ?_
      | (refine wv_split (by rfl) (by rfl) (by rfl) (fun _ => ?_) (fun _ => ?_) <;> (fail_if_success contradiction))
      | refine wv_nil ?_
      | refine ws_nil ?_)
    all_goals try (exfalso; first | omega | contradiction)
    all_goals exact ⟨I10, [], ⟨by simp, rfl⟩, hm.left (H := [])⟩
  · skip
    repeat' (first
      | (refine m_call (d := 15) hm (by rfl) (by rfl) (by rfl) (by first | exact pm0 | exact pm1_0 | exact pm1_1 | exact pm1_2 | exact pm1_3 | exact pm2_0 | exact pm2_1 | exact pm2_2 | exact pm2_3 | exact pm2_4 | exact pm3_0 | exact pm3_1 | exact pm3_2) (hF _ (Le.refl _)) ?_; clear hm; rintro _ I2 _ _ ⟨a, cp, xs, rfl, hrow, hits, rfl⟩ hle hm; have hleI2 := hle; try simp only [setn] at hm)
      | (refine m_call (d := 20) hm (by rfl) (by rfl) (by rfl) (by first | exact pm0 | exact pm1_0 | exact pm1_1 | exact pm1_2 | exact pm1_3 | exact pm2_0 | exact pm2_1 | exact pm2_2 | exact pm2_3 | exact pm2_4 | exact pm3_0 | exact pm3_1 | exact pm3_2) (hR _) ?_; clear hm; rintro _ I3 _ _ ⟨a2, cp2, xs2, rfl, hrow2, hits2, rfl⟩ hle hm; have hleI3 := hle; try simp only [setn] at hm)
      | (refine m_call (d := 29) hm (by rfl) (by rfl) (by rfl) (by first | exact pm0 | exact pm1_0 | exact pm1_1 | exact pm1_2 | exact pm1_3 | exact pm2_0 | exact pm2_1 | exact pm2_2 | exact pm2_3 | exact pm2_4 | exact pm3_0 | exact pm3_1 | exact pm3_2) (p_sameFile its (by omega) hst _ a a2 cp cp2 xs xs2 (hrow.le hleI3) (hits.le hleI3) hrow2 hits2) ?_; clear hm; rintro _ I4 _ _ ⟨rfl, rfl⟩ hle hm; have hleI4 := hle; try simp only [setn] at hm)
      | (refine m_call (d := 54) hm (by rfl) (by rfl) (by rfl) (by first | exact pm0 | exact pm1_0 | exact pm1_1 | exact pm1_2 | exact pm1_3 | exact pm2_0 | exact pm2_1 | exact pm2_2 | exact pm2_3 | exact pm2_4 | exact pm3_0 | exact pm3_1 | exact pm3_2) (hG _) ?_; clear hm; rintro _ I10 _ _ ⟨rfl, rfl⟩ hle hm; have hleI10 := hle; try simp only [setn] at hm)
      | (refine q_add_str (d := 115) (by rfl) (by rfl) (by rfl) (by rfl) (by simp only [List.length_append, List.length_take]; omega) ?_)
      | (refine q_add_str (d := 120) (by rfl) (by rfl) (by rfl) (by rfl) (by simp only [List.length_append, List.length_take, List.length_drop]; omega) ?_)
      | (refine m_box (d := 5) hm (by rfl) (by rfl) (by rfl) (by rfl) ?_; clear hm; intro b5 _ hm)
      | (refine m_varS (d := 7) hm (by rfl) (by rfl) (by rfl) (by rfl) (by rfl) ?_; clear hm; intro b7 _ hm)
      | (refine m_var1 (d := 7) hm (by rfl) (by rfl) (by rfl) (by rfl) (by rfl) ?_; clear hm; intro b7 _ hm)
      | (refine m_varS (d := 9) hm (by rfl) (by rfl) (by rfl) (by rfl) (by rfl) ?_; clear hm; intro b9 _ hm)
      | (refine m_var1 (d := 9) hm (by rfl) (by rfl) (by rfl) (by rfl) (by rfl) ?_; clear hm; intro b9 _ hm)
      | (refine m_varS (d := 11) hm (by rfl) (by rfl) (by rfl) (by rfl) (by rfl) ?_; clear hm; intro b11 _ hm)
      | (refine m_var1 (d := 11) hm (by rfl) (by rfl) (by rfl) (by rfl) (by rfl) ?_; clear hm; intro b11 _ hm)
      | refine m_load1 hm (by rfl) (by rfl) (by rfl) (by first | exact gt0 | exact gt1 | exact gt2 | exact gt3 | exact gt4 | exact gt5 | exact gt6) (by rfl) ?_
      | refine i_load1 hm (by rfl) (by rfl) (by rfl) (by assumption) (by rfl) ?_
      | refine m_loadAll hm (by rfl) (by rfl) (by rfl) (by first | exact gt0 | exact gt1 | exact gt2 | exact gt3 | exact gt4 | exact gt5 | exact gt6) (by rfl) ?_
      | refine i_loadN hm (by rfl) (by rfl) (by rfl) (by assumption) (by rfl) ?_
      | refine i_load1z hm (by rfl) (by rfl) (by rfl) (by assumption) (by rfl) ?_
      | refine mq_load1 hm (by rfl) (by rfl) (by rfl) (by first | exact gt0 | exact gt1 | exact gt2 | exact gt3 | exact gt4 | exact gt5 | exact gt6) (by rfl) ?_
      | refine iq_load1 hm (by rfl) (by rfl) (by rfl) (by assumption) (by rfl) ?_
      | refine mq_loadAll hm (by rfl) (by rfl) (by rfl) (by first | exact gt0 | exact gt1 | exact gt2 | exact gt3 | exact gt4 | exact gt5 | exact gt6) (by rfl) ?_
      | refine iq_loadN hm (by rfl) (by rfl) (by rfl) (by assumption) (by rfl) ?_
      | refine iq_load1z hm (by rfl) (by rfl) (by rfl) (by assumption) (by rfl) ?_
      | (refine m_storeAll hm (by rfl) (by rfl) (by rfl) (by rfl) (by first | exact gt0 | exact gt1 | exact gt2 | exact gt3 | exact gt4 | exact gt5 | exact gt6) (by rfl) (by rfl) (by rfl) ?_; clear hm; intro _ hm; try simp only [setn] at hm)
      | (refine m_store1 hm (by rfl) (by rfl) (by rfl) (by rfl) (by first | exact gt0 | exact gt1 | exact gt2 | exact gt3 | exact gt4 | exact gt5 | exact gt6) (by rfl) (by rfl) (by rfl) ?_; clear hm; intro _ hm; try simp only [setn] at hm)
      | (refine m_storeN hm (by rfl) (by rfl) (by rfl) (by rfl) (by first | exact gt0 | exact gt1 | exact gt2 | exact gt3 | exact gt4 | exact gt5 | exact gt6) (by rfl) (by rfl) (by rfl) ?_; clear hm; intro _ hm; try simp only [setn] at hm)
      | refine m_ret_agg hm (by rfl) (by rfl) (by first | exact gt0 | exact gt1 | exact gt2 | exact gt3 | exact gt4 | exact gt5 | exact gt6) (by rfl) ?_
      | refine m_ret2_agg hm (by rfl) (by rfl) (by rfl) (by first | exact gt0 | exact gt1 | exact gt2 | exact gt3 | exact gt4 | exact gt5 | exact gt6) (by rfl) ?_
      | refine op_move (by rfl) (by rfl) (by rfl) ?_
      | refine op_assign (by rfl) (by rfl) (by rfl) ?_
      | refine op_pick_true (by rfl) (by rfl) (by rfl) (by rfl) ?_
      | refine op_pick_false (by rfl) (by rfl) (by rfl) (by rfl) ?_
      | refine op_lss (by rfl) (by rfl) (by rfl) (by rfl) ?_
      | refine op_leq (by rfl) (by rfl) (by rfl) (by rfl) ?_
      | refine op_gtr (by rfl) (by rfl) (by rfl) (by rfl) ?_
      | refine op_eql (by rfl) (by rfl) (by rfl) (by rfl) ?_
      | refine op_neq (by rfl) (by rfl) (by rfl) (by rfl) ?_
      | refine op_eql_str (by rfl) (by rfl) (by rfl) (by rfl) ?_
      | refine op_eql_bool (by rfl) (by rfl) (by rfl) (by rfl) ?_
      | refine op_eql_flat (by rfl) (by rfl) (by rfl) (by rfl) (by rfl) (by rfl) ?_
      | refine op_neq_str (by rfl) (by rfl) (by rfl) (by rfl) ?_
      | refine op_neq_bool (by rfl) (by rfl) (by rfl) (by rfl) ?_
      | refine op_neq_flat (by rfl) (by rfl) (by rfl) (by rfl) (by rfl) (by rfl) ?_
      | refine op_len_str (by rfl) (by rfl) (by rfl) ?_
      | refine op_len_slice (by rfl) (by rfl) (by rfl) ?_
      | refine op_not (by rfl) (by rfl) (by rfl) ?_
      | refine op_extract (by rfl) (by rfl) (by rfl) (by rfl) ?_
      | refine op_add (by rfl) (by rfl) (by rfl) (by rfl) (by omega) ?_
      | refine op_sub (by rfl) (by rfl) (by rfl) (by rfl) (by omega) ?_
      | refine op_add_u8 (by rfl) (by rfl) (by rfl) (by rfl) (by omega) ?_
      | refine op_sub_u8 (by rfl) (by rfl) (by rfl) (by rfl) (by omega) ?_
      | refine op_slice_str (by rfl) (by rfl) (by rfl) (by rfl) (by rfl) (by omega) ?_
      | refine op_slice_from (by rfl) (by rfl) (by rfl) (by rfl) (by omega) ?_
      | refine op_slice_to (by rfl) (by rfl) (by rfl) (by rfl) (by omega) ?_
      | refine op_fieldAddr (by rfl) (by rfl) (by rfl) ?_
      | refine op_load1 (by rfl) (by rfl) (by rfl) (by assumption) (by rfl) ?_
      | refine wl_skip (by rfl) (by rfl) (by rfl) ?_
      | (refine wl_split_dec (by rfl) (by rfl) (by rfl) (fun _ => ?_) (fun _ => ?_) <;> (try first | contradiction | (exfalso; omega)))
      | (refine wl_split (by rfl) (by rfl) (by rfl) (fun _ => ?_) (fun _ => ?_) <;> (fail_if_success contradiction))
      | refine wl_nil ?_
      | refine at_then_normal ?_
      | refine at_then_ret ?_
      | refine wc_seq ?_
      | refine wc_region ?_
      | refine wc_skip ?_
      | refine wc_ret ?_
      | refine at_ret1 (by rfl) (by rfl) ?_
      | refine wc_quiet (by kernel_rfl) ?_
      | (refine wq_nil ?_; intro _ hkq; replace hm := hm.kept0 hkq; clear hkq)
      | (refine wq_nil_tail ?_; intro _ hkq; replace hm := hm.kept0 hkq; clear hkq)
      | refine wc_cond_true (by rfl) ?_
      | refine wc_cond_false (by rfl) ?_
      | (refine wc_cond_dec (by rfl) (fun _ => ?_) (fun _ => ?_) <;> (try first | contradiction | (exfalso; omega)))
      | refine wc_cond (by rfl) (fun _ => ?_) (fun _ => ?_)
      | refine q_move (by rfl) (by rfl) (by rfl) ?_
      | refine q_assign (by rfl) (by rfl) (by rfl) ?_
      | refine q_pick_true (by rfl) (by rfl) (by rfl) (by rfl) ?_
      | refine q_pick_false (by rfl) (by rfl) (by rfl) (by rfl) ?_
      | refine q_lss (by rfl) (by rfl) (by rfl) (by rfl) ?_
      | refine q_leq (by rfl) (by rfl) (by rfl) (by rfl) ?_
      | refine q_gtr (by rfl) (by rfl) (by rfl) (by rfl) ?_
      | refine q_eql (by rfl) (by rfl) (by rfl) (by rfl) ?_
      | refine q_neq (by rfl) (by rfl) (by rfl) (by rfl) ?_
      | refine q_eql_str (by rfl) (by rfl) (by rfl) (by rfl) ?_
      | refine q_eql_bool (by rfl) (by rfl) (by rfl) (by rfl) ?_
      | refine q_eql_flat (by rfl) (by rfl) (by rfl) (by rfl) (by rfl) (by rfl) ?_
      | refine q_neq_str (by rfl) (by rfl) (by rfl) (by rfl) ?_
      | refine q_neq_bool (by rfl) (by rfl) (by rfl) (by rfl) ?_
      | refine q_neq_flat (by rfl) (by rfl) (by rfl) (by rfl) (by rfl) (by rfl) ?_
      | refine q_len_str (by rfl) (by rfl) (by rfl) ?_
      | refine q_len_slice (by rfl) (by rfl) (by rfl) ?_
      | refine q_not (by rfl) (by rfl) (by rfl) ?_
      | refine q_extract (by rfl) (by rfl) (by rfl) (by rfl) ?_
      | refine q_add (by rfl) (by rfl) (by rfl) (by rfl) (by omega) ?_
      | refine q_sub (by rfl) (by rfl) (by rfl) (by rfl) (by omega) ?_
      | refine q_add_u8 (by rfl) (by rfl) (by rfl) (by rfl) (by omega) ?_
      | refine q_sub_u8 (by rfl) (by rfl) (by rfl) (by rfl) (by omega) ?_
      | refine q_slice_str (by rfl) (by rfl) (by rfl) (by rfl) (by rfl) (by omega) ?_
      | refine q_slice_from (by rfl) (by rfl) (by rfl) (by rfl) (by omega) ?_
      | refine q_slice_to (by rfl) (by rfl) (by rfl) (by rfl) (by omega) ?_
      | refine q_fieldAddr (by rfl) (by rfl) (by rfl) ?_
      | refine q_load1 (by rfl) (by rfl) (by rfl) (by assumption) (by rfl) ?_
      | refine wq_skip (by rfl) (by rfl) (by rfl) ?_
      | (refine wq_split_dec (by rfl) (by rfl) (by rfl) (fun _ => ?_) (fun _ => ?_) <;> (try first | contradiction | (exfalso; omega)))
      | (refine wq_split (by rfl) (by rfl) (by rfl) (fun _ => ?_) (fun _ => ?_) <;> (fail_if_success contradiction)))
    all_goals try (exfalso; first | omega | contradiction)
    all_goals exact ⟨I10, [], ⟨by simp, rfl⟩, hm.left (H := [])⟩
  · skip
    repeat' (first
      | (refine m_call (d := 15) hm (by rfl) (by rfl) (by rfl) (by first | exact pm0 | exact pm1_0 | exact pm1_1 | exact pm1_2 | exact pm1_3 | exact pm2_0 | exact pm2_1 | exact pm2_2 | exact pm2_3 | exact pm2_4 | exact pm3_0 | exact pm3_1 | exact pm3_2) (hF _ (Le.refl _)) ?_; clear hm; rintro _ I2 _ _ ⟨a, cp, xs, rfl, hrow, hits, rfl⟩ hle hm; have hleI2 := hle; try simp only [setn] at hm)
      | (refine m_call (d := 20) hm (by rfl) (by rfl) (by rfl) (by first | exact pm0 | exact pm1_0 | exact pm1_1 | exact pm1_2 | exact pm1_3 | exact pm2_0 | exact pm2_1 | exact pm2_2 | exact pm2_3 | exact pm2_4 | exact pm3_0 | exact pm3_1 | exact pm3_2) (hR _) ?_; clear hm; rintro _ I3 _ _ ⟨a2, cp2, xs2, rfl, hrow2, hits2, rfl⟩ hle hm; have hleI3 := hle; try simp only [setn] at hm)
      | (refine m_call (d := 29) hm (by rfl) (by rfl) (by rfl) (by first | exact pm0 | exact pm1_0 | exact pm1_1 | exact pm1_2 | exact pm1_3 | exact pm2_0 | exact pm2_1 | exact pm2_2 | exact pm2_3 | exact pm2_4 | exact pm3_0 | exact pm3_1 | exact pm3_2) (p_sameFile its (by omega) hst _ a a2 cp cp2 xs xs2 (hrow.le hleI3) (hits.le hleI3) hrow2 hits2) ?_; clear hm; rintro _ I4 _ _ ⟨rfl, rfl⟩ hle hm; have hleI4 := hle; try simp only [setn] at hm)
      | (refine m_call (d := 37) hm (by rfl) (by rfl) (by rfl) (by first | exact pm0 | exact pm1_0 | exact pm1_1 | exact pm1_2 | exact pm1_3 | exact pm2_0 | exact pm2_1 | exact pm2_2 | exact pm2_3 | exact pm2_4 | exact pm3_0 | exact pm3_1 | exact pm3_2) (hP _ ((hleI2.trans hleI3).trans hleI4)) ?_; clear hm; rintro _ I5 _ _ ⟨_, rfl, ⟨ap, pc, as_, sc, ab, bc, ad, dc, xb, rfl, r1, r2, r3, r4, r5⟩, rfl⟩ hle hm; have hleI5 := hle; try simp only [setn] at hm)
      | (refine wc_mix_mem (id := 7) (hm.perm pm0) [([0,1,2],[3,4]),([5,6,7,9],[8]),([],[10])] 11 (by kernel_rfl) ?_; clear hm; intro wd hR hm)
      | (refine mt_call (d := 41) hm (by rfl) (by rfl) (by rfl) (by first | exact pm0 | exact pm1_0 | exact pm1_1 | exact pm1_2 | exact pm1_3 | exact pm2_0 | exact pm2_1 | exact pm2_2 | exact pm2_3 | exact pm2_4 | exact pm3_0 | exact pm3_1 | exact pm3_2) (hQ _) ?_; clear hm; rintro _ I6 _ _ ⟨_, rfl, hq, rfl⟩ hle hm; have hleI6 := hle; try simp only [setn] at hm)
      | (refine mt_call (d := 42) hm (by rfl) (by rfl) (by rfl) (by first | exact pm0 | exact pm1_0 | exact pm1_1 | exact pm1_2 | exact pm1_3 | exact pm2_0 | exact pm2_1 | exact pm2_2 | exact pm2_3 | exact pm2_4 | exact pm3_0 | exact pm3_1 | exact pm3_2) (p_sameItem it hsm _ _ _ (ItAt.le hleI6 ⟨ap, pc, as_, sc, ab, bc, ad, dc, xb, rfl, r1, r2, r3, r4, r5⟩) hq) ?_; clear hm; rintro _ I7 _ _ ⟨rfl, rfl⟩ hle hm; have hleI7 := hle; try simp only [setn] at hm)
      | (refine mt_call (d := 46) hm (by rfl) (by rfl) (by rfl) (by first | exact pm0 | exact pm1_0 | exact pm1_1 | exact pm1_2 | exact pm1_3 | exact pm2_0 | exact pm2_1 | exact pm2_2 | exact pm2_3 | exact pm2_4 | exact pm3_0 | exact pm3_1 | exact pm3_2) (p_own it hsm _ _ (ItAt.le (hleI6.trans hleI7) ⟨ap, pc, as_, sc, ab, bc, ad, dc, xb, rfl, r1, r2, r3, r4, r5⟩)) ?_; clear hm; rintro _ I8 _ _ ⟨_, rfl, ho, rfl⟩ hle hm; have hleI8 := hle; try simp only [setn] at hm)
      | (refine mt_call (d := 48) hm (by rfl) (by rfl) (by rfl) (by first | exact pm0 | exact pm1_0 | exact pm1_1 | exact pm1_2 | exact pm1_3 | exact pm2_0 | exact pm2_1 | exact pm2_2 | exact pm2_3 | exact pm2_4 | exact pm3_0 | exact pm3_1 | exact pm3_2) (p_sameItem it hsm _ _ _ ho (ItAt.le ((hleI6.trans hleI7).trans hleI8) ⟨ap, pc, as_, sc, ab, bc, ad, dc, xb, rfl, r1, r2, r3, r4, r5⟩)) ?_; clear hm; rintro _ I9 _ _ ⟨rfl, rfl⟩ hle hm; have hleI9 := hle; try simp only [setn] at hm)
      | (refine m_call (d := 54) hm (by rfl) (by rfl) (by rfl) (by first | exact pm0 | exact pm1_0 | exact pm1_1 | exact pm1_2 | exact pm1_3 | exact pm2_0 | exact pm2_1 | exact pm2_2 | exact pm2_3 | exact pm2_4 | exact pm3_0 | exact pm3_1 | exact pm3_2) (hG _) ?_; clear hm; rintro _ I10 _ _ ⟨rfl, rfl⟩ hle hm; have hleI10 := hle; try simp only [setn] at hm)
      | (refine q_add_str (d := 115) (by rfl) (by rfl) (by rfl) (by rfl) (by simp only [List.length_append, List.length_take]; omega) ?_)
      | (refine q_add_str (d := 120) (by rfl) (by rfl) (by rfl) (by rfl) (by simp only [List.length_append, List.length_take, List.length_drop]; omega) ?_)
      | refine mw_loadAll hR (by rfl) (by rfl) (by rfl) (by first | exact gt0 | exact gt1 | exact gt2 | exact gt3 | exact gt4 | exact gt5 | exact gt6) (by rfl) ?_
      | refine mw_load1 hR (by rfl) (by rfl) (by rfl) (by first | exact gt0 | exact gt1 | exact gt2 | exact gt3 | exact gt4 | exact gt5 | exact gt6) (by rfl) ?_
      | refine iw_load1 hR (by rfl) (by rfl) (by rfl) (by assumption) (by rfl) ?_
      | refine mt_struct hm (by rfl) (by rfl) (by rfl) (by rfl) ?_
      | refine iw_loadN hR (by rfl) (by rfl) (by rfl) (by assumption) (by rfl) ?_
      | refine mw_loadN hR (by rfl) (by rfl) (by rfl) (by first | exact gt0 | exact gt1 | exact gt2 | exact gt3 | exact gt4 | exact gt5 | exact gt6) (by rfl) (by rfl) ?_
      | refine wx_cons ?_
      | refine wv_nilX ?_
      | refine ws_nil ?_
      | refine at_X ?_
      | (refine wx_nil ?_; replace hm := hR.back hm; clear hR; try simp only [setn] at hm)
      | (refine m_box (d := 5) hm (by rfl) (by rfl) (by rfl) (by rfl) ?_; clear hm; intro b5 _ hm)
      | (refine m_varS (d := 7) hm (by rfl) (by rfl) (by rfl) (by rfl) (by rfl) ?_; clear hm; intro b7 _ hm)
      | (refine m_var1 (d := 7) hm (by rfl) (by rfl) (by rfl) (by rfl) (by rfl) ?_; clear hm; intro b7 _ hm)
      | (refine m_varS (d := 9) hm (by rfl) (by rfl) (by rfl) (by rfl) (by rfl) ?_; clear hm; intro b9 _ hm)
      | (refine m_var1 (d := 9) hm (by rfl) (by rfl) (by rfl) (by rfl) (by rfl) ?_; clear hm; intro b9 _ hm)
      | (refine m_varS (d := 11) hm (by rfl) (by rfl) (by rfl) (by rfl) (by rfl) ?_; clear hm; intro b11 _ hm)
      | (refine m_var1 (d := 11) hm (by rfl) (by rfl) (by rfl) (by rfl) (by rfl) ?_; clear hm; intro b11 _ hm)
      | refine m_load1 hm (by rfl) (by rfl) (by rfl) (by first | exact gt0 | exact gt1 | exact gt2 | exact gt3 | exact gt4 | exact gt5 | exact gt6) (by rfl) ?_
      | refine i_load1 hm (by rfl) (by rfl) (by rfl) (by assumption) (by rfl) ?_
      | refine m_loadAll hm (by rfl) (by rfl) (by rfl) (by first | exact gt0 | exact gt1 | exact gt2 | exact gt3 | exact gt4 | exact gt5 | exact gt6) (by rfl) ?_
      | refine i_loadN hm (by rfl) (by rfl) (by rfl) (by assumption) (by rfl) ?_
      | refine i_load1z hm (by rfl) (by rfl) (by rfl) (by assumption) (by rfl) ?_
      | refine mq_load1 hm (by rfl) (by rfl) (by rfl) (by first | exact gt0 | exact gt1 | exact gt2 | exact gt3 | exact gt4 | exact gt5 | exact gt6) (by rfl) ?_
      | refine iq_load1 hm (by rfl) (by rfl) (by rfl) (by assumption) (by rfl) ?_
      | refine mq_loadAll hm (by rfl) (by rfl) (by rfl) (by first | exact gt0 | exact gt1 | exact gt2 | exact gt3 | exact gt4 | exact gt5 | exact gt6) (by rfl) ?_
      | refine iq_loadN hm (by rfl) (by rfl) (by rfl) (by assumption) (by rfl) ?_
      | refine iq_load1z hm (by rfl) (by rfl) (by rfl) (by assumption) (by rfl) ?_
      | (refine m_storeAll hm (by rfl) (by rfl) (by rfl) (by rfl) (by first | exact gt0 | exact gt1 | exact gt2 | exact gt3 | exact gt4 | exact gt5 | exact gt6) (by rfl) (by rfl) (by rfl) ?_; clear hm; intro _ hm; try simp only [setn] at hm)
      | (refine m_store1 hm (by rfl) (by rfl) (by rfl) (by rfl) (by first | exact gt0 | exact gt1 | exact gt2 | exact gt3 | exact gt4 | exact gt5 | exact gt6) (by rfl) (by rfl) (by rfl) ?_; clear hm; intro _ hm; try simp only [setn] at hm)
      | (refine m_storeN hm (by rfl) (by rfl) (by rfl) (by rfl) (by first | exact gt0 | exact gt1 | exact gt2 | exact gt3 | exact gt4 | exact gt5 | exact gt6) (by rfl) (by rfl) (by rfl) ?_; clear hm; intro _ hm; try simp only [setn] at hm)
      | refine m_ret_agg hm (by rfl) (by rfl) (by first | exact gt0 | exact gt1 | exact gt2 | exact gt3 | exact gt4 | exact gt5 | exact gt6) (by rfl) ?_
      | refine m_ret2_agg hm (by rfl) (by rfl) (by rfl) (by first | exact gt0 | exact gt1 | exact gt2 | exact gt3 | exact gt4 | exact gt5 | exact gt6) (by rfl) ?_
      | refine op_move (by rfl) (by rfl) (by rfl) ?_
      | refine op_assign (by rfl) (by rfl) (by rfl) ?_
      | refine op_pick_true (by rfl) (by rfl) (by rfl) (by rfl) ?_
      | refine op_pick_false (by rfl) (by rfl) (by rfl) (by rfl) ?_
      | refine op_lss (by rfl) (by rfl) (by rfl) (by rfl) ?_
      | refine op_leq (by rfl) (by rfl) (by rfl) (by rfl) ?_
      | refine op_gtr (by rfl) (by rfl) (by rfl) (by rfl) ?_
      | refine op_eql (by rfl) (by rfl) (by rfl) (by rfl) ?_
      | refine op_neq (by rfl) (by rfl) (by rfl) (by rfl) ?_
      | refine op_eql_str (by rfl) (by rfl) (by rfl) (by rfl) ?_
      | refine op_eql_bool (by rfl) (by rfl) (by rfl) (by rfl) ?_
      | refine op_eql_flat (by rfl) (by rfl) (by rfl) (by rfl) (by rfl) (by rfl) ?_
      | refine op_neq_str (by rfl) (by rfl) (by rfl) (by rfl) ?_
      | refine op_neq_bool (by rfl) (by rfl) (by rfl) (by rfl) ?_
      | refine op_neq_flat (by rfl) (by rfl) (by rfl) (by rfl) (by rfl) (by rfl) ?_
      | refine op_len_str (by rfl) (by rfl) (by rfl) ?_
      | refine op_len_slice (by rfl) (by rfl) (by rfl) ?_
      | refine op_not (by rfl) (by rfl) (by rfl) ?_
      | refine op_extract (by rfl) (by rfl) (by rfl) (by rfl) ?_
      | refine op_add (by rfl) (by rfl) (by rfl) (by rfl) (by omega) ?_
      | refine op_sub (by rfl) (by rfl) (by rfl) (by rfl) (by omega) ?_
      | refine op_add_u8 (by rfl) (by rfl) (by rfl) (by rfl) (by omega) ?_
      | refine op_sub_u8 (by rfl) (by rfl) (by rfl) (by rfl) (by omega) ?_
      | refine op_slice_str (by rfl) (by rfl) (by rfl) (by rfl) (by rfl) (by omega) ?_
      | refine op_slice_from (by rfl) (by rfl) (by rfl) (by rfl) (by omega) ?_
      | refine op_slice_to (by rfl) (by rfl) (by rfl) (by rfl) (by omega) ?_
      | refine op_fieldAddr (by rfl) (by rfl) (by rfl) ?_
      | refine op_load1 (by rfl) (by rfl) (by rfl) (by assumption) (by rfl) ?_
      | refine wl_skip (by rfl) (by rfl) (by rfl) ?_
      | (refine wl_split_dec (by rfl) (by rfl) (by rfl) (fun _ => ?_) (fun _ => ?_) <;> (try first | contradiction | (exfalso; omega)))
      | (refine wl_split (by rfl) (by rfl) (by rfl) (fun _ => ?_) (fun _ => ?_) <;> (fail_if_success contradiction))
      | refine wl_nil ?_
      | refine at_then_normal ?_
      | refine at_then_ret ?_
      | refine wc_seq ?_
      | refine wc_region ?_
      | refine wc_skip ?_
      | refine wc_ret ?_
      | refine at_ret1 (by rfl) (by rfl) ?_
      | refine wc_quiet (by kernel_rfl) ?_
      | (refine wq_nil ?_; intro _ hkq; replace hm := hm.kept0 hkq; clear hkq)
      | (refine wq_nil_tail ?_; intro _ hkq; replace hm := hm.kept0 hkq; clear hkq)
      | refine wc_cond_true (by rfl) ?_
      | refine wc_cond_false (by rfl) ?_
      | (refine wc_cond_dec (by rfl) (fun _ => ?_) (fun _ => ?_) <;> (try first | contradiction | (exfalso; omega)))
      | refine wc_cond (by rfl) (fun _ => ?_) (fun _ => ?_)
      | refine q_move (by rfl) (by rfl) (by rfl) ?_
      | refine q_assign (by rfl) (by rfl) (by rfl) ?_
      | refine q_pick_true (by rfl) (by rfl) (by rfl) (by rfl) ?_
      | refine q_pick_false (by rfl) (by rfl) (by rfl) (by rfl) ?_
      | refine q_lss (by rfl) (by rfl) (by rfl) (by rfl) ?_
      | refine q_leq (by rfl) (by rfl) (by rfl) (by rfl) ?_
      | refine q_gtr (by rfl) (by rfl) (by rfl) (by rfl) ?_
      | refine q_eql (by rfl) (by rfl) (by rfl) (by rfl) ?_
      | refine q_neq (by rfl) (by rfl) (by rfl) (by rfl) ?_
      | refine q_eql_str (by rfl) (by rfl) (by rfl) (by rfl) ?_
      | refine q_eql_bool (by rfl) (by rfl) (by rfl) (by rfl) ?_
      | refine q_eql_flat (by rfl) (by rfl) (by rfl) (by rfl) (by rfl) (by rfl) ?_
      | refine q_neq_str (by rfl) (by rfl) (by rfl) (by rfl) ?_
      | refine q_neq_bool (by rfl) (by rfl) (by rfl) (by rfl) ?_
      | refine q_neq_flat (by rfl) (by rfl) (by rfl) (by rfl) (by rfl) (by rfl) ?_
      | refine q_len_str (by rfl) (by rfl) (by rfl) ?_
      | refine q_len_slice (by rfl) (by rfl) (by rfl) ?_
      | refine q_not (by rfl) (by rfl) (by rfl) ?_
      | refine q_extract (by rfl) (by rfl) (by rfl) (by rfl) ?_
      | refine q_add (by rfl) (by rfl) (by rfl) (by rfl) (by omega) ?_
      | refine q_sub (by rfl) (by rfl) (by rfl) (by rfl) (by omega) ?_
      | refine q_add_u8 (by rfl) (by rfl) (by rfl) (by rfl) (by omega) ?_
      | refine q_sub_u8 (by rfl) (by rfl) (by rfl) (by rfl) (by omega) ?_
      | refine q_slice_str (by rfl) (by rfl) (by rfl) (by rfl) (by rfl) (by omega) ?_
      | refine q_slice_from (by rfl) (by rfl) (by rfl) (by rfl) (by omega) ?_
      | refine q_slice_to (by rfl) (by rfl) (by rfl) (by rfl) (by omega) ?_
      | refine q_fieldAddr (by rfl) (by rfl) (by rfl) ?_
      | refine q_load1 (by rfl) (by rfl) (by rfl) (by assumption) (by rfl) ?_
      | refine wq_skip (by rfl) (by rfl) (by rfl) ?_
      | (refine wq_split_dec (by rfl) (by rfl) (by rfl) (fun _ => ?_) (fun _ => ?_) <;> (try first | contradiction | (exfalso; omega)))
      | (refine wq_split (by rfl) (by rfl) (by rfl) (fun _ => ?_) (fun _ => ?_) <;> (fail_if_success contradiction))
      | refine v_move (by rfl) (by rfl) (by rfl) ?_
      | refine v_assign (by rfl) (by rfl) (by rfl) ?_
      | refine v_pick_true (by rfl) (by rfl) (by rfl) (by rfl) ?_
      | refine v_pick_false (by rfl) (by rfl) (by rfl) (by rfl) ?_
      | refine v_lss (by rfl) (by rfl) (by rfl) (by rfl) ?_
      | refine v_leq (by rfl) (by rfl) (by rfl) (by rfl) ?_
      | refine v_gtr (by rfl) (by rfl) (by rfl) (by rfl) ?_
      | refine v_eql (by rfl) (by rfl) (by rfl) (by rfl) ?_
      | refine v_neq (by rfl) (by rfl) (by rfl) (by rfl) ?_
      | refine v_eql_str (by rfl) (by rfl) (by rfl) (by rfl) ?_
      | refine v_eql_bool (by rfl) (by rfl) (by rfl) (by rfl) ?_
      | refine v_eql_flat (by rfl) (by rfl) (by rfl) (by rfl) (by rfl) (by rfl) ?_
      | refine v_neq_str (by rfl) (by rfl) (by rfl) (by rfl) ?_
      | refine v_neq_bool (by rfl) (by rfl) (by rfl) (by rfl) ?_
      | refine v_neq_flat (by rfl) (by rfl) (by rfl) (by rfl) (by rfl) (by rfl) ?_
      | refine v_len_str (by rfl) (by rfl) (by rfl) ?_
      | refine v_len_slice (by rfl) (by rfl) (by rfl) ?_
      | refine v_not (by rfl) (by rfl) (by rfl) ?_
      | refine v_extract (by rfl) (by rfl) (by rfl) (by rfl) ?_
      | refine v_add (by rfl) (by rfl) (by rfl) (by rfl) (by omega) ?_
      | refine v_sub (by rfl) (by rfl) (by rfl) (by rfl) (by omega) ?_
      | refine v_add_u8 (by rfl) (by rfl) (by rfl) (by rfl) (by omega) ?_
      | refine v_sub_u8 (by rfl) (by rfl) (by rfl) (by rfl) (by omega) ?_
      | refine v_slice_str (by rfl) (by rfl) (by rfl) (by rfl) (by rfl) (by omega) ?_
      | refine v_slice_from (by rfl) (by rfl) (by rfl) (by rfl) (by omega) ?_
      | refine v_slice_to (by rfl) (by rfl) (by rfl) (by rfl) (by omega) ?_
      | refine v_fieldAddr (by rfl) (by rfl) (by rfl) ?_
      | refine v_load1 (by rfl) (by rfl) (by rfl) (by assumption) (by rfl) ?_
      | refine wv_skip (by rfl) (by rfl) (by rfl) ?_
      | (refine wv_split (by rfl) (by rfl) (by rfl) (fun _ => ?_) (fun _ => ?_) <;> (fail_if_success contradiction))
      | refine wv_nil ?_
      | refine ws_nil ?_)
    all_goals try (exfalso; first | omega | contradiction)
    all_goals exact ⟨I10, [], ⟨by simp, rfl⟩, hm.left (H := [])⟩
  · skip
    repeat' (first
      | (refine m_call (d := 15) hm (by rfl) (by rfl) (by rfl) (by first | exact pm0 | exact pm1_0 | exact pm1_1 | exact pm1_2 | exact pm1_3 | exact pm2_0 | exact pm2_1 | exact pm2_2 | exact pm2_3 | exact pm2_4 | exact pm3_0 | exact pm3_1 | exact pm3_2) (hF _ (Le.refl _)) ?_; clear hm; rintro _ I2 _ _ ⟨a, cp, xs, rfl, hrow, hits, rfl⟩ hle hm; have hleI2 := hle; try simp only [setn] at hm)
      | (refine m_call (d := 20) hm (by rfl) (by rfl) (by rfl) (by first | exact pm0 | exact pm1_0 | exact pm1_1 | exact pm1_2 | exact pm1_3 | exact pm2_0 | exact pm2_1 | exact pm2_2 | exact pm2_3 | exact pm2_4 | exact pm3_0 | exact pm3_1 | exact pm3_2) (hR _) ?_; clear hm; rintro _ I3 _ _ ⟨a2, cp2, xs2, rfl, hrow2, hits2, rfl⟩ hle hm; have hleI3 := hle; try simp only [setn] at hm)
      | (refine m_call (d := 29) hm (by rfl) (by rfl) (by rfl) (by first | exact pm0 | exact pm1_0 | exact pm1_1 | exact pm1_2 | exact pm1_3 | exact pm2_0 | exact pm2_1 | exact pm2_2 | exact pm2_3 | exact pm2_4 | exact pm3_0 | exact pm3_1 | exact pm3_2) (p_sameFile its (by omega) hst _ a a2 cp cp2 xs xs2 (hrow.le hleI3) (hits.le hleI3) hrow2 hits2) ?_; clear hm; rintro _ I4 _ _ ⟨rfl, rfl⟩ hle hm; have hleI4 := hle; try simp only [setn] at hm)
      | (refine m_call (d := 54) hm (by rfl) (by rfl) (by rfl) (by first | exact pm0 | exact pm1_0 | exact pm1_1 | exact pm1_2 | exact pm1_3 | exact pm2_0 | exact pm2_1 | exact pm2_2 | exact pm2_3 | exact pm2_4 | exact pm3_0 | exact pm3_1 | exact pm3_2) (hG _) ?_; clear hm; rintro _ I10 _ _ ⟨rfl, rfl⟩ hle hm; have hleI10 := hle; try simp only [setn] at hm)
      | (refine q_add_str (d := 115) (by rfl) (by rfl) (by rfl) (by rfl) (by simp only [List.length_append, List.length_take]; omega) ?_)
      | (refine q_add_str (d := 120) (by rfl) (by rfl) (by rfl) (by rfl) (by simp only [List.length_append, List.length_take, List.length_drop]; omega) ?_)
      | (refine m_box (d := 5) hm (by rfl) (by rfl) (by rfl) (by rfl) ?_; clear hm; intro b5 _ hm)
      | (refine m_varS (d := 7) hm (by rfl) (by rfl) (by rfl) (by rfl) (by rfl) ?_; clear hm; intro b7 _ hm)
      | (refine m_var1 (d := 7) hm (by rfl) (by rfl) (by rfl) (by rfl) (by rfl) ?_; clear hm; intro b7 _ hm)
      | (refine m_varS (d := 9) hm (by rfl) (by rfl) (by rfl) (by rfl) (by rfl) ?_; clear hm; intro b9 _ hm)
      | (refine m_var1 (d := 9) hm (by rfl) (by rfl) (by rfl) (by rfl) (by rfl) ?_; clear hm; intro b9 _ hm)
      | (refine m_varS (d := 11) hm (by rfl) (by rfl) (by rfl) (by rfl) (by rfl) ?_; clear hm; intro b11 _ hm)
      | (refine m_var1 (d := 11) hm (by rfl) (by rfl) (by rfl) (by rfl) (by rfl) ?_; clear hm; intro b11 _ hm)
      | refine m_load1 hm (by rfl) (by rfl) (by rfl) (by first | exact gt0 | exact gt1 | exact gt2 | exact gt3 | exact gt4 | exact gt5 | exact gt6) (by rfl) ?_
      | refine i_load1 hm (by rfl) (by rfl) (by rfl) (by assumption) (by rfl) ?_
      | refine m_loadAll hm (by rfl) (by rfl) (by rfl) (by first | exact gt0 | exact gt1 | exact gt2 | exact gt3 | exact gt4 | exact gt5 | exact gt6) (by rfl) ?_
      | refine i_loadN hm (by rfl) (by rfl) (by rfl) (by assumption) (by rfl) ?_
      | refine i_load1z hm (by rfl) (by rfl) (by rfl) (by assumption) (by rfl) ?_
      | refine mq_load1 hm (by rfl) (by rfl) (by rfl) (by first | exact gt0 | exact gt1 | exact gt2 | exact gt3 | exact gt4 | exact gt5 | exact gt6) (by rfl) ?_
      | refine iq_load1 hm (by rfl) (by rfl) (by rfl) (by assumption) (by rfl) ?_
      | refine mq_loadAll hm (by rfl) (by rfl) (by rfl) (by first | exact gt0 | exact gt1 | exact gt2 | exact gt3 | exact gt4 | exact gt5 | exact gt6) (by rfl) ?_
      | refine iq_loadN hm (by rfl) (by rfl) (by rfl) (by assumption) (by rfl) ?_
      | refine iq_load1z hm (by rfl) (by rfl) (by rfl) (by assumption) (by rfl) ?_
      | (refine m_storeAll hm (by rfl) (by rfl) (by rfl) (by rfl) (by first | exact gt0 | exact gt1 | exact gt2 | exact gt3 | exact gt4 | exact gt5 | exact gt6) (by rfl) (by rfl) (by rfl) ?_; clear hm; intro _ hm; try simp only [setn] at hm)
      | (refine m_store1 hm (by rfl) (by rfl) (by rfl) (by rfl) (by first | exact gt0 | exact gt1 | exact gt2 | exact gt3 | exact gt4 | exact gt5 | exact gt6) (by rfl) (by rfl) (by rfl) ?_; clear hm; intro _ hm; try simp only [setn] at hm)
      | (refine m_storeN hm (by rfl) (by rfl) (by rfl) (by rfl) (by first | exact gt0 | exact gt1 | exact gt2 | exact gt3 | exact gt4 | exact gt5 | exact gt6) (by rfl) (by rfl) (by rfl) ?_; clear hm; intro _ hm; try simp only [setn] at hm)
      | refine m_ret_agg hm (by rfl) (by rfl) (by first | exact gt0 | exact gt1 | exact gt2 | exact gt3 | exact gt4 | exact gt5 | exact gt6) (by rfl) ?_
      | refine m_ret2_agg hm (by rfl) (by rfl) (by rfl) (by first | exact gt0 | exact gt1 | exact gt2 | exact gt3 | exact gt4 | exact gt5 | exact gt6) (by rfl) ?_
      | refine op_move (by rfl) (by rfl) (by rfl) ?_
      | refine op_assign (by rfl) (by rfl) (by rfl) ?_
      | refine op_pick_true (by rfl) (by rfl) (by rfl) (by rfl) ?_
      | refine op_pick_false (by rfl) (by rfl) (by rfl) (by rfl) ?_
      | refine op_lss (by rfl) (by rfl) (by rfl) (by rfl) ?_
      | refine op_leq (by rfl) (by rfl) (by rfl) (by rfl) ?_
      | refine op_gtr (by rfl) (by rfl) (by rfl) (by rfl) ?_
      | refine op_eql (by rfl) (by rfl) (by rfl) (by rfl) ?_
      | refine op_neq (by rfl) (by rfl) (by rfl) (by rfl) ?_
      | refine op_eql_str (by rfl) (by rfl) (by rfl) (by rfl) ?_
      | refine op_eql_bool (by rfl) (by rfl) (by rfl) (by rfl) ?_
      | refine op_eql_flat (by rfl) (by rfl) (by rfl) (by rfl) (by rfl) (by rfl) ?_
      | refine op_neq_str (by rfl) (by rfl) (by rfl) (by rfl) ?_
      | refine op_neq_bool (by rfl) (by rfl) (by rfl) (by rfl) ?_
      | refine op_neq_flat (by rfl) (by rfl) (by rfl) (by rfl) (by rfl) (by rfl) ?_
      | refine op_len_str (by rfl) (by rfl) (by rfl) ?_
      | refine op_len_slice (by rfl) (by rfl) (by rfl) ?_
      | refine op_not (by rfl) (by rfl) (by rfl) ?_
      | refine op_extract (by rfl) (by rfl) (by rfl) (by rfl) ?_
      | refine op_add (by rfl) (by rfl) (by rfl) (by rfl) (by omega) ?_
      | refine op_sub (by rfl) (by rfl) (by rfl) (by rfl) (by omega) ?_
      | refine op_add_u8 (by rfl) (by rfl) (by rfl) (by rfl) (by omega) ?_
      | refine op_sub_u8 (by rfl) (by rfl) (by rfl) (by rfl) (by omega) ?_
      | refine op_slice_str (by rfl) (by rfl) (by rfl) (by rfl) (by rfl) (by omega) ?_
      | refine op_slice_from (by rfl) (by rfl) (by rfl) (by rfl) (by omega) ?_
      | refine op_slice_to (by rfl) (by rfl) (by rfl) (by rfl) (by omega) ?_
      | refine op_fieldAddr (by rfl) (by rfl) (by rfl) ?_
      | refine op_load1 (by rfl) (by rfl) (by rfl) (by assumption) (by rfl) ?_
      | refine wl_skip (by rfl) (by rfl) (by rfl) ?_
      | (refine wl_split_dec (by rfl) (by rfl) (by rfl) (fun _ => ?_) (fun _ => ?_) <;> (try first | contradiction | (exfalso; omega)))
      | (refine wl_split (by rfl) (by rfl) (by rfl) (fun _ => ?_) (fun _ => ?_) <;> (fail_if_success contradiction))
      | refine wl_nil ?_
      | refine at_then_normal ?_
      | refine at_then_ret ?_
      | refine wc_seq ?_
      | refine wc_region ?_
      | refine wc_skip ?_
      | refine wc_ret ?_
      | refine at_ret1 (by rfl) (by rfl) ?_
      | refine wc_quiet (by kernel_rfl) ?_
      | (refine wq_nil ?_; intro _ hkq; replace hm := hm.kept0 hkq; clear hkq)
      | (refine wq_nil_tail ?_; intro _ hkq; replace hm := hm.kept0 hkq; clear hkq)
      | refine wc_cond_true (by rfl) ?_
      | refine wc_cond_false (by rfl) ?_
      | (refine wc_cond_dec (by rfl) (fun _ => ?_) (fun _ => ?_) <;> (try first | contradiction | (exfalso; omega)))
      | refine wc_cond (by rfl) (fun _ => ?_) (fun _ => ?_)
      | refine q_move (by rfl) (by rfl) (by rfl) ?_
      | refine q_assign (by rfl) (by rfl) (by rfl) ?_
      | refine q_pick_true (by rfl) (by rfl) (by rfl) (by rfl) ?_
      | refine q_pick_false (by rfl) (by rfl) (by rfl) (by rfl) ?_
      | refine q_lss (by rfl) (by rfl) (by rfl) (by rfl) ?_
      | refine q_leq (by rfl) (by rfl) (by rfl) (by rfl) ?_
      | refine q_gtr (by rfl) (by rfl) (by rfl) (by rfl) ?_
      | refine q_eql (by rfl) (by rfl) (by rfl) (by rfl) ?_
      | refine q_neq (by rfl) (by rfl) (by rfl) (by rfl) ?_
      | refine q_eql_str (by rfl) (by rfl) (by rfl) (by rfl) ?_
      | refine q_eql_bool (by rfl) (by rfl) (by rfl) (by rfl) ?_
      | refine q_eql_flat (by rfl) (by rfl) (by rfl) (by rfl) (by rfl) (by rfl) ?_
      | refine q_neq_str (by rfl) (by rfl) (by rfl) (by rfl) ?_
      | refine q_neq_bool (by rfl) (by rfl) (by rfl) (by rfl) ?_
      | refine q_neq_flat (by rfl) (by rfl) (by rfl) (by rfl) (by rfl) (by rfl) ?_
      | refine q_len_str (by rfl) (by rfl) (by rfl) ?_
      | refine q_len_slice (by rfl) (by rfl) (by rfl) ?_
      | refine q_not (by rfl) (by rfl) (by rfl) ?_
      | refine q_extract (by rfl) (by rfl) (by rfl) (by rfl) ?_
      | refine q_add (by rfl) (by rfl) (by rfl) (by rfl) (by omega) ?_
      | refine q_sub (by rfl) (by rfl) (by rfl) (by rfl) (by omega) ?_
      | refine q_add_u8 (by rfl) (by rfl) (by rfl) (by rfl) (by omega) ?_
      | refine q_sub_u8 (by rfl) (by rfl) (by rfl) (by rfl) (by omega) ?_
      | refine q_slice_str (by rfl) (by rfl) (by rfl) (by rfl) (by rfl) (by omega) ?_
      | refine q_slice_from (by rfl) (by rfl) (by rfl) (by rfl) (by omega) ?_
      | refine q_slice_to (by rfl) (by rfl) (by rfl) (by rfl) (by omega) ?_
      | refine q_fieldAddr (by rfl) (by rfl) (by rfl) ?_
      | refine q_load1 (by rfl) (by rfl) (by rfl) (by assumption) (by rfl) ?_
      | refine wq_skip (by rfl) (by rfl) (by rfl) ?_
      | (refine wq_split_dec (by rfl) (by rfl) (by rfl) (fun _ => ?_) (fun _ => ?_) <;> (try first | contradiction | (exfalso; omega)))
      | (refine wq_split (by rfl) (by rfl) (by rfl) (fun _ => ?_) (fun _ => ?_) <;> (fail_if_success contradiction)))
    all_goals try (exfalso; first | omega | contradiction)
    all_goals exact ⟨I10, [], ⟨by simp, rfl⟩, hm.left (H := [])⟩
  · skip
    repeat' (first
      | (refine m_call (d := 15) hm (by rfl) (by rfl) (by rfl) (by first | exact pm0 | exact pm1_0 | exact pm1_1 | exact pm1_2 | exact pm1_3 | exact pm2_0 | exact pm2_1 | exact pm2_2 | exact pm2_3 | exact pm2_4 | exact pm3_0 | exact pm3_1 | exact pm3_2) (hF _ (Le.refl _)) ?_; clear hm; rintro _ I2 _ _ ⟨a, cp, xs, rfl, hrow, hits, rfl⟩ hle hm; have hleI2 := hle; try simp only [setn] at hm)
      | (refine m_call (d := 20) hm (by rfl) (by rfl) (by rfl) (by first | exact pm0 | exact pm1_0 | exact pm1_1 | exact pm1_2 | exact pm1_3 | exact pm2_0 | exact pm2_1 | exact pm2_2 | exact pm2_3 | exact pm2_4 | exact pm3_0 | exact pm3_1 | exact pm3_2) (hR _) ?_; clear hm; rintro _ I3 _ _ ⟨a2, cp2, xs2, rfl, hrow2, hits2, rfl⟩ hle hm; have hleI3 := hle; try simp only [setn] at hm)
      | (refine m_call (d := 29) hm (by rfl) (by rfl) (by rfl) (by first | exact pm0 | exact pm1_0 | exact pm1_1 | exact pm1_2 | exact pm1_3 | exact pm2_0 | exact pm2_1 | exact pm2_2 | exact pm2_3 | exact pm2_4 | exact pm3_0 | exact pm3_1 | exact pm3_2) (p_sameFile its (by omega) hst _ a a2 cp cp2 xs xs2 (hrow.le hleI3) (hits.le hleI3) hrow2 hits2) ?_; clear hm; rintro _ I4 _ _ ⟨rfl, rfl⟩ hle hm; have hleI4 := hle; try simp only [setn] at hm)
      | (refine m_call (d := 37) hm (by rfl) (by rfl) (by rfl) (by first | exact pm0 | exact pm1_0 | exact pm1_1 | exact pm1_2 | exact pm1_3 | exact pm2_0 | exact pm2_1 | exact pm2_2 | exact pm2_3 | exact pm2_4 | exact pm3_0 | exact pm3_1 | exact pm3_2) (hP _ ((hleI2.trans hleI3).trans hleI4)) ?_; clear hm; rintro _ I5 _ _ ⟨_, rfl, ⟨ap, pc, as_, sc, ab, bc, ad, dc, xb, rfl, r1, r2, r3, r4, r5⟩, rfl⟩ hle hm; have hleI5 := hle; try simp only [setn] at hm)
      | (refine wc_mix_mem (id := 7) (hm.perm pm0) [([0,1,2],[3,4]),([5,6,7,9],[8]),([],[10])] 11 (by kernel_rfl) ?_; clear hm; intro wd hR hm)
      | (refine mt_call (d := 41) hm (by rfl) (by rfl) (by rfl) (by first | exact pm0 | exact pm1_0 | exact pm1_1 | exact pm1_2 | exact pm1_3 | exact pm2_0 | exact pm2_1 | exact pm2_2 | exact pm2_3 | exact pm2_4 | exact pm3_0 | exact pm3_1 | exact pm3_2) (hQ _) ?_; clear hm; rintro _ I6 _ _ ⟨_, rfl, hq, rfl⟩ hle hm; have hleI6 := hle; try simp only [setn] at hm)
      | (refine mt_call (d := 42) hm (by rfl) (by rfl) (by rfl) (by first | exact pm0 | exact pm1_0 | exact pm1_1 | exact pm1_2 | exact pm1_3 | exact pm2_0 | exact pm2_1 | exact pm2_2 | exact pm2_3 | exact pm2_4 | exact pm3_0 | exact pm3_1 | exact pm3_2) (p_sameItem it hsm _ _ _ (ItAt.le hleI6 ⟨ap, pc, as_, sc, ab, bc, ad, dc, xb, rfl, r1, r2, r3, r4, r5⟩) hq) ?_; clear hm; rintro _ I7 _ _ ⟨rfl, rfl⟩ hle hm; have hleI7 := hle; try simp only [setn] at hm)
      | (refine mt_call (d := 46) hm (by rfl) (by rfl) (by rfl) (by first | exact pm0 | exact pm1_0 | exact pm1_1 | exact pm1_2 | exact pm1_3 | exact pm2_0 | exact pm2_1 | exact pm2_2 | exact pm2_3 | exact pm2_4 | exact pm3_0 | exact pm3_1 | exact pm3_2) (p_own it hsm _ _ (ItAt.le (hleI6.trans hleI7) ⟨ap, pc, as_, sc, ab, bc, ad, dc, xb, rfl, r1, r2, r3, r4, r5⟩)) ?_; clear hm; rintro _ I8 _ _ ⟨_, rfl, ho, rfl⟩ hle hm; have hleI8 := hle; try simp only [setn] at hm)
      | (refine mt_call (d := 48) hm (by rfl) (by rfl) (by rfl) (by first | exact pm0 | exact pm1_0 | exact pm1_1 | exact pm1_2 | exact pm1_3 | exact pm2_0 | exact pm2_1 | exact pm2_2 | exact pm2_3 | exact pm2_4 | exact pm3_0 | exact pm3_1 | exact pm3_2) (p_sameItem it hsm _ _ _ ho (ItAt.le ((hleI6.trans hleI7).trans hleI8) ⟨ap, pc, as_, sc, ab, bc, ad, dc, xb, rfl, r1, r2, r3, r4, r5⟩)) ?_; clear hm; rintro _ I9 _ _ ⟨rfl, rfl⟩ hle hm; have hleI9 := hle; try simp only [setn] at hm)
      | (refine m_call (d := 54) hm (by rfl) (by rfl) (by rfl) (by first | exact pm0 | exact pm1_0 | exact pm1_1 | exact pm1_2 | exact pm1_3 | exact pm2_0 | exact pm2_1 | exact pm2_2 | exact pm2_3 | exact pm2_4 | exact pm3_0 | exact pm3_1 | exact pm3_2) (hG _) ?_; clear hm; rintro _ I10 _ _ ⟨rfl, rfl⟩ hle hm; have hleI10 := hle; try simp only [setn] at hm)
      | (refine q_add_str (d := 115) (by rfl) (by rfl) (by rfl) (by rfl) (by simp only [List.length_append, List.length_take]; omega) ?_)
      | (refine q_add_str (d := 120) (by rfl) (by rfl) (by rfl) (by rfl) (by simp only [List.length_append, List.length_take, List.length_drop]; omega) ?_)
      | refine mw_loadAll hR (by rfl) (by rfl) (by rfl) (by first | exact gt0 | exact gt1 | exact gt2 | exact gt3 | exact gt4 | exact gt5 | exact gt6) (by rfl) ?_
      | refine mw_load1 hR (by rfl) (by rfl) (by rfl) (by first | exact gt0 | exact gt1 | exact gt2 | exact gt3 | exact gt4 | exact gt5 | exact gt6) (by rfl) ?_
      | refine iw_load1 hR (by rfl) (by rfl) (by rfl) (by assumption) (by rfl) ?_
      | refine mt_struct hm (by rfl) (by rfl) (by rfl) (by rfl) ?_
      | refine iw_loadN hR (by rfl) (by rfl) (by rfl) (by assumption) (by rfl) ?_
      | refine mw_loadN hR (by rfl) (by rfl) (by rfl) (by first | exact gt0 | exact gt1 | exact gt2 | exact gt3 | exact gt4 | exact gt5 | exact gt6) (by rfl) (by rfl) ?_
      | refine wx_cons ?_
      | refine wv_nilX ?_
      | refine ws_nil ?_
      | refine at_X ?_
      | (refine wx_nil ?_; replace hm := hR.back hm; clear hR; try simp only [setn] at hm)
      | (refine m_box (d := 5) hm (by rfl) (by rfl) (by rfl) (by rfl) ?_; clear hm; intro b5 _ hm)
      | (refine m_varS (d := 7) hm (by rfl) (by rfl) (by rfl) (by rfl) (by rfl) ?_; clear hm; intro b7 _ hm)
      | (refine m_var1 (d := 7) hm (by rfl) (by rfl) (by rfl) (by rfl) (by rfl) ?_; clear hm; intro b7 _ hm)
      | (refine m_varS (d := 9) hm (by rfl) (by rfl) (by rfl) (by rfl) (by rfl) ?_; clear hm; intro b9 _ hm)
      | (refine m_var1 (d := 9) hm (by rfl) (by rfl) (by rfl) (by rfl) (by rfl) ?_; clear hm; intro b9 _ hm)
      | (refine m_varS (d := 11) hm (by rfl) (by rfl) (by rfl) (by rfl) (by rfl) ?_; clear hm; intro b11 _ hm)
      | (refine m_var1 (d := 11) hm (by rfl) (by rfl) (by rfl) (by rfl) (by rfl) ?_; clear hm; intro b11 _ hm)
      | refine m_load1 hm (by rfl) (by rfl) (by rfl) (by first | exact gt0 | exact gt1 | exact gt2 | exact gt3 | exact gt4 | exact gt5 | exact gt6) (by rfl) ?_
      | refine i_load1 hm (by rfl) (by rfl) (by rfl) (by assumption) (by rfl) ?_
      | refine m_loadAll hm (by rfl) (by rfl) (by rfl) (by first | exact gt0 | exact gt1 | exact gt2 | exact gt3 | exact gt4 | exact gt5 | exact gt6) (by rfl) ?_
      | refine i_loadN hm (by rfl) (by rfl) (by rfl) (by assumption) (by rfl) ?_
      | refine i_load1z hm (by rfl) (by rfl) (by rfl) (by assumption) (by rfl) ?_
      | refine mq_load1 hm (by rfl) (by rfl) (by rfl) (by first | exact gt0 | exact gt1 | exact gt2 | exact gt3 | exact gt4 | exact gt5 | exact gt6) (by rfl) ?_
      | refine iq_load1 hm (by rfl) (by rfl) (by rfl) (by assumption) (by rfl) ?_
      | refine mq_loadAll hm (by rfl) (by rfl) (by rfl) (by first | exact gt0 | exact gt1 | exact gt2 | exact gt3 | exact gt4 | exact gt5 | exact gt6) (by rfl) ?_
      | refine iq_loadN hm (by rfl) (by rfl) (by rfl) (by assumption) (by rfl) ?_
      | refine iq_load1z hm (by rfl) (by rfl) (by rfl) (by assumption) (by rfl) ?_
      | (refine m_storeAll hm (by rfl) (by rfl) (by rfl) (by rfl) (by first | exact gt0 | exact gt1 | exact gt2 | exact gt3 | exact gt4 | exact gt5 | exact gt6) (by rfl) (by rfl) (by rfl) ?_; clear hm; intro _ hm; try simp only [setn] at hm)
      | (refine m_store1 hm (by rfl) (by rfl) (by rfl) (by rfl) (by first | exact gt0 | exact gt1 | exact gt2 | exact gt3 | exact gt4 | exact gt5 | exact gt6) (by rfl) (by rfl) (by rfl) ?_; clear hm; intro _ hm; try simp only [setn] at hm)
      | (refine m_storeN hm (by rfl) (by rfl) (by rfl) (by rfl) (by first | exact gt0 | exact gt1 | exact gt2 | exact gt3 | exact gt4 | exact gt5 | exact gt6) (by rfl) (by rfl) (by rfl) ?_; clear hm; intro _ hm; try simp only [setn] at hm)
      | refine m_ret_agg hm (by rfl) (by rfl) (by first | exact gt0 | exact gt1 | exact gt2 | exact gt3 | exact gt4 | exact gt5 | exact gt6) (by rfl) ?_
      | refine m_ret2_agg hm (by rfl) (by rfl) (by rfl) (by first | exact gt0 | exact gt1 | exact gt2 | exact gt3 | exact gt4 | exact gt5 | exact gt6) (by rfl) ?_
      | refine op_move (by rfl) (by rfl) (by rfl) ?_
      | refine op_assign (by rfl) (by rfl) (by rfl) ?_
      | refine op_pick_true (by rfl) (by rfl) (by rfl) (by rfl) ?_
      | refine op_pick_false (by rfl) (by rfl) (by rfl) (by rfl) ?_
      | refine op_lss (by rfl) (by rfl) (by rfl) (by rfl) ?_
      | refine op_leq (by rfl) (by rfl) (by rfl) (by rfl) ?_
      | refine op_gtr (by rfl) (by rfl) (by rfl) (by rfl) ?_
      | refine op_eql (by rfl) (by rfl) (by rfl) (by rfl) ?_
      | refine op_neq (by rfl) (by rfl) (by rfl) (by rfl) ?_
      | refine op_eql_str (by rfl) (by rfl) (by rfl) (by rfl) ?_
      | refine op_eql_bool (by rfl) (by rfl) (by rfl) (by rfl) ?_
      | refine op_eql_flat (by rfl) (by rfl) (by rfl) (by rfl) (by rfl) (by rfl) ?_
      | refine op_neq_str (by rfl) (by rfl) (by rfl) (by rfl) ?_
      | refine op_neq_bool (by rfl) (by rfl) (by rfl) (by rfl) ?_
      | refine op_neq_flat (by rfl) (by rfl) (by rfl) (by rfl) (by rfl) (by rfl) ?_
      | refine op_len_str (by rfl) (by rfl) (by rfl) ?_
      | refine op_len_slice (by rfl) (by rfl) (by rfl) ?_
      | refine op_not (by rfl) (by rfl) (by rfl) ?_
      | refine op_extract (by rfl) (by rfl) (by rfl) (by rfl) ?_
      | refine op_add (by rfl) (by rfl) (by rfl) (by rfl) (by omega) ?_
      | refine op_sub (by rfl) (by rfl) (by rfl) (by rfl) (by omega) ?_
      | refine op_add_u8 (by rfl) (by rfl) (by rfl) (by rfl) (by omega) ?_
      | refine op_sub_u8 (by rfl) (by rfl) (by rfl) (by rfl) (by omega) ?_
      | refine op_slice_str (by rfl) (by rfl) (by rfl) (by rfl) (by rfl) (by omega) ?_
      | refine op_slice_from (by rfl) (by rfl) (by rfl) (by rfl) (by omega) ?_
      | refine op_slice_to (by rfl) (by rfl) (by rfl) (by rfl) (by omega) ?_
      | refine op_fieldAddr (by rfl) (by rfl) (by rfl) ?_
      | refine op_load1 (by rfl) (by rfl) (by rfl) (by assumption) (by rfl) ?_
      | refine wl_skip (by rfl) (by rfl) (by rfl) ?_
      | (refine wl_split_dec (by rfl) (by rfl) (by rfl) (fun _ => ?_) (fun _ => ?_) <;> (try first | contradiction | (exfalso; omega)))
      | (refine wl_split (by rfl) (by rfl) (by rfl) (fun _ => ?_) (fun _ => ?_) <;> (fail_if_success contradiction))
      | refine wl_nil ?_
      | refine at_then_normal ?_
      | refine at_then_ret ?_
      | refine wc_seq ?_
      | refine wc_region ?_
      | refine wc_skip ?_
      | refine wc_ret ?_
      | refine at_ret1 (by rfl) (by rfl) ?_
      | refine wc_quiet (by kernel_rfl) ?_
      | (refine wq_nil ?_; intro _ hkq; replace hm := hm.kept0 hkq; clear hkq)
      | (refine wq_nil_tail ?_; intro _ hkq; replace hm := hm.kept0 hkq; clear hkq)
      | refine wc_cond_true (by rfl) ?_
      | refine wc_cond_false (by rfl) ?_
      | (refine wc_cond_dec (by rfl) (fun _ => ?_) (fun _ => ?_) <;> (try first | contradiction | (exfalso; omega)))
      | refine wc_cond (by rfl) (fun _ => ?_) (fun _ => ?_)
      | refine q_move (by rfl) (by rfl) (by rfl) ?_
      | refine q_assign (by rfl) (by rfl) (by rfl) ?_
      | refine q_pick_true (by rfl) (by rfl) (by rfl) (by rfl) ?_
      | refine q_pick_false (by rfl) (by rfl) (by rfl) (by rfl) ?_
      | refine q_lss (by rfl) (by rfl) (by rfl) (by rfl) ?_
      | refine q_leq (by rfl) (by rfl) (by rfl) (by rfl) ?_
      | refine q_gtr (by rfl) (by rfl) (by rfl) (by rfl) ?_
      | refine q_eql (by rfl) (by rfl) (by rfl) (by rfl) ?_
      | refine q_neq (by rfl) (by rfl) (by rfl) (by rfl) ?_
      | refine q_eql_str (by rfl) (by rfl) (by rfl) (by rfl) ?_
      | refine q_eql_bool (by rfl) (by rfl) (by rfl) (by rfl) ?_
      | refine q_eql_flat (by rfl) (by rfl) (by rfl) (by rfl) (by rfl) (by rfl) ?_
      | refine q_neq_str (by rfl) (by rfl) (by rfl) (by rfl) ?_
      | refine q_neq_bool (by rfl) (by rfl) (by rfl) (by rfl) ?_
      | refine q_neq_flat (by rfl) (by rfl) (by rfl) (by rfl) (by rfl) (by rfl) ?_
      | refine q_len_str (by rfl) (by rfl) (by rfl) ?_
      | refine q_len_slice (by rfl) (by rfl) (by rfl) ?_
      | refine q_not (by rfl) (by rfl) (by rfl) ?_
      | refine q_extract (by rfl) (by rfl) (by rfl) (by rfl) ?_
      | refine q_add (by rfl) (by rfl) (by rfl) (by rfl) (by omega) ?_
      | refine q_sub (by rfl) (by rfl) (by rfl) (by rfl) (by omega) ?_
      | refine q_add_u8 (by rfl) (by rfl) (by rfl) (by rfl) (by omega) ?_
      | refine q_sub_u8 (by rfl) (by rfl) (by rfl) (by rfl) (by omega) ?_
      | refine q_slice_str (by rfl) (by rfl) (by rfl) (by rfl) (by rfl) (by omega) ?_
      | refine q_slice_from (by rfl) (by rfl) (by rfl) (by rfl) (by omega) ?_
      | refine q_slice_to (by rfl) (by rfl) (by rfl) (by rfl) (by omega) ?_
      | refine q_fieldAddr (by rfl) (by rfl) (by rfl) ?_
      | refine q_load1 (by rfl) (by rfl) (by rfl) (by assumption) (by rfl) ?_
      | refine wq_skip (by rfl) (by rfl) (by rfl) ?_
      | (refine wq_split_dec (by rfl) (by rfl) (by rfl) (fun _ => ?_) (fun _ => ?_) <;> (try first | contradiction | (exfalso; omega)))
      | (refine wq_split (by rfl) (by rfl) (by rfl) (fun _ => ?_) (fun _ => ?_) <;> (fail_if_success contradiction))
      | refine v_move (by rfl) (by rfl) (by rfl) ?_
      | refine v_assign (by rfl) (by rfl) (by rfl) ?_
      | refine v_pick_true (by rfl) (by rfl) (by rfl) (by rfl) ?_
      | refine v_pick_false (by rfl) (by rfl) (by rfl) (by rfl) ?_
      | refine v_lss (by rfl) (by rfl) (by rfl) (by rfl) ?_
      | refine v_leq (by rfl) (by rfl) (by rfl) (by rfl) ?_
      | refine v_gtr (by rfl) (by rfl) (by rfl) (by rfl) ?_
      | refine v_eql (by rfl) (by rfl) (by rfl) (by rfl) ?_
      | refine v_neq (by rfl) (by rfl) (by rfl) (by rfl) ?_
      | refine v_eql_str (by rfl) (by rfl) (by rfl) (by rfl) ?_
      | refine v_eql_bool (by rfl) (by rfl) (by rfl) (by rfl) ?_
      | refine v_eql_flat (by rfl) (by rfl) (by rfl) (by rfl) (by rfl) (by rfl) ?_
      | refine v_neq_str (by rfl) (by rfl) (by rfl) (by rfl) ?_
      | refine v_neq_bool (by rfl) (by rfl) (by rfl) (by rfl) ?_
      | refine v_neq_flat (by rfl) (by rfl) (by rfl) (by rfl) (by rfl) (by rfl) ?_
      | refine v_len_str (by rfl) (by rfl) (by rfl) ?_
      | refine v_len_slice (by rfl) (by rfl) (by rfl) ?_
      | refine v_not (by rfl) (by rfl) (by rfl) ?_
      | refine v_extract (by rfl) (by rfl) (by rfl) (by rfl) ?_
      | refine v_add (by rfl) (by rfl) (by rfl) (by rfl) (by omega) ?_
      | refine v_sub (by rfl) (by rfl) (by rfl) (by rfl) (by omega) ?_
      | refine v_add_u8 (by rfl) (by rfl) (by rfl) (by rfl) (by omega) ?_
      | refine v_sub_u8 (by rfl) (by rfl) (by rfl) (by rfl) (by omega) ?_
      | refine v_slice_str (by rfl) (by rfl) (by rfl) (by rfl) (by rfl) (by omega) ?_
      | refine v_slice_from (by rfl) (by rfl) (by rfl) (by rfl) (by omega) ?_
      | refine v_slice_to (by rfl) (by rfl) (by rfl) (by rfl) (by omega) ?_
      | refine v_fieldAddr (by rfl) (by rfl) (by rfl) ?_
      | refine v_load1 (by rfl) (by rfl) (by rfl) (by assumption) (by rfl) ?_
      | refine wv_skip (by rfl) (by rfl) (by rfl) ?_
      | (refine wv_split (by rfl) (by rfl) (by rfl) (fun _ => ?_) (fun _ => ?_) <;> (fail_if_success contradiction))
      | refine wv_nil ?_
      | refine ws_nil ?_)
    all_goals try (exfalso; first | omega | contradiction)
    all_goals exact ⟨I10, [], ⟨by simp, rfl⟩, hm.left (H := [])⟩
  · skip
    repeat' (first
      | (refine m_call (d := 15) hm (by rfl) (by rfl) (by rfl) (by first | exact pm0 | exact pm1_0 | exact pm1_1 | exact pm1_2 | exact pm1_3 | exact pm2_0 | exact pm2_1 | exact pm2_2 | exact pm2_3 | exact pm2_4 | exact pm3_0 | exact pm3_1 | exact pm3_2) (hF _ (Le.refl _)) ?_; clear hm; rintro _ I2 _ _ ⟨a, cp, xs, rfl, hrow, hits, rfl⟩ hle hm; have hleI2 := hle; try simp only [setn] at hm)
      | (refine m_call (d := 20) hm (by rfl) (by rfl) (by rfl) (by first | exact pm0 | exact pm1_0 | exact pm1_1 | exact pm1_2 | exact pm1_3 | exact pm2_0 | exact pm2_1 | exact pm2_2 | exact pm2_3 | exact pm2_4 | exact pm3_0 | exact pm3_1 | exact pm3_2) (hR _) ?_; clear hm; rintro _ I3 _ _ ⟨a2, cp2, xs2, rfl, hrow2, hits2, rfl⟩ hle hm; have hleI3 := hle; try simp only [setn] at hm)
      | (refine m_call (d := 29) hm (by rfl) (by rfl) (by rfl) (by first | exact pm0 | exact pm1_0 | exact pm1_1 | exact pm1_2 | exact pm1_3 | exact pm2_0 | exact pm2_1 | exact pm2_2 | exact pm2_3 | exact pm2_4 | exact pm3_0 | exact pm3_1 | exact pm3_2) (p_sameFile its (by omega) hst _ a a2 cp cp2 xs xs2 (hrow.le hleI3) (hits.le hleI3) hrow2 hits2) ?_; clear hm; rintro _ I4 _ _ ⟨rfl, rfl⟩ hle hm; have hleI4 := hle; try simp only [setn] at hm)
      | (refine m_call (d := 54) hm (by rfl) (by rfl) (by rfl) (by first | exact pm0 | exact pm1_0 | exact pm1_1 | exact pm1_2 | exact pm1_3 | exact pm2_0 | exact pm2_1 | exact pm2_2 | exact pm2_3 | exact pm2_4 | exact pm3_0 | exact pm3_1 | exact pm3_2) (hG _) ?_; clear hm; rintro _ I10 _ _ ⟨rfl, rfl⟩ hle hm; have hleI10 := hle; try simp only [setn] at hm)
      | (refine q_add_str (d := 115) (by rfl) (by rfl) (by rfl) (by rfl) (by simp only [List.length_append, List.length_take]; omega) ?_)
      | (refine q_add_str (d := 120) (by rfl) (by rfl) (by rfl) (by rfl) (by simp only [List.length_append, List.length_take, List.length_drop]; omega) ?_)
      | (refine m_box (d := 5) hm (by rfl) (by rfl) (by rfl) (by rfl) ?_; clear hm; intro b5 _ hm)
      | (refine m_varS (d := 7) hm (by rfl) (by rfl) (by rfl) (by rfl) (by rfl) ?_; clear hm; intro b7 _ hm)
      | (refine m_var1 (d := 7) hm (by rfl) (by rfl) (by rfl) (by rfl) (by rfl) ?_; clear hm; intro b7 _ hm)
      | (refine m_varS (d := 9) hm (by rfl) (by rfl) (by rfl) (by rfl) (by rfl) ?_; clear hm; intro b9 _ hm)
      | (refine m_var1 (d := 9) hm (by rfl) (by rfl) (by rfl) (by rfl) (by rfl) ?_; clear hm; intro b9 _ hm)
      | (refine m_varS (d := 11) hm (by rfl) (by rfl) (by rfl) (by rfl) (by rfl) ?_; clear hm; intro b11 _ hm)
      | (refine m_var1 (d := 11) hm (by rfl) (by rfl) (by rfl) (by rfl) (by rfl) ?_; clear hm; intro b11 _ hm)
      | refine m_load1 hm (by rfl) (by rfl) (by rfl) (by first | exact gt0 | exact gt1 | exact gt2 | exact gt3 | exact gt4 | exact gt5 | exact gt6) (by rfl) ?_
      | refine i_load1 hm (by rfl) (by rfl) (by rfl) (by assumption) (by rfl) ?_
      | refine m_loadAll hm (by rfl) (by rfl) (by rfl) (by first | exact gt0 | exact gt1 | exact gt2 | exact gt3 | exact gt4 | exact gt5 | exact gt6) (by rfl) ?_
      | refine i_loadN hm (by rfl) (by rfl) (by rfl) (by assumption) (by rfl) ?_
      | refine i_load1z hm (by rfl) (by rfl) (by rfl) (by assumption) (by rfl) ?_
      | refine mq_load1 hm (by rfl) (by rfl) (by rfl) (by first | exact gt0 | exact gt1 | exact gt2 | exact gt3 | exact gt4 | exact gt5 | exact gt6) (by rfl) ?_
      | refine iq_load1 hm (by rfl) (by rfl) (by rfl) (by assumption) (by rfl) ?_
      | refine mq_loadAll hm (by rfl) (by rfl) (by rfl) (by first | exact gt0 | exact gt1 | exact gt2 | exact gt3 | exact gt4 | exact gt5 | exact gt6) (by rfl) ?_
      | refine iq_loadN hm (by rfl) (by rfl) (by rfl) (by assumption) (by rfl) ?_
      | refine iq_load1z hm (by rfl) (by rfl) (by rfl) (by assumption) (by rfl) ?_
      | (refine m_storeAll hm (by rfl) (by rfl) (by rfl) (by rfl) (by first | exact gt0 | exact gt1 | exact gt2 | exact gt3 | exact gt4 | exact gt5 | exact gt6) (by rfl) (by rfl) (by rfl) ?_; clear hm; intro _ hm; try simp only [setn] at hm)
      | (refine m_store1 hm (by rfl) (by rfl) (by rfl) (by rfl) (by first | exact gt0 | exact gt1 | exact gt2 | exact gt3 | exact gt4 | exact gt5 | exact gt6) (by rfl) (by rfl) (by rfl) ?_; clear hm; intro _ hm; try simp only [setn] at hm)
      | (refine m_storeN hm (by rfl) (by rfl) (by rfl) (by rfl) (by first | exact gt0 | exact gt1 | exact gt2 | exact gt3 | exact gt4 | exact gt5 | exact gt6) (by rfl) (by rfl) (by rfl) ?_; clear hm; intro _ hm; try simp only [setn] at hm)
      | refine m_ret_agg hm (by rfl) (by rfl) (by first | exact gt0 | exact gt1 | exact gt2 | exact gt3 | exact gt4 | exact gt5 | exact gt6) (by rfl) ?_
      | refine m_ret2_agg hm (by rfl) (by rfl) (by rfl) (by first | exact gt0 | exact gt1 | exact gt2 | exact gt3 | exact gt4 | exact gt5 | exact gt6) (by rfl) ?_
      | refine op_move (by rfl) (by rfl) (by rfl) ?_
      | refine op_assign (by rfl) (by rfl) (by rfl) ?_
      | refine op_pick_true (by rfl) (by rfl) (by rfl) (by rfl) ?_
      | refine op_pick_false (by rfl) (by rfl) (by rfl) (by rfl) ?_
      | refine op_lss (by rfl) (by rfl) (by rfl) (by rfl) ?_
      | refine op_leq (by rfl) (by rfl) (by rfl) (by rfl) ?_
      | refine op_gtr (by rfl) (by rfl) (by rfl) (by rfl) ?_
      | refine op_eql (by rfl) (by rfl) (by rfl) (by rfl) ?_
      | refine op_neq (by rfl) (by rfl) (by rfl) (by rfl) ?_
      | refine op_eql_str (by rfl) (by rfl) (by rfl) (by rfl) ?_
      | refine op_eql_bool (by rfl) (by rfl) (by rfl) (by rfl) ?_
      | refine op_eql_flat (by rfl) (by rfl) (by rfl) (by rfl) (by rfl) (by rfl) ?_
      | refine op_neq_str (by rfl) (by rfl) (by rfl) (by rfl) ?_
      | refine op_neq_bool (by rfl) (by rfl) (by rfl) (by rfl) ?_
      | refine op_neq_flat (by rfl) (by rfl) (by rfl) (by rfl) (by rfl) (by rfl) ?_
      | refine op_len_str (by rfl) (by rfl) (by rfl) ?_
      | refine op_len_slice (by rfl) (by rfl) (by rfl) ?_
      | refine op_not (by rfl) (by rfl) (by rfl) ?_
      | refine op_extract (by rfl) (by rfl) (by rfl) (by rfl) ?_
      | refine op_add (by rfl) (by rfl) (by rfl) (by rfl) (by omega) ?_
      | refine op_sub (by rfl) (by rfl) (by rfl) (by rfl) (by omega) ?_
      | refine op_add_u8 (by rfl) (by rfl) (by rfl) (by rfl) (by omega) ?_
      | refine op_sub_u8 (by rfl) (by rfl) (by rfl) (by rfl) (by omega) ?_
      | refine op_slice_str (by rfl) (by rfl) (by rfl) (by rfl) (by rfl) (by omega) ?_
      | refine op_slice_from (by rfl) (by rfl) (by rfl) (by rfl) (by omega) ?_
      | refine op_slice_to (by rfl) (by rfl) (by rfl) (by rfl) (by omega) ?_
      | refine op_fieldAddr (by rfl) (by rfl) (by rfl) ?_
      | refine op_load1 (by rfl) (by rfl) (by rfl) (by assumption) (by rfl) ?_
      | refine wl_skip (by rfl) (by rfl) (by rfl) ?_
      | (refine wl_split_dec (by rfl) (by rfl) (by rfl) (fun _ => ?_) (fun _ => ?_) <;> (try first | contradiction | (exfalso; omega)))
      | (refine wl_split (by rfl) (by rfl) (by rfl) (fun _ => ?_) (fun _ => ?_) <;> (fail_if_success contradiction))
      | refine wl_nil ?_
      | refine at_then_normal ?_
      | refine at_then_ret ?_
      | refine wc_seq ?_
      | refine wc_region ?_
      | refine wc_skip ?_
      | refine wc_ret ?_
      | refine at_ret1 (by rfl) (by rfl) ?_
      | refine wc_quiet (by kernel_rfl) ?_
      | (refine wq_nil ?_; intro _ hkq; replace hm := hm.kept0 hkq; clear hkq)
      | (refine wq_nil_tail ?_; intro _ hkq; replace hm := hm.kept0 hkq; clear hkq)
      | refine wc_cond_true (by rfl) ?_
      | refine wc_cond_false (by rfl) ?_
      | (refine wc_cond_dec (by rfl) (fun _ => ?_) (fun _ => ?_) <;> (try first | contradiction | (exfalso; omega)))
      | refine wc_cond (by rfl) (fun _ => ?_) (fun _ => ?_)
      | refine q_move (by rfl) (by rfl) (by rfl) ?_
      | refine q_assign (by rfl) (by rfl) (by rfl) ?_
      | refine q_pick_true (by rfl) (by rfl) (by rfl) (by rfl) ?_
      | refine q_pick_false (by rfl) (by rfl) (by rfl) (by rfl) ?_
      | refine q_lss (by rfl) (by rfl) (by rfl) (by rfl) ?_
      | refine q_leq (by rfl) (by rfl) (by rfl) (by rfl) ?_
      | refine q_gtr (by rfl) (by rfl) (by rfl) (by rfl) ?_
      | refine q_eql (by rfl) (by rfl) (by rfl) (by rfl) ?_
      | refine q_neq (by rfl) (by rfl) (by rfl) (by rfl) ?_
      | refine q_eql_str (by rfl) (by rfl) (by rfl) (by rfl) ?_
      | refine q_eql_bool (by rfl) (by rfl) (by rfl) (by rfl) ?_
      | refine q_eql_flat (by rfl) (by rfl) (by rfl) (by rfl) (by rfl) (by rfl) ?_
      | refine q_neq_str (by rfl) (by rfl) (by rfl) (by rfl) ?_
      | refine q_neq_bool (by rfl) (by rfl) (by rfl) (by rfl) ?_
      | refine q_neq_flat (by rfl) (by rfl) (by rfl) (by rfl) (by rfl) (by rfl) ?_
      | refine q_len_str (by rfl) (by rfl) (by rfl) ?_
      | refine q_len_slice (by rfl) (by rfl) (by rfl) ?_
      | refine q_not (by rfl) (by rfl) (by rfl) ?_
      | refine q_extract (by rfl) (by rfl) (by rfl) (by rfl) ?_
      | refine q_add (by rfl) (by rfl) (by rfl) (by rfl) (by omega) ?_
      | refine q_sub (by rfl) (by rfl) (by rfl) (by rfl) (by omega) ?_
      | refine q_add_u8 (by rfl) (by rfl) (by rfl) (by rfl) (by omega) ?_
      | refine q_sub_u8 (by rfl) (by rfl) (by rfl) (by rfl) (by omega) ?_
      | refine q_slice_str (by rfl) (by rfl) (by rfl) (by rfl) (by rfl) (by omega) ?_
      | refine q_slice_from (by rfl) (by rfl) (by rfl) (by rfl) (by omega) ?_
      | refine q_slice_to (by rfl) (by rfl) (by rfl) (by rfl) (by omega) ?_
      | refine q_fieldAddr (by rfl) (by rfl) (by rfl) ?_
      | refine q_load1 (by rfl) (by rfl) (by rfl) (by assumption) (by rfl) ?_
      | refine wq_skip (by rfl) (by rfl) (by rfl) ?_
      | (refine wq_split_dec (by rfl) (by rfl) (by rfl) (fun _ => ?_) (fun _ => ?_) <;> (try first | contradiction | (exfalso; omega)))
      | (refine wq_split (by rfl) (by rfl) (by rfl) (fun _ => ?_) (fun _ => ?_) <;> (fail_if_success contradiction)))
    all_goals try (exfalso; first | omega | contradiction)
    all_goals exact ⟨I10, [], ⟨by simp, rfl⟩, hm.left (H := [])⟩
end Go.Proofs.YtjfkjpbkmpofkaaGreatDoor
end
