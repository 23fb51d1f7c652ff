/- Own work: texts LawAg, TopParseAgain, SpecBad, SpecJoin, SpecCutoff, SpecFew, one behind the other. -/
import Derived.Test.YtjfkjpbkmpofkaaDoorMg22
import Derived.Test.YtjfkjpbkmpofkaaDoorCards
import Derived.Test.YtjfkjpbkmpofkaaDoorTie
import Derived.Deep.DeepHandedRow
import Derived.Lib.SmallJoins
import Derived.Lay
section
namespace Go.Proofs.YtjfkjpbkmpofkaaDoor
open Go.Fw
set_option maxHeartbeats 16000000 in
theorem sp_pagain (s : List UInt8) (f u : Int) (x : List UInt8) (hs : s.length ≤ 1048576) (hx : x.length ≤ 1048576) (I : Imm) (hC : Conv I) :
    CalM Tryd.prog 3 #[str s, .agg (edCells f u x).toArray] I [] (fun v _ H' => v = .bool true ∧ H' = []) := by
  refine CalM.of fun w E hm => enter (N := 84) Tryd.func3 rfl [(0, str s), (1, .agg (edCells f u x).toArray)] args2 rfl ?_
  have hA := fun (I' : Imm) (m : Le I I') => p_alive I' (hC.le m)
  have hF := fun (I' : Imm) (m : Le I I') => p_file s I' (hC.le m) (by omega)
  have hG := fun (I' : Imm) => p_change s f u x (by omega) (by omega) I'
  by_cases h0 : Sp.fileErr s = 0
  case neg =>
    generalize Sp.fileErr s = er at hF h0
    generalize Sp.chErr s f u x = ce at hG
    repeat' (first
      | (refine m_call (d := 13) hm (by rfl) (by rfl) (by rfl) (by first | exact pm0 | exact pm1_0 | exact pm1_1 | exact pm1_2 | exact pm1_3 | exact pm2_0 | exact pm2_1 | exact pm2_2 | exact pm2_3 | exact pm2_4 | exact pm3_0 | exact pm3_1 | exact pm3_2) (hA _ (Le.refl _)) ?_; clear hm; rintro _ I2 _ _ ⟨rfl, rfl⟩ hle hm; have hleI2 := hle; try simp only [setn] at hm)
      | (refine m_call (d := 17) hm (by rfl) (by rfl) (by rfl) (by first | exact pm0 | exact pm1_0 | exact pm1_1 | exact pm1_2 | exact pm1_3 | exact pm2_0 | exact pm2_1 | exact pm2_2 | exact pm2_3 | exact pm2_4 | exact pm3_0 | exact pm3_1 | exact pm3_2) (hF _ hleI2) ?_; clear hm; rintro _ I3 _ _ ⟨a, cp, xs, rfl, hrow, hits, rfl⟩ hle hm; have hleI3 := hle; try simp only [setn] at hm)
      | (refine m_call (d := 23) hm (by rfl) (by rfl) (by rfl) (by first | exact pm0 | exact pm1_0 | exact pm1_1 | exact pm1_2 | exact pm1_3 | exact pm2_0 | exact pm2_1 | exact pm2_2 | exact pm2_3 | exact pm2_4 | exact pm3_0 | exact pm3_1 | exact pm3_2) (hG _) ?_; clear hm; rintro _ I4 _ _ ⟨rfl, rfl⟩ hle hm; have hleI4 := hle; try simp only [setn] at hm)
      | (refine m_box (d := 3) hm (by rfl) (by rfl) (by rfl) (by rfl) ?_; clear hm; intro b3 _ hm)
      | (refine m_varS (d := 5) hm (by rfl) (by rfl) (by rfl) (by rfl) (by rfl) ?_; clear hm; intro b5 _ hm)
      | (refine m_var1 (d := 5) hm (by rfl) (by rfl) (by rfl) (by rfl) (by rfl) ?_; clear hm; intro b5 _ hm)
      | (refine m_varS (d := 9) hm (by rfl) (by rfl) (by rfl) (by rfl) (by rfl) ?_; clear hm; intro b9 _ hm)
      | (refine m_var1 (d := 9) hm (by rfl) (by rfl) (by rfl) (by rfl) (by rfl) ?_; clear hm; intro b9 _ hm)
      | (refine m_varS (d := 11) hm (by rfl) (by rfl) (by rfl) (by rfl) (by rfl) ?_; clear hm; intro b11 _ hm)
      | (refine m_var1 (d := 11) hm (by rfl) (by rfl) (by rfl) (by rfl) (by rfl) ?_; clear hm; intro b11 _ hm)
      | (refine m_varS (d := 12) hm (by rfl) (by rfl) (by rfl) (by rfl) (by rfl) ?_; clear hm; intro b12 _ hm)
      | (refine m_var1 (d := 12) hm (by rfl) (by rfl) (by rfl) (by rfl) (by rfl) ?_; clear hm; intro b12 _ hm)
      | refine m_load1 hm (by rfl) (by rfl) (by rfl) (by first | exact gt0 | exact gt1 | exact gt2 | exact gt3 | exact gt4 | exact gt5 | exact gt6) (by rfl) ?_
      | refine i_load1 hm (by rfl) (by rfl) (by rfl) (by assumption) (by rfl) ?_
      | refine m_loadAll hm (by rfl) (by rfl) (by rfl) (by first | exact gt0 | exact gt1 | exact gt2 | exact gt3 | exact gt4 | exact gt5 | exact gt6) (by rfl) ?_
      | refine i_loadN hm (by rfl) (by rfl) (by rfl) (by assumption) (by rfl) ?_
      | refine i_load1z hm (by rfl) (by rfl) (by rfl) (by assumption) (by rfl) ?_
      | (refine m_storeAll hm (by rfl) (by rfl) (by rfl) (by rfl) (by first | exact gt0 | exact gt1 | exact gt2 | exact gt3 | exact gt4 | exact gt5 | exact gt6) (by rfl) (by rfl) (by rfl) ?_; clear hm; intro _ hm; try simp only [setn] at hm)
      | (refine m_store1 hm (by rfl) (by rfl) (by rfl) (by rfl) (by first | exact gt0 | exact gt1 | exact gt2 | exact gt3 | exact gt4 | exact gt5 | exact gt6) (by rfl) (by rfl) (by rfl) ?_; clear hm; intro _ hm; try simp only [setn] at hm)
      | (refine m_storeN hm (by rfl) (by rfl) (by rfl) (by rfl) (by first | exact gt0 | exact gt1 | exact gt2 | exact gt3 | exact gt4 | exact gt5 | exact gt6) (by rfl) (by rfl) (by rfl) ?_; clear hm; intro _ hm; try simp only [setn] at hm)
      | refine m_ret_agg hm (by rfl) (by rfl) (by first | exact gt0 | exact gt1 | exact gt2 | exact gt3 | exact gt4 | exact gt5 | exact gt6) (by rfl) ?_
      | refine m_ret2_agg hm (by rfl) (by rfl) (by rfl) (by first | exact gt0 | exact gt1 | exact gt2 | exact gt3 | exact gt4 | exact gt5 | exact gt6) (by rfl) ?_
      | refine op_move (by rfl) (by rfl) (by rfl) ?_
      | refine op_assign (by rfl) (by rfl) (by rfl) ?_
      | refine op_pick_true (by rfl) (by rfl) (by rfl) (by rfl) ?_
      | refine op_pick_false (by rfl) (by rfl) (by rfl) (by rfl) ?_
      | refine op_lss (by rfl) (by rfl) (by rfl) (by rfl) ?_
      | refine op_gtr (by rfl) (by rfl) (by rfl) (by rfl) ?_
      | refine op_eql (by rfl) (by rfl) (by rfl) (by rfl) ?_
      | refine op_neq (by rfl) (by rfl) (by rfl) (by rfl) ?_
      | refine op_eql_str (by rfl) (by rfl) (by rfl) (by rfl) ?_
      | refine op_eql_bool (by rfl) (by rfl) (by rfl) (by rfl) ?_
      | refine op_eql_flat (by rfl) (by rfl) (by rfl) (by rfl) (by rfl) (by rfl) ?_
      | refine op_neq_str (by rfl) (by rfl) (by rfl) (by rfl) ?_
      | refine op_neq_bool (by rfl) (by rfl) (by rfl) (by rfl) ?_
      | refine op_neq_flat (by rfl) (by rfl) (by rfl) (by rfl) (by rfl) (by rfl) ?_
      | refine op_len_str (by rfl) (by rfl) (by rfl) ?_
      | refine op_len_slice (by rfl) (by rfl) (by rfl) ?_
      | refine op_not (by rfl) (by rfl) (by rfl) ?_
      | refine op_extract (by rfl) (by rfl) (by rfl) (by rfl) ?_
      | refine op_fieldAddr (by rfl) (by rfl) (by rfl) ?_
      | refine op_load1 (by rfl) (by rfl) (by rfl) (by assumption) (by rfl) ?_
      | refine wl_skip (by rfl) (by rfl) (by rfl) ?_
      | (refine wl_split_dec (by rfl) (by rfl) (by rfl) (fun _ => ?_) (fun _ => ?_) <;> (try first | contradiction | (exfalso; omega)))
      | (refine wl_split (by rfl) (by rfl) (by rfl) (fun _ => ?_) (fun _ => ?_) <;> (fail_if_success contradiction))
      | refine wl_nil ?_
      | refine at_then_normal ?_
      | refine at_then_ret ?_
      | refine wc_seq ?_
      | refine wc_region ?_
      | refine wc_skip ?_
      | refine wc_ret ?_
      | refine at_ret1 (by rfl) (by rfl) ?_
      | refine wc_cond_true (by rfl) ?_
      | refine wc_cond_false (by rfl) ?_
      | (refine wc_cond_dec (by rfl) (fun _ => ?_) (fun _ => ?_) <;> (try first | contradiction | (exfalso; omega)))
      | refine wc_cond (by rfl) (fun _ => ?_) (fun _ => ?_))
    all_goals try (exfalso; omega)
    all_goals exact ⟨I4, [], ⟨rfl, rfl⟩, hm.left (H := [])⟩
  have hfs := Sp.file_few s
  have hss := Sp.file_small s
  rw [h0] at hF
  have htl := Sp.chTo_len s f u x
  by_cases h1 : Sp.chErr s f u x = 0
  case neg =>
    generalize Sp.chErr s f u x = ce at hG h1
    repeat' (first
      | (refine m_call (d := 13) hm (by rfl) (by rfl) (by rfl) (by first | exact pm0 | exact pm1_0 | exact pm1_1 | exact pm1_2 | exact pm1_3 | exact pm2_0 | exact pm2_1 | exact pm2_2 | exact pm2_3 | exact pm2_4 | exact pm3_0 | exact pm3_1 | exact pm3_2) (hA _ (Le.refl _)) ?_; clear hm; rintro _ I2 _ _ ⟨rfl, rfl⟩ hle hm; have hleI2 := hle; try simp only [setn] at hm)
      | (refine m_call (d := 17) hm (by rfl) (by rfl) (by rfl) (by first | exact pm0 | exact pm1_0 | exact pm1_1 | exact pm1_2 | exact pm1_3 | exact pm2_0 | exact pm2_1 | exact pm2_2 | exact pm2_3 | exact pm2_4 | exact pm3_0 | exact pm3_1 | exact pm3_2) (hF _ hleI2) ?_; clear hm; rintro _ I3 _ _ ⟨a, cp, xs, rfl, hrow, hits, rfl⟩ hle hm; have hleI3 := hle; try simp only [setn] at hm)
      | (refine m_call (d := 23) hm (by rfl) (by rfl) (by rfl) (by first | exact pm0 | exact pm1_0 | exact pm1_1 | exact pm1_2 | exact pm1_3 | exact pm2_0 | exact pm2_1 | exact pm2_2 | exact pm2_3 | exact pm2_4 | exact pm3_0 | exact pm3_1 | exact pm3_2) (hG _) ?_; clear hm; rintro _ I4 _ _ ⟨rfl, rfl⟩ hle hm; have hleI4 := hle; try simp only [setn] at hm)
      | (refine m_box (d := 3) hm (by rfl) (by rfl) (by rfl) (by rfl) ?_; clear hm; intro b3 _ hm)
      | (refine m_varS (d := 5) hm (by rfl) (by rfl) (by rfl) (by rfl) (by rfl) ?_; clear hm; intro b5 _ hm)
      | (refine m_var1 (d := 5) hm (by rfl) (by rfl) (by rfl) (by rfl) (by rfl) ?_; clear hm; intro b5 _ hm)
      | (refine m_varS (d := 9) hm (by rfl) (by rfl) (by rfl) (by rfl) (by rfl) ?_; clear hm; intro b9 _ hm)
      | (refine m_var1 (d := 9) hm (by rfl) (by rfl) (by rfl) (by rfl) (by rfl) ?_; clear hm; intro b9 _ hm)
      | (refine m_varS (d := 11) hm (by rfl) (by rfl) (by rfl) (by rfl) (by rfl) ?_; clear hm; intro b11 _ hm)
      | (refine m_var1 (d := 11) hm (by rfl) (by rfl) (by rfl) (by rfl) (by rfl) ?_; clear hm; intro b11 _ hm)
      | (refine m_varS (d := 12) hm (by rfl) (by rfl) (by rfl) (by rfl) (by rfl) ?_; clear hm; intro b12 _ hm)
      | (refine m_var1 (d := 12) hm (by rfl) (by rfl) (by rfl) (by rfl) (by rfl) ?_; clear hm; intro b12 _ hm)
      | refine m_load1 hm (by rfl) (by rfl) (by rfl) (by first | exact gt0 | exact gt1 | exact gt2 | exact gt3 | exact gt4 | exact gt5 | exact gt6) (by rfl) ?_
      | refine i_load1 hm (by rfl) (by rfl) (by rfl) (by assumption) (by rfl) ?_
      | refine m_loadAll hm (by rfl) (by rfl) (by rfl) (by first | exact gt0 | exact gt1 | exact gt2 | exact gt3 | exact gt4 | exact gt5 | exact gt6) (by rfl) ?_
      | refine i_loadN hm (by rfl) (by rfl) (by rfl) (by assumption) (by rfl) ?_
      | refine i_load1z hm (by rfl) (by rfl) (by rfl) (by assumption) (by rfl) ?_
      | (refine m_storeAll hm (by rfl) (by rfl) (by rfl) (by rfl) (by first | exact gt0 | exact gt1 | exact gt2 | exact gt3 | exact gt4 | exact gt5 | exact gt6) (by rfl) (by rfl) (by rfl) ?_; clear hm; intro _ hm; try simp only [setn] at hm)
      | (refine m_store1 hm (by rfl) (by rfl) (by rfl) (by rfl) (by first | exact gt0 | exact gt1 | exact gt2 | exact gt3 | exact gt4 | exact gt5 | exact gt6) (by rfl) (by rfl) (by rfl) ?_; clear hm; intro _ hm; try simp only [setn] at hm)
      | (refine m_storeN hm (by rfl) (by rfl) (by rfl) (by rfl) (by first | exact gt0 | exact gt1 | exact gt2 | exact gt3 | exact gt4 | exact gt5 | exact gt6) (by rfl) (by rfl) (by rfl) ?_; clear hm; intro _ hm; try simp only [setn] at hm)
      | refine m_ret_agg hm (by rfl) (by rfl) (by first | exact gt0 | exact gt1 | exact gt2 | exact gt3 | exact gt4 | exact gt5 | exact gt6) (by rfl) ?_
      | refine m_ret2_agg hm (by rfl) (by rfl) (by rfl) (by first | exact gt0 | exact gt1 | exact gt2 | exact gt3 | exact gt4 | exact gt5 | exact gt6) (by rfl) ?_
      | refine op_move (by rfl) (by rfl) (by rfl) ?_
      | refine op_assign (by rfl) (by rfl) (by rfl) ?_
      | refine op_pick_true (by rfl) (by rfl) (by rfl) (by rfl) ?_
      | refine op_pick_false (by rfl) (by rfl) (by rfl) (by rfl) ?_
      | refine op_lss (by rfl) (by rfl) (by rfl) (by rfl) ?_
      | refine op_gtr (by rfl) (by rfl) (by rfl) (by rfl) ?_
      | refine op_eql (by rfl) (by rfl) (by rfl) (by rfl) ?_
      | refine op_neq (by rfl) (by rfl) (by rfl) (by rfl) ?_
      | refine op_eql_str (by rfl) (by rfl) (by rfl) (by rfl) ?_
      | refine op_eql_bool (by rfl) (by rfl) (by rfl) (by rfl) ?_
      | refine op_eql_flat (by rfl) (by rfl) (by rfl) (by rfl) (by rfl) (by rfl) ?_
      | refine op_neq_str (by rfl) (by rfl) (by rfl) (by rfl) ?_
      | refine op_neq_bool (by rfl) (by rfl) (by rfl) (by rfl) ?_
      | refine op_neq_flat (by rfl) (by rfl) (by rfl) (by rfl) (by rfl) (by rfl) ?_
      | refine op_len_str (by rfl) (by rfl) (by rfl) ?_
      | refine op_len_slice (by rfl) (by rfl) (by rfl) ?_
      | refine op_not (by rfl) (by rfl) (by rfl) ?_
      | refine op_extract (by rfl) (by rfl) (by rfl) (by rfl) ?_
      | refine op_fieldAddr (by rfl) (by rfl) (by rfl) ?_
      | refine op_load1 (by rfl) (by rfl) (by rfl) (by assumption) (by rfl) ?_
      | refine wl_skip (by rfl) (by rfl) (by rfl) ?_
      | (refine wl_split_dec (by rfl) (by rfl) (by rfl) (fun _ => ?_) (fun _ => ?_) <;> (try first | contradiction | (exfalso; omega)))
      | (refine wl_split (by rfl) (by rfl) (by rfl) (fun _ => ?_) (fun _ => ?_) <;> (fail_if_success contradiction))
      | refine wl_nil ?_
      | refine at_then_normal ?_
      | refine at_then_ret ?_
      | refine wc_seq ?_
      | refine wc_region ?_
      | refine wc_skip ?_
      | refine wc_ret ?_
      | refine at_ret1 (by rfl) (by rfl) ?_
      | refine wc_cond_true (by rfl) ?_
      | refine wc_cond_false (by rfl) ?_
      | (refine wc_cond_dec (by rfl) (fun _ => ?_) (fun _ => ?_) <;> (try first | contradiction | (exfalso; omega)))
      | refine wc_cond (by rfl) (fun _ => ?_) (fun _ => ?_))
    all_goals try (exfalso; omega)
    all_goals exact ⟨I4, [], ⟨rfl, rfl⟩, hm.left (H := [])⟩
  rw [h1] at hG
  generalize Sp.chTo s f u x = t at hG htl
  have hT := fun (I' : Imm) (m : Le I I') => p_file t I' (hC.le m) (by omega)
  have hAg := fun (I' : Imm) (m : Le I I') => p_again s t h0 I' (hC.le m) (by omega)
  have hAs := fun (I' : Imm) (m : Le I I') => p_again s s h0 I' (hC.le m) (by omega)
  rw [Sp.freshAll_same, h0] at hAs
  have hft := Sp.file_few t
  have hst := Sp.file_small t
  have hnt := Sp.freshAll_le s t
  generalize Sp.freshAll s t = n at hAg hnt
  generalize Sp.fileErr t = et at hAg hT
  generalize Sp.fileItems t = jts at hAg hT hft hst hnt
  generalize Sp.fileItems s = its at hAg hAs hF hfs hss
  repeat' (first
    | (refine m_call (d := 13) hm (by rfl) (by rfl) (by rfl) (by first | exact pm0 | exact pm1_0 | exact pm1_1 | exact pm1_2 | exact pm1_3 | exact pm2_0 | exact pm2_1 | exact pm2_2 | exact pm2_3 | exact pm2_4 | exact pm3_0 | exact pm3_1 | exact pm3_2) (hA _ (Le.refl _)) ?_; clear hm; rintro _ I2 _ _ ⟨rfl, rfl⟩ hle hm; have hleI2 := hle; try simp only [setn] at hm)
    | (refine m_call (d := 17) hm (by rfl) (by rfl) (by rfl) (by first | exact pm0 | exact pm1_0 | exact pm1_1 | exact pm1_2 | exact pm1_3 | exact pm2_0 | exact pm2_1 | exact pm2_2 | exact pm2_3 | exact pm2_4 | exact pm3_0 | exact pm3_1 | exact pm3_2) (hF _ hleI2) ?_; clear hm; rintro _ I3 _ _ ⟨a, cp, xs, rfl, hrow, hits, rfl⟩ hle hm; have hleI3 := hle; try simp only [setn] at hm)
    | (refine m_call (d := 23) hm (by rfl) (by rfl) (by rfl) (by first | exact pm0 | exact pm1_0 | exact pm1_1 | exact pm1_2 | exact pm1_3 | exact pm2_0 | exact pm2_1 | exact pm2_2 | exact pm2_3 | exact pm2_4 | exact pm3_0 | exact pm3_1 | exact pm3_2) (hG _) ?_; clear hm; rintro _ I4 _ _ ⟨rfl, rfl⟩ hle hm; have hleI4 := hle; try simp only [setn] at hm)
    | (refine m_call (d := 36) hm (by rfl) (by rfl) (by rfl) (by first | exact pm0 | exact pm1_0 | exact pm1_1 | exact pm1_2 | exact pm1_3 | exact pm2_0 | exact pm2_1 | exact pm2_2 | exact pm2_3 | exact pm2_4 | exact pm3_0 | exact pm3_1 | exact pm3_2) (hAg _ ((hleI2.trans hleI3).trans hleI4) a cp xs (hrow.le hleI4) (hits.le hleI4)) ?_; clear hm; rintro _ I5 _ _ ⟨a5, cp5, xs5, rfl, hrow5, hits5, rfl⟩ hle hm; have hleI5 := hle; try simp only [setn] at hm)
    | (refine m_call (d := 42) hm (by rfl) (by rfl) (by rfl) (by first | exact pm0 | exact pm1_0 | exact pm1_1 | exact pm1_2 | exact pm1_3 | exact pm2_0 | exact pm2_1 | exact pm2_2 | exact pm2_3 | exact pm2_4 | exact pm3_0 | exact pm3_1 | exact pm3_2) (hT _ (((hleI2.trans hleI3).trans hleI4).trans hleI5)) ?_; clear hm; rintro _ I6 _ _ ⟨a6, cp6, xs6, rfl, hrow6, hits6, rfl⟩ hle hm; have hleI6 := hle; try simp only [setn] at hm)
    | (refine m_call (d := 51) hm (by rfl) (by rfl) (by rfl) (by first | exact pm0 | exact pm1_0 | exact pm1_1 | exact pm1_2 | exact pm1_3 | exact pm2_0 | exact pm2_1 | exact pm2_2 | exact pm2_3 | exact pm2_4 | exact pm3_0 | exact pm3_1 | exact pm3_2) (p_sameFile jts (by omega) hst _ a5 a6 cp5 cp6 xs5 xs6 (hrow5.le hleI6) (hits5.le hleI6) hrow6 hits6) ?_; clear hm; rintro _ I7 _ _ ⟨rfl, rfl⟩ hle hm; have hleI7 := hle; try simp only [setn] at hm)
    | (refine m_call (d := 69) hm (by rfl) (by rfl) (by rfl) (by first | exact pm0 | exact pm1_0 | exact pm1_1 | exact pm1_2 | exact pm1_3 | exact pm2_0 | exact pm2_1 | exact pm2_2 | exact pm2_3 | exact pm2_4 | exact pm3_0 | exact pm3_1 | exact pm3_2) (hAs _ (((((hleI2.trans hleI3).trans hleI4).trans hleI5).trans hleI6).trans hleI7) a cp xs ((((hrow.le hleI4).le hleI5).le hleI6).le hleI7) ((((hits.le hleI4).le hleI5).le hleI6).le hleI7)) ?_; clear hm; rintro _ I8 _ _ ⟨a8, cp8, xs8, rfl, hrow8, hits8, rfl⟩ hle hm; have hleI8 := hle; try simp only [setn] at hm)
    | (refine m_call (d := 82) hm (by rfl) (by rfl) (by rfl) (by first | exact pm0 | exact pm1_0 | exact pm1_1 | exact pm1_2 | exact pm1_3 | exact pm2_0 | exact pm2_1 | exact pm2_2 | exact pm2_3 | exact pm2_4 | exact pm3_0 | exact pm3_1 | exact pm3_2) (p_sameFile its (by omega) hss _ a8 a cp8 cp xs8 xs hrow8 hits8 (((((hrow.le hleI4).le hleI5).le hleI6).le hleI7).le hleI8) (((((hits.le hleI4).le hleI5).le hleI6).le hleI7).le hleI8)) ?_; clear hm; rintro _ I9 _ _ ⟨rfl, rfl⟩ hle hm; have hleI9 := hle; try simp only [setn] at hm)
    | (refine m_box (d := 3) hm (by rfl) (by rfl) (by rfl) (by rfl) ?_; clear hm; intro b3 _ hm)
    | (refine m_varS (d := 5) hm (by rfl) (by rfl) (by rfl) (by rfl) (by rfl) ?_; clear hm; intro b5 _ hm)
    | (refine m_var1 (d := 5) hm (by rfl) (by rfl) (by rfl) (by rfl) (by rfl) ?_; clear hm; intro b5 _ hm)
    | (refine m_varS (d := 9) hm (by rfl) (by rfl) (by rfl) (by rfl) (by rfl) ?_; clear hm; intro b9 _ hm)
    | (refine m_var1 (d := 9) hm (by rfl) (by rfl) (by rfl) (by rfl) (by rfl) ?_; clear hm; intro b9 _ hm)
    | (refine m_varS (d := 11) hm (by rfl) (by rfl) (by rfl) (by rfl) (by rfl) ?_; clear hm; intro b11 _ hm)
    | (refine m_var1 (d := 11) hm (by rfl) (by rfl) (by rfl) (by rfl) (by rfl) ?_; clear hm; intro b11 _ hm)
    | (refine m_varS (d := 12) hm (by rfl) (by rfl) (by rfl) (by rfl) (by rfl) ?_; clear hm; intro b12 _ hm)
    | (refine m_var1 (d := 12) hm (by rfl) (by rfl) (by rfl) (by rfl) (by rfl) ?_; clear hm; intro b12 _ hm)
    | refine m_load1 hm (by rfl) (by rfl) (by rfl) (by first | exact gt0 | exact gt1 | exact gt2 | exact gt3 | exact gt4 | exact gt5 | exact gt6) (by rfl) ?_
    | refine i_load1 hm (by rfl) (by rfl) (by rfl) (by assumption) (by rfl) ?_
    | refine m_loadAll hm (by rfl) (by rfl) (by rfl) (by first | exact gt0 | exact gt1 | exact gt2 | exact gt3 | exact gt4 | exact gt5 | exact gt6) (by rfl) ?_
    | refine i_loadN hm (by rfl) (by rfl) (by rfl) (by assumption) (by rfl) ?_
    | refine i_load1z hm (by rfl) (by rfl) (by rfl) (by assumption) (by rfl) ?_
    | (refine m_storeAll hm (by rfl) (by rfl) (by rfl) (by rfl) (by first | exact gt0 | exact gt1 | exact gt2 | exact gt3 | exact gt4 | exact gt5 | exact gt6) (by rfl) (by rfl) (by rfl) ?_; clear hm; intro _ hm; try simp only [setn] at hm)
    | (refine m_store1 hm (by rfl) (by rfl) (by rfl) (by rfl) (by first | exact gt0 | exact gt1 | exact gt2 | exact gt3 | exact gt4 | exact gt5 | exact gt6) (by rfl) (by rfl) (by rfl) ?_; clear hm; intro _ hm; try simp only [setn] at hm)
    | (refine m_storeN hm (by rfl) (by rfl) (by rfl) (by rfl) (by first | exact gt0 | exact gt1 | exact gt2 | exact gt3 | exact gt4 | exact gt5 | exact gt6) (by rfl) (by rfl) (by rfl) ?_; clear hm; intro _ hm; try simp only [setn] at hm)
    | refine m_ret_agg hm (by rfl) (by rfl) (by first | exact gt0 | exact gt1 | exact gt2 | exact gt3 | exact gt4 | exact gt5 | exact gt6) (by rfl) ?_
    | refine m_ret2_agg hm (by rfl) (by rfl) (by rfl) (by first | exact gt0 | exact gt1 | exact gt2 | exact gt3 | exact gt4 | exact gt5 | exact gt6) (by rfl) ?_
    | refine op_move (by rfl) (by rfl) (by rfl) ?_
    | refine op_assign (by rfl) (by rfl) (by rfl) ?_
    | refine op_pick_true (by rfl) (by rfl) (by rfl) (by rfl) ?_
    | refine op_pick_false (by rfl) (by rfl) (by rfl) (by rfl) ?_
    | refine op_lss (by rfl) (by rfl) (by rfl) (by rfl) ?_
    | refine op_gtr (by rfl) (by rfl) (by rfl) (by rfl) ?_
    | refine op_eql (by rfl) (by rfl) (by rfl) (by rfl) ?_
    | refine op_neq (by rfl) (by rfl) (by rfl) (by rfl) ?_
    | refine op_eql_str (by rfl) (by rfl) (by rfl) (by rfl) ?_
    | refine op_eql_bool (by rfl) (by rfl) (by rfl) (by rfl) ?_
    | refine op_eql_flat (by rfl) (by rfl) (by rfl) (by rfl) (by rfl) (by rfl) ?_
    | refine op_neq_str (by rfl) (by rfl) (by rfl) (by rfl) ?_
    | refine op_neq_bool (by rfl) (by rfl) (by rfl) (by rfl) ?_
    | refine op_neq_flat (by rfl) (by rfl) (by rfl) (by rfl) (by rfl) (by rfl) ?_
    | refine op_len_str (by rfl) (by rfl) (by rfl) ?_
    | refine op_len_slice (by rfl) (by rfl) (by rfl) ?_
    | refine op_not (by rfl) (by rfl) (by rfl) ?_
    | refine op_extract (by rfl) (by rfl) (by rfl) (by rfl) ?_
    | refine op_fieldAddr (by rfl) (by rfl) (by rfl) ?_
    | refine op_load1 (by rfl) (by rfl) (by rfl) (by assumption) (by rfl) ?_
    | refine wl_skip (by rfl) (by rfl) (by rfl) ?_
    | (refine wl_split_dec (by rfl) (by rfl) (by rfl) (fun _ => ?_) (fun _ => ?_) <;> (try first | contradiction | (exfalso; omega)))
    | (refine wl_split (by rfl) (by rfl) (by rfl) (fun _ => ?_) (fun _ => ?_) <;> (fail_if_success contradiction))
    | refine wl_nil ?_
    | refine at_then_normal ?_
    | refine at_then_ret ?_
    | refine wc_seq ?_
    | refine wc_region ?_
    | refine wc_skip ?_
    | refine wc_ret ?_
    | refine at_ret1 (by rfl) (by rfl) ?_
    | refine wc_cond_true (by rfl) ?_
    | refine wc_cond_false (by rfl) ?_
    | (refine wc_cond_dec (by rfl) (fun _ => ?_) (fun _ => ?_) <;> (try first | contradiction | (exfalso; omega)))
    | refine wc_cond (by rfl) (fun _ => ?_) (fun _ => ?_))
  all_goals try (exfalso; first | omega | contradiction)
  exact ⟨I9, [], ⟨rfl, rfl⟩, hm.left (H := [])⟩
end Go.Proofs.YtjfkjpbkmpofkaaDoor
end
section
namespace Go.Proofs.YtjfkjpbkmpofkaaDoor.parseAgainTop
open Go.ChangeShapes Go.WideShapes Go.ChangeAt Go.RowKit
open Go.Fw (Kept Cal str Ret)
open Go.ChangeMaps (open_string shut_string)
open Go.Joins (open_agg3 shut_agg3)

set_option maxRecDepth 100000 in
theorem contract (H : Type) (enc : TypeId × Value → H) (W : World) (base : Nat) (args : Array Value) (ds gs : List (DataW H)) (before : List MemPlace)
    (hval : ∀ (j : Nat) t v, Tryd.f3.params[j]? = some t → args[j]? = some v → Value.okWide Tryd.prog W .any base t v)
    (hW : DataW.Whole enc Tryd.prog Tryd.f3.params.toList Rows.parseAgainSpec.vars false W args.toList ds gs before) (hk : Rows.uptoSmall H (ds ++ gs) = true) (hL : laidMetH Tryd.prog Rows.parseAgainUptoRow.laid W) :
    Calls Tryd.prog 3 args W fun e W' => ∃ v, e = .returned v ∧ Rows.parseAgainSpec.post enc Tryd.prog Tryd.f3 false true false false W args v W' := by
  have hC := conv_of hL (by kernel_rfl) (by kernel_rfl)
  clear hL
  have hW' := hW
  obtain ⟨p, q, hA0, hV, rfl, hfz, hnd⟩ := hW
  have hA : DataW.TrodAll enc Tryd.prog W 0 (fun _ => true) true Tryd.f3.params.toList args.toList ds p := hA0
  rw [Tryd.params3] at hA hval
  obtain ⟨v0, vs0, d0, ds0, p0, q0, hargs, rfl, rfl, h0, r0⟩ := trodAll_cons hA
  obtain ⟨v1, vs1, d1, ds1, p1, q1, hx1, rfl, rfl, h1, r1⟩ := trodAll_cons r0
  obtain ⟨rfl, rfl, rfl⟩ := trodAll_nil r1
  obtain rfl : args = #[v0, v1] := by cases args; simp_all
  obtain ⟨rfl, rfl⟩ := trodVars_none hV
  obtain ⟨s0, rfl, rfl, rfl, hm0⟩ := open_string Tryd.underlying9 (hval 0 9 v0 rfl rfl) h0
  obtain ⟨e10, e11, e12, y10, y11, y12, _, rfl, rfl, rfl, hy10, hy11, hy12⟩ := open_agg3 Tryd.underlying23 (by kernel_rfl) (by kernel_rfl) (hval 1 23 v1 rfl rfl) h1
  obtain ⟨f1, k10, rfl, wf1⟩ := DataW.trod_int Tryd.underlying3 hy10
  obtain ⟨u1, k11, rfl, wu1⟩ := DataW.trod_int Tryd.underlying3 hy11
  obtain ⟨s1, k12, rfl, wx1⟩ := DataW.trod_string Tryd.underlying9 hy12
  simp only [List.cons.injEq, and_true] at k10 k11 k12
  subst k10; subst k11; subst k12
  clear hA0
  simp only [List.append_nil] at hW' hk
  have hb0 : s0.data.toList.length ≤ 1048576 := bulk_str hk (by simp)
  have hb1 : s1.data.toList.length ≤ 1048576 := bulk_agg_str hk (parts := [.lit (.int .i64 f1), .lit (.int .i64 u1), .lit (.string s1.data.toList)]) (by simp) (by simp)
  refine ((run_kept (sp_pagain s0.data.toList f1 u1 s1.data.toList (by omega) (by omega) (Go.Fw.immOf W) hC)).run).mono fun e W' he => ?_
  cases e
  case returned v =>
    obtain ⟨rfl, hg⟩ := he
    refine ⟨_, rfl, post_kept (pa := []) (pv := []) hW' (fun _ _ _ => trodAll_cons_mk (shut_bool Tryd.underlying4 _) trodAll_mk0) (fun _ _ => ?_) (fun _ _ => rfl) hg⟩
    exact trodAll_cons_mk (shut_string Tryd.underlying9 hm0) (trodAll_cons_mk (shut_agg3 Tryd.underlying23 (by kernel_rfl) (by kernel_rfl) ⟨1, trod_int_mk 0 Tryd.underlying3 wf1⟩ ⟨1, trod_int_mk 0 Tryd.underlying3 wu1⟩ (Go.Deep.shut_string_cell Tryd.underlying9 wx1)) trodAll_mk0)
  all_goals exact he.elim

/-- A world for the witness: the settled one, the listed variables holding what they are laid with. -/
noncomputable def laidWorld (os : Os) : World := World.laidAll Tryd.prog os Rows.parseAgainUptoRow.laid
theorem laid_met (os : Os) : laidMet Tryd.prog Rows.parseAgainUptoRow.laid ((laidWorld os).forCall (fun _ _ => 0) ⟨#[], #[.string .empty, .agg #[.int .i64 0, .int .i64 0, .string .empty]], []⟩).memory :=
  laidMet_laidAll _ (by kernel_rfl) (by kernel_rfl)
theorem reads (os : Os) {H : Type} (enc : TypeId × Value → H) : ∃ places, DataW.whole enc Tryd.prog ((laidWorld os).forCall (fun _ _ => 0) ⟨#[], #[.string .empty, .agg #[.int .i64 0, .int .i64 0, .string .empty]], []⟩).memory Tryd.f3.params.toList Rows.parseAgainSpec.vars false (#[.string .empty, .agg #[.int .i64 0, .int .i64 0, .string .empty]] : Array Value).toList 8 = some ([.lit (.string []), .agg [.lit (.int .i64 0), .lit (.int .i64 0), .lit (.string [])]], [], places) :=
  ⟨[], by kernel_rfl⟩

set_option maxRecDepth 100000 in
theorem lifted (os : Os) (started : os.Started) (H : Type) (enc : TypeId × Value → H) (F : Stop.Interp) :
    ReturnsInHanded {} Tryd.checked os 3 .any ((Rows.OpenSpec.upto Rows.parseAgainSpec).preRow enc Tryd.prog Tryd.f3 Rows.parseAgainUptoRow.domain false Rows.parseAgainUptoRow.laid) (((Rows.OpenSpec.upto Rows.parseAgainSpec).at F).post enc Tryd.prog Tryd.f3 false true false false) := by
  obtain ⟨places, hx⟩ := reads os enc
  refine returnsInHanded_of_row (C := Tryd.checked) (s := Rows.OpenSpec.upto Rows.parseAgainSpec) ownKnobNone started (by kernel_rfl) Tryd.func3
    (witness_row_at (enc := enc) (C := Tryd.checked) false (laidWorld os) #[.string .empty, .agg #[.int .i64 0, .int .i64 0, .string .empty]] (World.laidAll_os _ _ _) (by kernel_rfl) (by kernel_rfl) (by kernel_rfl)
      (OpenSpec.preRow_of_cond 8 hx (by kernel_rfl) (fun k hk => by cases hk; kernel_rfl) (by kernel_rfl) (laid_met os))) ?_
  intro W base args ds gs before hval hW _ hcond _ hL _ _
  exact contract H enc W base args ds gs before hval hW (hcond _ rfl) hL

theorem said : Rows.ParseAgainUptoSaid :=
  OpenClaim.holds_of_cond 3 Tryd.f3 rfl rfl rfl rfl rfl rfl rfl ⟨rfl, rfl, rfl, rfl, rfl⟩ rfl rfl rfl rfl rfl (by kernel_rfl) Tryd.func3 (by kernel_rfl)
    (of_decide_eq_true (by kernel_rfl)) (by unfold Func.isWrapper; first | (rw [if_pos (by decide +kernel)]; kernel_rfl) | (rw [if_neg (by decide +kernel)]; exact ⟨rfl, rfl⟩))
    (fun os started H enc _ F => by rw [OpenClaim.pre_eq_preRow]; exact lifted os started H enc F)

theorem plain (f : FuncId) (fn : Func) (hf : Tryd.pinned.checked.prog.funcNamed "undertone/underlaw3.ParseAgain" = some f) (hfn : Tryd.pinned.checked.prog.funcs[f]? = some fn) :
    true = Tryd.pinned.checked.prog.looks [] ∧ ∀ (j : Nat) t, fn.params[j]? = some t → Tryd.pinned.checked.prog.wantsStandIn t = false := by
  obtain rfl : f = 3 := Option.some.inj ((show Tryd.prog.funcNamed "undertone/underlaw3.ParseAgain" = some 3 by kernel_rfl).symm.trans hf) |>.symm
  obtain rfl : fn = Tryd.f3 := (Option.some.inj (Tryd.func3.symm.trans hfn)).symm
  refine ⟨by kernel_rfl, fun j t ht => ?_⟩
  rw [Tryd.params3] at ht
  have hm := Array.mem_of_getElem? ht
  simp only [List.mem_toArray, List.mem_cons, List.not_mem_nil, or_false] at hm
  rcases hm with rfl | rfl
  · exact (show Tryd.prog.wantsStandIn 9 = false by kernel_rfl)
  · exact (show Tryd.prog.wantsStandIn 23 = false by kernel_rfl)

theorem proved : Rows.ParseAgainUptoCardSaid :=
  Claim7.holds_tied_plain_at .later [] _ _ _ _ said (fun _ h => by cases h) (by kernel_rfl) (fun _ h => by cases h) parseAgainUpto_row_tie rfl ⟨rfl, rfl⟩ (by kernel_rfl) rfl plain (by kernel_rfl)
end Go.Proofs.YtjfkjpbkmpofkaaDoor.parseAgainTop
end
section
namespace Go.Sp
/-- tokens are passed that are tokens, unless something was told. -/
inductive Well (T : Src) : St → St → Prop where
  | refl (s : St) : Well T s s
  | bad {s r : St} (e : Nat) : Well T s r → Well T s (r.bad T e)
  | next {s r : St} : Well T s r → (r.ds ≠ [] ∨ (T.tok r.i).kind ≠ 4) → Well T s r.next
theorem Well.trans {T : Src} {s r q : St} (h : Well T s r) (g : Well T r q) : Well T s q := by
  induction g with
  | refl => exact h
  | bad e _ ih => exact .bad e ih
  | next _ k ih => exact .next ih k
/-- what is no token: one byte that is none. -/
structure BadT (T : Src) : Prop where
  out : ∀ i, (T.tok i).kind = 4 → ∃ c, (T.tok i).text = [c] ∧ isLetter c = false ∧ isDigit c = false ∧ isSign c = false
section
variable {T : Src}
def fine : List UInt8 → Bool
  | [] => true
  | c :: _ => isLetter c || isDigit c || isSign c
theorem BadT.ok (h : BadT T) {i : Nat} {w : List UInt8} (hw : (T.tok i).text = w) (hf : fine w = true) : (T.tok i).kind ≠ 4 := fun h4 => by
  obtain ⟨c, h1, h2, h3, h5⟩ := h.out i h4
  rw [hw] at h1
  subst h1
  simp [fine, h2, h3, h5] at hf
theorem BadT.is (h : BadT T) {i : Nat} {w : List UInt8} (hw : T.is i w = true) (hf : fine w = true) : (T.tok i).kind ≠ 4 := by
  simp only [Src.is, Bool.and_eq_true, decide_eq_true_eq] at hw
  exact h.ok hw.2 hf
end
end Go.Sp
end
section
namespace Go.Sp
/-- a token, so much further on. -/
def shift (n : Nat) (t : Tok) : Tok := ⟨t.kind, t.text, t.pos + n⟩
def tk (s : List UInt8) (p : Nat) : List Tok := toks s.length s p
theorem tk_nil (p : Nat) : tk [] p = [] := rfl
theorem tk_step (s : List UInt8) (p : Nat) (hs : s ≠ []) : tk s p = (if (one s).1 > 0 then [⟨(one s).1, s.take (one s).2, p⟩] else []) ++ tk (s.drop (one s).2) (p + (one s).2) := by
  have hl := one_le s hs
  obtain ⟨f, hf⟩ : ∃ f, s.length = f + 1 := ⟨s.length - 1, by omega⟩
  have e : toks f (s.drop (one s).2) (p + (one s).2) = tk (s.drop (one s).2) (p + (one s).2) := toks_fuel _ _ _ _ (by simp; omega) (by simp)
  unfold tk at e ⊢
  rw [hf]
  simp only [toks, hs, if_false]
  rw [e]
  split <;> rfl
theorem tk_shift (n : Nat) : ∀ (f : Nat) (s : List UInt8) (p : Nat), toks f s (p + n) = (toks f s p).map (shift n)
  | 0, _, _ => rfl
  | f + 1, s, p => by
    simp only [toks]
    split
    · rfl
    · split
      · rw [List.map_cons, ← tk_shift n f, show p + n + (one s).2 = p + (one s).2 + n by omega]; rfl
      · rw [← tk_shift n f, show p + n + (one s).2 = p + (one s).2 + n by omega]
end Go.Sp
end
section
namespace Go.Sp
theorem tw_take (F : UInt8 → Bool) : ∀ (r : List UInt8) (m : Nat), (r.takeWhile F).length ≤ m → (r.take m).takeWhile F = r.takeWhile F
  | [], m, _ => by simp
  | c :: r, 0, h => by
    rw [List.takeWhile_cons] at h ⊢
    split at h
    · simp at h
    · rename_i hc; simp [hc]
  | c :: r, m + 1, h => by
    rw [List.take_succ_cons, List.takeWhile_cons, List.takeWhile_cons]
    rw [List.takeWhile_cons] at h
    split at h
    · rename_i hc
      rw [if_pos hc, if_pos hc, tw_take F r m (by simpa using h)]
    · rename_i hc; rw [if_neg hc, if_neg hc]
theorem one_take (s : List UInt8) (m : Nat) (hs : s ≠ []) (h : (one s).2 ≤ m) : one (s.take m) = one s := by
  cases s with
  | nil => exact absurd rfl hs
  | cons c r =>
    have hm : 1 ≤ m := Nat.le_trans (one_le (c :: r) hs).1 h
    obtain ⟨m, rfl⟩ : ∃ k, m = k + 1 := ⟨m - 1, by omega⟩
    rw [List.take_succ_cons]
    have key : ∀ F : UInt8 → Bool, run F r ≤ m + 1 → run F (r.take m) = run F r := fun F hF => by
      unfold run at hF ⊢
      rw [tw_take F r m (by omega)]
    simp only [one] at h ⊢
    by_cases h1 : isBlank c = true
    · rw [if_pos h1] at h ⊢; rw [key _ h, if_pos h1]
    · rw [if_neg h1] at h ⊢; rw [if_neg h1]
      by_cases h2 : c.toNat = 35
      · rw [if_pos h2] at h ⊢; rw [key _ h, if_pos h2]
      · rw [if_neg h2] at h ⊢; rw [if_neg h2]
        by_cases h3 : isLetter c = true
        · rw [if_pos h3] at h ⊢; rw [key _ h, if_pos h3]
        · rw [if_neg h3] at h ⊢; rw [if_neg h3]
          by_cases h4 : isDigit c = true
          · rw [if_pos h4] at h ⊢; rw [key _ h, if_pos h4]
          · rw [if_neg h4] at h ⊢; rw [if_neg h4]
theorem tk_cut : ∀ (k : Nat) (s : List UInt8) (p n : Nat) (t : Tok), s.length = k → (tk s p)[n]? = some t → p ≤ t.pos ∧ tk (s.take (t.pos - p)) p = (tk s p).take n := by
  intro k
  induction k using Nat.strongRecOn with
  | _ k ih =>
    intro s p n t hk ht
    by_cases hs : s = []
    · subst hs; rw [tk_nil] at ht; simp at ht
    have hl := one_le s hs
    have step := tk_step s p hs
    have rest : ∀ (n : Nat), (tk (s.drop (one s).2) (p + (one s).2))[n]? = some t → p ≤ t.pos ∧ tk (s.take (t.pos - p)) p = (if (one s).1 > 0 then [⟨(one s).1, s.take (one s).2, p⟩] else []) ++ (tk (s.drop (one s).2) (p + (one s).2)).take n := fun n hn => by
      obtain ⟨h1, h2⟩ := ih (s.drop (one s).2).length (by simp; omega) (s.drop (one s).2) (p + (one s).2) n t rfl hn
      refine ⟨by omega, ?_⟩
      have hm : (one s).2 ≤ t.pos - p := by omega
      have hne : s.take (t.pos - p) ≠ [] := by
        intro e
        have := congrArg List.length e
        simp at this
        rcases this with this | this
        · omega
        · exact hs this
      have e3 : ((s.drop (one s).2).take (t.pos - (p + (one s).2))) = (s.take (t.pos - p)).drop (one s).2 := by
        rw [List.drop_take]; congr 1; omega
      have e4 : (s.take (t.pos - p)).take (one s).2 = s.take (one s).2 := by rw [List.take_take, Nat.min_eq_left hm]
      rw [tk_step _ _ hne, one_take s _ hs hm, e4, ← e3, h2]
    rw [step] at ht ⊢
    by_cases hp : (one s).1 > 0
    · rw [if_pos hp] at ht rest ⊢
      cases n with
      | zero =>
        simp only [List.singleton_append, List.getElem?_cons_zero, Option.some.injEq] at ht
        subst ht
        exact ⟨Nat.le_refl _, by simp [tk_nil]⟩
      | succ n =>
        obtain ⟨h1, h2⟩ := rest n (by simpa using ht)
        exact ⟨h1, by rw [h2]; simp⟩
    · rw [if_neg hp] at ht rest ⊢
      exact rest n (by simpa using ht)
theorem tokens_cut (s : List UInt8) (n : Nat) (t : Tok) (h : (tokens s)[n]? = some t) : tokens (s.take t.pos) = (tokens s).take n := by
  have := (tk_cut _ s 0 n t rfl h).2
  rw [Nat.sub_zero] at this
  exact this
/-- the tokens ahead of the n-th. -/
structure Cut (T T' : Src) (n : Nat) : Prop where
  l : T'.l = T.l.take n
  lt : n < T.l.length
section
variable {T T' : Src} {n : Nat}
theorem Cut.len (C : Cut T T' n) : T'.l.length = n := by rw [C.l, List.length_take]; have := C.lt; omega
theorem Cut.tok (C : Cut T T' n) {i : Nat} (h : i < n) : T.tok i = T'.tok i := by
  have := C.lt
  rw [Src.tok, Src.tok, C.l, List.getD_eq_getElem?_getD, List.getD_eq_getElem?_getD, List.getElem?_take, if_pos h, List.getElem?_eq_getElem (by omega)]; rfl
theorem Cut.is (C : Cut T T' n) {i : Nat} (w : List UInt8) (h : i < n) : T.is i w = T'.is i w := by
  have h1 := C.lt
  have h2 := C.len
  rw [Src.is, Src.is, C.tok h, h2, decide_eq_true (by omega : i < T.l.length), decide_eq_true h]
theorem Cut.is_lt (C : Cut T T' n) {i : Nat} {w : List UInt8} (h : T'.is i w = true) : i < n := by have := Go.Sp.is_lt h; rwa [C.len] at this
theorem Cut.endOf (C : Cut T T' n) {i : Nat} (h : i ≤ n) : T.endOf i = T'.endOf i := by
  rw [Src.endOf, Src.endOf]
  by_cases h0 : i = 0
  · rw [if_pos h0, if_pos h0]
  · rw [if_neg h0, if_neg h0, C.tok (by omega)]
end
end Go.Sp
end
section
namespace Go.Sp
/-- where items begin, behind a first one. -/
def bs (s : List UInt8) (l : List Tok) : List Nat := (l.filter (begins s)).map (·.pos)
theorem fold_bs (s : List UInt8) : ∀ (l : List Tok) (acc : List Nat), acc ≠ [] → l.foldl (cutStep s) acc = acc ++ bs s l
  | [], acc, _ => by simp [bs]
  | t :: l, acc, h => by
    rw [List.foldl_cons, fold_bs s l _ (cutStep_ne s acc t), cutStep]
    by_cases hb : begins s t = true
    · rw [if_pos (.inl hb), bs, bs, List.filter_cons_of_pos hb]; simp
    · rw [if_neg (by rintro (h1 | h1); exact hb h1; exact h h1), bs, bs, List.filter_cons_of_neg hb]
theorem fold_split (s : List UInt8) (p : Nat) : ∀ (l : List Tok) (acc : List Nat) (i : Nat), acc.length ≤ i → (l.foldl (cutStep s) acc)[i]? = some p →
    ∃ n t, l[n]? = some t ∧ t.pos = p ∧ (l.take n).foldl (cutStep s) acc = (l.foldl (cutStep s) acc).take i ∧ (l.foldl (cutStep s) acc).drop (i + 1) = bs s (l.drop (n + 1))
  | [], acc, i, h, hp => by
    rw [List.foldl_nil, List.getElem?_eq_none h] at hp
    cases hp
  | t :: l, acc, i, h, hp => by
    rw [List.foldl_cons] at hp ⊢
    by_cases h2 : (cutStep s acc t).length ≤ i
    · obtain ⟨n, u, h3, h4, h5, h6⟩ := fold_split s p l _ i h2 hp
      exact ⟨n + 1, u, by simpa using h3, h4, by rw [List.take_succ_cons, List.foldl_cons]; exact h5, by rw [h6]; simp⟩
    · have h3 := cutStep_len s acc t
      have h4 : i = acc.length := by omega
      have h5 : cutStep s acc t = acc ++ [t.pos] := by
        rw [cutStep] at h2 ⊢
        split
        · rfl
        · rename_i hn
          rw [if_neg hn] at h2
          omega
      rw [fold_bs s l _ (cutStep_ne s acc t), h5] at hp ⊢
      refine ⟨0, t, rfl, ?_, ?_, ?_⟩
      · rw [h4, List.append_assoc, List.getElem?_append_right (Nat.le_refl _)] at hp
        simpa using hp
      · rw [h4, List.append_assoc, List.take_left]; rfl
      · rw [h4, List.drop_left' (by simp)]; rfl
theorem tk_from : ∀ (k : Nat) (s : List UInt8) (p n : Nat) (t : Tok), s.length = k → (tk s p)[n]? = some t → p ≤ t.pos ∧ (tk s p).drop n = tk (s.drop (t.pos - p)) t.pos := by
  intro k
  induction k using Nat.strongRecOn with
  | _ k ih =>
    intro s p n t hk ht
    by_cases hs : s = []
    · subst hs; rw [tk_nil] at ht; simp at ht
    have hl := one_le s hs
    have step := tk_step s p hs
    have rest : ∀ (n : Nat), (tk (s.drop (one s).2) (p + (one s).2))[n]? = some t → p ≤ t.pos ∧ (tk (s.drop (one s).2) (p + (one s).2)).drop n = tk (s.drop (t.pos - p)) t.pos := fun n hn => by
      obtain ⟨h1, h2⟩ := ih (s.drop (one s).2).length (by simp; omega) (s.drop (one s).2) (p + (one s).2) n t rfl hn
      refine ⟨by omega, ?_⟩
      rw [h2, List.drop_drop, show (one s).2 + (t.pos - (p + (one s).2)) = t.pos - p by omega]
    by_cases ho : (one s).1 > 0
    · rw [if_pos ho] at step
      cases n with
      | zero =>
        rw [step] at ht
        simp at ht
        subst ht
        simp
      | succ n =>
        rw [step] at ht ⊢
        simpa using rest n (by simpa using ht)
    · rw [if_neg ho] at step
      rw [step] at ht ⊢
      simpa using rest n (by simpa using ht)
theorem begins_take (s : List UInt8) (p : Nat) (t : Tok) (h : t.pos < p) : begins (s.take p) t = begins s t := by
  have : (s.take p).getD (t.pos - 1) 0 = s.getD (t.pos - 1) 0 := by
    rw [List.getD_eq_getElem?_getD, List.getD_eq_getElem?_getD, List.getElem?_take_of_lt (by omega)]
  simp only [begins, this]
theorem fold_congr {α β : Type} (f g : β → α → β) : ∀ (l : List α) (b : β), (∀ b, ∀ a ∈ l, f b a = g b a) → l.foldl f b = l.foldl g b
  | [], b, _ => rfl
  | a :: l, b, h => by
    rw [List.foldl_cons, List.foldl_cons, h b a (by simp)]
    exact fold_congr f g l _ (fun b' a' ha => h b' a' (by simp [ha]))
/-- a cut: what is ahead hangs on the text ahead, what is behind on the text behind. -/
theorem cut_at (s : List UInt8) (i p : Nat) (h : (cuts s)[i]? = some p) : (cuts s).take i = cuts (s.take p) ∧ (cuts s).drop (i + 1) = (bs (s.drop p) (tokens (s.drop p)).tail).map (· + p) := by
  obtain ⟨n, t, h1, h2, h3, h4⟩ := fold_split s p (tokens s) [] i (Nat.zero_le _) h
  subst h2
  constructor
  · change ((tokens s).foldl (cutStep s) []).take i = _
    rw [← h3, cuts, tokens_cut s n t h1]
    refine fold_congr _ _ _ _ fun acc u hu => ?_
    have hu2 : u.pos < t.pos := by
      obtain ⟨m, hm, rfl⟩ := List.getElem_of_mem hu
      rw [List.length_take] at hm
      have hn := (List.getElem?_eq_some_iff.1 h1)
      obtain ⟨hn1, hn2⟩ := hn
      have := List.pairwise_iff_getElem.1 (tokens_sorted s) m n (by omega) hn1 (by omega)
      have h5 := (tokens_ok s _ (List.getElem_mem (show m < (tokens s).length by omega))).len
      rw [hn2] at this
      rw [List.getElem_take]
      omega
    rw [cutStep, cutStep, begins_take s t.pos u hu2]
  · change ((tokens s).foldl (cutStep s) []).drop (i + 1) = _
    rw [h4]
    obtain ⟨h5, h6⟩ := tk_from s.length s 0 n t rfl h1
    have h7 : (tokens s).drop n = (tokens (s.drop t.pos)).map (shift t.pos) := by
      have e : tokens s = tk s 0 := rfl
      rw [e, h6, Nat.sub_zero]
      have := tk_shift t.pos (s.drop t.pos).length (s.drop t.pos) 0
      rw [Nat.zero_add] at this
      exact this
    have h8 : (tokens s).drop (n + 1) = (tokens (s.drop t.pos)).tail.map (shift t.pos) := by
      rw [← List.drop_drop, h7, ← List.map_drop, List.drop_one]
    rw [h8, bs, bs, List.filter_map, List.map_map, List.map_map]
    have hpos : ∀ u ∈ (tokens (s.drop t.pos)).tail, 1 ≤ u.pos := fun u hu => by
      have hs := tokens_sorted (s.drop t.pos)
      have hok := fun v hv => (tokens_ok (s.drop t.pos) v hv).len
      generalize tokens (s.drop t.pos) = L at hu hs hok
      cases L with
      | nil => simp at hu
      | cons a L =>
        have := (List.pairwise_cons.1 hs).1 u hu
        have := hok a (by simp)
        omega
    generalize (tokens (s.drop t.pos)).tail = L at hpos
    have hb : L.filter (begins s ∘ shift t.pos) = L.filter (begins (s.drop t.pos)) := by
      refine List.filter_congr fun u hu => ?_
      have h9 := hpos u hu
      have e1 : (s.drop t.pos).getD (u.pos - 1) 0 = s.getD (u.pos + t.pos - 1) 0 := by
        rw [List.getD_eq_getElem?_getD, List.getD_eq_getElem?_getD, List.getElem?_drop, show t.pos + (u.pos - 1) = u.pos + t.pos - 1 by omega]
      have e2 : decide ((shift t.pos u).pos = 0) = decide (u.pos = 0) := by
        rw [decide_eq_false (show ¬ (shift t.pos u).pos = 0 from by show ¬ u.pos + t.pos = 0; omega), decide_eq_false (by omega)]
      have e3 : (shift t.pos u).pos - 1 = u.pos + t.pos - 1 := rfl
      show begins s (shift t.pos u) = begins (s.drop t.pos) u
      rw [begins, begins, e1, e2, e3]
      rfl
    rw [hb]
    rfl
theorem getD_get {l : List Nat} {i d x : Nat} (h : l[i]? = some x) : l.getD i d = x := by rw [List.getD_eq_getElem?_getD, h]; rfl
/-- an edit between two cuts, that makes as many: all other items' texts stay. -/
theorem few_piece (s t : List UInt8) (i c : Nat) (hlen : (cuts t).length = (cuts s).length) (hs : (cuts s)[i]? = some c) (ht : (cuts t)[i]? = some c) (e e' : Nat)
    (he : e = (cuts s).getD (i + 1) s.length) (he' : e' = (cuts t).getD (i + 1) t.length) (hpre : s.take c = t.take c) (hsuf : s.drop e = t.drop e') (k : Nat) (hk : k < (cuts t).length) (hki : k ≠ i) :
    piece t (cuts t) k = piece s (cuts s) k := by
  have hi : i < (cuts s).length := (List.getElem?_eq_some_iff.1 hs).1
  have hls : (cuts s).getD (i + 1) s.length ≤ s.length := (cuts_at s hi).2
  have hlt : (cuts t).getD (i + 1) t.length ≤ t.length := (cuts_at t (by omega)).2
  have hsl := congrArg List.length hsuf
  simp only [List.length_drop] at hsl
  rcases Nat.lt_or_ge k i with h | h
  · -- ahead
    obtain ⟨a1, _⟩ := cut_at s i c hs
    obtain ⟨b1, _⟩ := cut_at t i c ht
    rw [hpre, ← b1] at a1
    have g : ∀ j, j < i → (cuts s)[j]? = (cuts t)[j]? := fun j hj => by
      have := congrArg (fun l => l[j]?) a1
      simpa [List.getElem?_take_of_lt hj] using this
    have gk := g k h
    have gk1 : (cuts s)[k + 1]? = (cuts t)[k + 1]? := by
      rcases Nat.lt_or_ge (k + 1) i with h2 | h2
      · exact g _ h2
      · rw [show k + 1 = i by omega, hs, ht]
    obtain ⟨x, hx⟩ : ∃ x, (cuts s)[k]? = some x := ⟨_, List.getElem?_eq_getElem (by omega)⟩
    obtain ⟨y, hy⟩ : ∃ y, (cuts s)[k + 1]? = some y := ⟨_, List.getElem?_eq_getElem (by omega)⟩
    have hyc : y ≤ c := by
      have hsort := (cuts_sorted s).1
      obtain ⟨hy1, rfl⟩ := List.getElem?_eq_some_iff.1 hy
      obtain ⟨hs1, rfl⟩ := List.getElem?_eq_some_iff.1 hs
      rcases Nat.lt_or_ge (k + 1) i with h2 | h2
      · exact Nat.le_of_lt (List.pairwise_iff_getElem.1 hsort (k + 1) i hy1 hs1 h2)
      · have : k + 1 = i := by omega
        subst this
        exact Nat.le_refl _
    have hx' : (cuts t)[k]? = some x := by rw [← gk]; exact hx
    have hy' : (cuts t)[k + 1]? = some y := by rw [← gk1]; exact hy
    rw [piece, piece, getD_get hx, getD_get hy, getD_get hx', getD_get hy']
    have e1 : ∀ r : List UInt8, (r.drop x).take (y - x) = ((r.take c).drop x).take (y - x) := fun r => by
      rw [List.drop_take, List.take_take, Nat.min_eq_left (by omega)]
    rw [e1 s, e1 t, hpre]
  · -- behind
    have h1 : i + 1 ≤ k := by omega
    obtain ⟨x, hx⟩ : ∃ x, (cuts s)[i + 1]? = some x := ⟨_, List.getElem?_eq_getElem (by omega)⟩
    obtain ⟨y, hy⟩ : ∃ y, (cuts t)[i + 1]? = some y := ⟨_, List.getElem?_eq_getElem (by omega)⟩
    rw [getD_get hx] at he hls
    rw [getD_get hy] at he' hlt
    subst he; subst he'
    obtain ⟨_, a2⟩ := cut_at s (i + 1) e hx
    obtain ⟨_, b2⟩ := cut_at t (i + 1) e' hy
    rw [← hsuf] at b2
    generalize bs (s.drop e) (tokens (s.drop e)).tail = L at a2 b2
    have hL : L.length = (cuts s).length - (i + 2) := by
      have := congrArg List.length a2
      simp at this
      omega
    -- a place of both, from where what is behind begins
    have gs : ∀ j, i + 1 ≤ j → ∃ z, (cuts s).getD j s.length = z + e ∧ (cuts t).getD j t.length = z + e' := fun j hj => by
      rcases Nat.lt_or_ge (i + 1) j with h2 | h2
      · rcases Nat.lt_or_ge j (cuts s).length with h3 | h3
        · have ga := congrArg (fun l => l[j - (i + 2)]?) a2
          have gb := congrArg (fun l => l[j - (i + 2)]?) b2
          simp only [List.getElem?_drop, List.getElem?_map, show i + 1 + 1 + (j - (i + 2)) = j by omega] at ga gb
          have hz : L[j - (i + 2)]? = some L[j - (i + 2)] := List.getElem?_eq_getElem (by omega)
          rw [hz] at ga gb
          exact ⟨_, getD_get ga, getD_get gb⟩
        · refine ⟨s.length - e, ?_, ?_⟩
          · rw [List.getD_eq_getElem?_getD, List.getElem?_eq_none h3]
            simp only [Option.getD_none]
            omega
          · rw [List.getD_eq_getElem?_getD, List.getElem?_eq_none (by omega)]
            simp only [Option.getD_none]
            omega
      · obtain rfl : j = i + 1 := by omega
        exact ⟨0, by rw [getD_get hx]; omega, by rw [getD_get hy]; omega⟩
    have gd : ∀ (r : List UInt8) d, k < (cuts r).length → (cuts r).getD k 0 = (cuts r).getD k d := fun r d hr => by
      rw [List.getD_eq_getElem?_getD, List.getD_eq_getElem?_getD, List.getElem?_eq_getElem hr]; rfl
    obtain ⟨z, z1, z2⟩ := gs k h1
    obtain ⟨z', z3, z4⟩ := gs (k + 1) (by omega)
    rw [piece, piece, gd s s.length (by omega), gd t t.length hk, z1, z2, z3, z4, show z' + e' - (z + e') = z' + e - (z + e) by omega]
    congr 1
    rw [Nat.add_comm z e', Nat.add_comm z e, ← List.drop_drop, ← List.drop_drop, hsuf]
/-- what the law asks. -/
theorem few (s t : List UInt8) (f u : Int) (x : List UInt8) (hc : chErr s f u x = 0) (htx : t = chTo s f u x) (hs0 : fileErr s = 0) (ht0 : fileErr t = 0) (hlen : (fileItems t).length = (fileItems s).length)
    (i : Nat) (a b : Itm) (ha : (fileItems s)[i]? = some a) (hb : (fileItems t)[i]? = some b) (h1 : a.at_ ≤ f) (h2 : u - a.at_ ≤ a.size) (h3 : b.at_ = a.at_) (h4 : (b.size : Int) - a.size = (t.length : Int) - s.length) :
    freshAll s t ≤ 1 := by
  have es : fileItems s = items s (cuts s) := by rw [fileItems, if_pos hs0]
  have et : fileItems t = items t (cuts t) := by rw [fileItems, if_pos ht0]
  rw [es] at ha hlen
  rw [et] at hb hlen
  rw [items_len, items_len] at hlen
  have hi : i < (cuts s).length := by
    have := (List.getElem?_eq_some_iff.1 ha).1
    rwa [items_len] at this
  have hi' : i < (cuts t).length := by omega
  rw [items_get s _ hi] at ha
  rw [items_get t _ hi'] at hb
  obtain rfl := Option.some.inj ha
  obtain rfl := Option.some.inj hb
  clear ha hb
  have q1 := cuts_at s hi
  have q2 := cuts_at t hi'
  have hat : ∀ r k, (itemAt r (cuts r) k).at_ = ((cuts r).getD k 0 : Nat) := fun r k => by rw [itemAt, (item_szat _ _).2]
  have hsz : ∀ r k, (itemAt r (cuts r) k).size = (piece r (cuts r) k).length := fun r k => by rw [itemAt, (item_szat _ _).1]
  have hsa : (piece s (cuts s) i).length = (cuts s).getD (i + 1) s.length - (cuts s).getD i 0 := by rw [piece, List.length_take, List.length_drop]; omega
  have hsb : (piece t (cuts t) i).length = (cuts t).getD (i + 1) t.length - (cuts t).getD i 0 := by rw [piece, List.length_take, List.length_drop]; omega
  rw [hat] at h1 h2
  rw [hat, hat] at h3
  rw [hsz, hsa] at h2
  rw [hsz, hsz, hsa, hsb] at h4
  have gs : (cuts s)[i]? = some ((cuts s).getD i 0) := by rw [List.getD_eq_getElem?_getD, List.getElem?_eq_getElem hi]; rfl
  have gt : (cuts t)[i]? = some ((cuts t).getD i 0) := by rw [List.getD_eq_getElem?_getD, List.getElem?_eq_getElem hi']; rfl
  obtain ⟨c, hcc⟩ : ∃ c, c = (cuts s).getD i 0 := ⟨_, rfl⟩
  obtain ⟨e, hee⟩ : ∃ e, e = (cuts s).getD (i + 1) s.length := ⟨_, rfl⟩
  obtain ⟨e', hee'⟩ : ∃ e', e' = (cuts t).getD (i + 1) t.length := ⟨_, rfl⟩
  have h3' : (cuts t).getD i 0 = c := by rw [hcc]; omega
  rw [h3'] at gt h4 q2
  rw [← hcc] at gs h1 h2 h4 q1
  rw [← hee] at h2 h4 q1
  rw [← hee'] at h4 q2
  have hin : ¬ (f < 0 ∨ u < f ∨ u > s.length) := fun h => by rw [chErr, if_pos h] at hc; cases hc
  have ht2 : t = s.take f.toNat ++ x ++ s.drop u.toNat := by rw [htx, chTo, if_pos hc]
  have htl : (t.length : Int) = s.length - (u - f) + x.length := by
    rw [ht2]; simp only [List.length_append, List.length_take, List.length_drop]; omega
  have hpre : s.take c = t.take c := by
    rw [ht2, List.append_assoc, List.take_append_of_le_length (by rw [List.length_take]; omega), List.take_take, Nat.min_eq_left (by omega)]
  have hsuf : s.drop e = t.drop e' := by
    have hl : (s.take f.toNat ++ x).length = f.toNat + x.length := by rw [List.length_append, List.length_take]; omega
    have : e' = (s.take f.toNat ++ x).length + (e - u.toNat) := by rw [hl]; omega
    rw [ht2, this, ← List.drop_drop, List.drop_left, List.drop_drop, show u.toNat + (e - u.toNat) = e by omega]
  rw [freshAll, if_pos ht0]
  have hone := fresh_one s t i (cuts t).length (fun j hj hjn => ?_) (cuts t).length (Nat.le_refl _)
  · split at hone <;> omega
  · by_cases hji : j = i
    · exact hji
    · exfalso
      have hp := few_piece s t i c hlen gs gt e e' hee hee' hpre hsuf j hj hji
      have hm : piece s (cuts s) j ∈ pieces s := List.mem_map_of_mem (List.mem_range.2 (by omega))
      rw [anew, hp] at hjn
      simp [hm] at hjn
end Go.Sp
end
