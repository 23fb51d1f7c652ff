/- Own work: texts LawEl, one behind the other. -/
import Derived.Test.YtghommdgmglmdaaDoorEl25
section
namespace Go.Proofs.YtghommdgmglmdaaDoor
open Go.Fw
set_option maxHeartbeats 64000000 in
theorem sp_eleast (s : List UInt8) (hs : s.length ≤ 9223372036854775807) (I : Imm) (hC : Conv I) :
    CalM Tryd.prog 3 #[str s] I [] (fun v _ H' => v = .bool true ∧ H' = []) := by
  refine CalM.of fun w E hm => enter (N := 131) Tryd.func3 rfl [(0, str s)] args1 rfl ?_
  have hAl := e_alive I hC
  have hF := fun (J : Imm) (m : Le I J) => p_file s J (hC.le m) hs
  obtain ⟨g1, few1⟩ := Sp.file_eff s
  generalize Sp.fileErr s = er at hF
  generalize Sp.fileItems s = its at hF g1 few1
  have hN := Sp.names_len g1 few1
  have hft : ∀ it ∈ its, it.fit ∧ Sp.stmsCnt it.body ≤ 400000000 := fun it h => ⟨(g1 it h).1.fit, by have := (g1 it h).2; omega⟩
  by_cases h0 : er ≠ 0
  · skip
    repeat' (first
    | (refine m_call (d:=21) hm (hp:=pm0) (hc:=hAl) (k:=?_); clear hm; rintro _ I1 _ _ ⟨rfl, rfl⟩ hleI1 hm; try simp only [setn] at hm)
    | (refine m_call (d:=25) hm (hp:=pm0) (hc:=hF I1 hleI1) (k:=?_); clear hm; rintro _ I2 _ _ ⟨a, cp, xs, rfl, hrow, hits, rfl⟩ hleI2 hm; try simp only [setn] at hm)
    | (refine m_varS (d:=3) hm (k:=?_); clear hm; intro b3 _ hm)
    | (refine m_var1 (d:=3) hm (k:=?_); clear hm; intro b3 _ hm)
    | (refine m_allocS (d:=7) hm (k:=?_); clear hm; intro b7 _ hm)
    | (refine m_push (d:=93) hm (k:=?_); clear hm; intro a93 cp93 _ _ hm; try simp only [setn] at hm)
    | (refine m_varS (d:=18) hm (k:=?_); clear hm; intro b18 _ hm)
    | (refine m_var1 (d:=18) hm (k:=?_); clear hm; intro b18 _ hm)
    | (refine m_push (d:=121) hm (k:=?_); clear hm; intro a121 cp121 _ _ hm; try simp only [setn] at hm)
    | refine m_load1 hm (k:=?_)
    | refine i_load1 hm (k:=?_)
    | refine m_loadAll hm (k:=?_)
    | refine i_loadN hm (k:=?_)
    | refine i_load1z hm (k:=?_)
    | refine mq_load1 hm (k:=?_)
    | refine iq_load1 hm (k:=?_)
    | refine mq_loadAll hm (k:=?_)
    | refine iq_loadN hm (k:=?_)
    | refine iq_load1z hm (k:=?_)
    | (refine m_storeAll hm (k:=?_); clear hm; intro _ hm; try simp only [setn] at hm)
    | (refine m_store1 hm (k:=?_); clear hm; intro _ hm; try simp only [setn] at hm)
    | (refine m_storeN hm (k:=?_); clear hm; intro _ hm; try simp only [setn] at hm)
    | refine m_ret_agg hm (h:=?_)
    | refine m_ret2_agg hm (h:=?_)
    | refine op_move (k:=?_)
    | refine op_assign (k:=?_)
    | refine op_lss (k:=?_)
    | refine op_gtr (k:=?_)
    | refine op_geq (k:=?_)
    | refine op_neq (k:=?_)
    | refine op_neq_str (k:=?_)
    | refine op_neq_bool (k:=?_)
    | refine op_neq_flat (k:=?_)
    | refine op_len_str (k:=?_)
    | refine op_len_slice (k:=?_)
    | refine op_not (k:=?_)
    | refine op_extract (k:=?_)
    | refine op_add (k:=?_)
    | refine op_add_u8 (k:=?_)
    | refine op_indexAddr_arr (k:=?_)
    | refine op_fieldAddr (k:=?_)
    | refine op_indexAddr (k:=?_)
    | refine op_load1 (k:=?_)
    | refine op_struct (k:=?_)
    | refine op_build (hr:=fun _ => (by rfl)) (k:=?_)
    | refine wl_nil ?_
    | refine at_then_normal ?_
    | refine at_then_ret ?_
    | refine at_then_exit ?_
    | refine at_block_normal ?_
    | refine at_block_ret ?_
    | refine at_block_exit ?_
    | refine at_block_other (h:=?_)
    | refine wc_seq ?_
    | refine wc_region ?_
    | refine wc_block ?_
    | refine wc_skip ?_
    | refine wc_exit ?_
    | refine wc_ret ?_
    | refine at_ret1 (h:=?_)
    | refine wc_quiet (h:=?_)
    | (refine wq_nil ?_; intro _ hkq; replace hm := hm.kept0 hkq; clear hkq)
    | (refine wq_nil_tail ?_; intro _ hkq; replace hm := hm.kept0 hkq; clear hkq)
    | refine wc_cond_true (ht:=?_)
    | refine wc_cond_false (hf:=?_)
    | (refine wc_cond_dec (ht:=fun _ => ?_) (hf:=fun _ => ?_)<;> (try first | contradiction | (exfalso; omega)))
    | refine wc_cond (ht:=fun _ => ?_) (hf:=fun _ => ?_)
    | refine q_move (k:=?_)
    | refine q_assign (k:=?_)
    | refine q_lss (k:=?_)
    | refine q_gtr (k:=?_)
    | refine q_geq (k:=?_)
    | refine q_neq (k:=?_)
    | refine q_neq_str (k:=?_)
    | refine q_neq_bool (k:=?_)
    | refine q_neq_flat (k:=?_)
    | refine q_len_str (k:=?_)
    | refine q_len_slice (k:=?_)
    | refine q_not (k:=?_)
    | refine q_extract (k:=?_)
    | refine q_add (k:=?_)
    | refine q_add_u8 (k:=?_)
    | refine q_indexAddr_arr (k:=?_)
    | refine q_fieldAddr (k:=?_)
    | refine q_indexAddr (k:=?_)
    | refine q_load1 (k:=?_)
    | refine q_struct (k:=?_)
    | refine q_build (hr:=fun _ => (by rfl)) (k:=?_))
    all_goals try (exfalso; first | omega | contradiction)
    all_goals exact ⟨I2, [], ⟨rfl, rfl⟩, hm.left (H := [])⟩
  obtain rfl : er = 0 := by omega
  repeat' (first
  | (refine m_call (d:=21) hm (hp:=pm0) (hc:=hAl) (k:=?_); clear hm; rintro _ I1 _ _ ⟨rfl, rfl⟩ hleI1 hm; try simp only [setn] at hm)
  | (refine m_call (d:=25) hm (hp:=pm0) (hc:=hF I1 hleI1) (k:=?_); clear hm; rintro _ I2 _ _ ⟨a, cp, xs, rfl, hrow, hits, rfl⟩ hleI2 hm; try simp only [setn] at hm)
  | refine wc_hold 6 ?_
  | (refine m_varS (d:=3) hm (k:=?_); clear hm; intro b3 _ hm)
  | (refine m_var1 (d:=3) hm (k:=?_); clear hm; intro b3 _ hm)
  | (refine m_allocS (d:=7) hm (k:=?_); clear hm; intro b7 _ hm)
  | (refine m_push (d:=93) hm (k:=?_); clear hm; intro a93 cp93 _ _ hm; try simp only [setn] at hm)
  | (refine m_varS (d:=18) hm (k:=?_); clear hm; intro b18 _ hm)
  | (refine m_var1 (d:=18) hm (k:=?_); clear hm; intro b18 _ hm)
  | (refine m_push (d:=121) hm (k:=?_); clear hm; intro a121 cp121 _ _ hm; try simp only [setn] at hm)
  | refine m_load1 hm (k:=?_)
  | refine i_load1 hm (k:=?_)
  | refine m_loadAll hm (k:=?_)
  | refine i_loadN hm (k:=?_)
  | refine i_load1z hm (k:=?_)
  | refine mq_load1 hm (k:=?_)
  | refine iq_load1 hm (k:=?_)
  | refine mq_loadAll hm (k:=?_)
  | refine iq_loadN hm (k:=?_)
  | refine iq_load1z hm (k:=?_)
  | (refine m_storeAll hm (k:=?_); clear hm; intro _ hm; try simp only [setn] at hm)
  | (refine m_store1 hm (k:=?_); clear hm; intro _ hm; try simp only [setn] at hm)
  | (refine m_storeN hm (k:=?_); clear hm; intro _ hm; try simp only [setn] at hm)
  | refine m_ret_agg hm (h:=?_)
  | refine m_ret2_agg hm (h:=?_)
  | refine op_move (k:=?_)
  | refine op_assign (k:=?_)
  | refine op_lss (k:=?_)
  | refine op_gtr (k:=?_)
  | refine op_geq (k:=?_)
  | refine op_neq (k:=?_)
  | refine op_neq_str (k:=?_)
  | refine op_neq_bool (k:=?_)
  | refine op_neq_flat (k:=?_)
  | refine op_len_str (k:=?_)
  | refine op_len_slice (k:=?_)
  | refine op_not (k:=?_)
  | refine op_extract (k:=?_)
  | refine op_add (k:=?_)
  | refine op_add_u8 (k:=?_)
  | refine op_indexAddr_arr (k:=?_)
  | refine op_fieldAddr (k:=?_)
  | refine op_indexAddr (k:=?_)
  | refine op_load1 (k:=?_)
  | refine op_struct (k:=?_)
  | refine op_build (hr:=fun _ => (by rfl)) (k:=?_)
  | refine wl_nil ?_
  | refine at_then_normal ?_
  | refine at_then_ret ?_
  | refine at_then_exit ?_
  | refine at_block_normal ?_
  | refine at_block_ret ?_
  | refine at_block_exit ?_
  | refine at_block_other (h:=?_)
  | refine wc_seq ?_
  | refine wc_region ?_
  | refine wc_block ?_
  | refine wc_skip ?_
  | refine wc_exit ?_
  | refine wc_ret ?_
  | refine at_ret1 (h:=?_)
  | refine wc_quiet (h:=?_)
  | (refine wq_nil ?_; intro _ hkq; replace hm := hm.kept0 hkq; clear hkq)
  | (refine wq_nil_tail ?_; intro _ hkq; replace hm := hm.kept0 hkq; clear hkq)
  | refine wc_cond_true (ht:=?_)
  | refine wc_cond_false (hf:=?_)
  | (refine wc_cond_dec (ht:=fun _ => ?_) (hf:=fun _ => ?_)<;> (try first | contradiction | (exfalso; omega)))
  | refine wc_cond (ht:=fun _ => ?_) (hf:=fun _ => ?_)
  | refine q_move (k:=?_)
  | refine q_assign (k:=?_)
  | refine q_lss (k:=?_)
  | refine q_gtr (k:=?_)
  | refine q_geq (k:=?_)
  | refine q_neq (k:=?_)
  | refine q_neq_str (k:=?_)
  | refine q_neq_bool (k:=?_)
  | refine q_neq_flat (k:=?_)
  | refine q_len_str (k:=?_)
  | refine q_len_slice (k:=?_)
  | refine q_not (k:=?_)
  | refine q_extract (k:=?_)
  | refine q_add (k:=?_)
  | refine q_add_u8 (k:=?_)
  | refine q_indexAddr_arr (k:=?_)
  | refine q_fieldAddr (k:=?_)
  | refine q_indexAddr (k:=?_)
  | refine q_load1 (k:=?_)
  | refine q_struct (k:=?_)
  | refine q_build (hr:=fun _ => (by rfl)) (k:=?_))
  all_goals try (exfalso; first | omega | contradiction)
  have q1 : FE I2 its a cp xs := fe_of hrow hits (by omega)
  obtain ⟨I3, hle3, hm3, hpf⟩ := hm.freezeO
  clear hm
  have hm := hm3
  clear hm3
  have q3 := q1.le hle3
  have hA := e_all (its := its) I3 a cp xs q3 hft (by omega)
  refine ⟨?_⟩
  repeat' (first
  | (refine i_loadN (d:=30) hm (hp:=hpf) (k:=?_))
  | (refine m_call (d:=31) hm (hp:=pm0) (hc:=hA) (k:=?_); clear hm; rintro _ I4 _ w4 ⟨ob, T, hT, rfl, rfl⟩ hleI4 hm)
  | refine wc_hold 7 ?_
  | (refine m_varS (d:=3) hm (k:=?_); clear hm; intro b3 _ hm)
  | (refine m_var1 (d:=3) hm (k:=?_); clear hm; intro b3 _ hm)
  | (refine m_allocS (d:=7) hm (k:=?_); clear hm; intro b7 _ hm)
  | (refine m_push (d:=93) hm (k:=?_); clear hm; intro a93 cp93 _ _ hm; try simp only [setn] at hm)
  | (refine m_varS (d:=18) hm (k:=?_); clear hm; intro b18 _ hm)
  | (refine m_var1 (d:=18) hm (k:=?_); clear hm; intro b18 _ hm)
  | (refine m_push (d:=121) hm (k:=?_); clear hm; intro a121 cp121 _ _ hm; try simp only [setn] at hm)
  | refine m_load1 hm (k:=?_)
  | refine i_load1 hm (k:=?_)
  | refine m_loadAll hm (k:=?_)
  | refine i_loadN hm (k:=?_)
  | refine i_load1z hm (k:=?_)
  | refine mq_load1 hm (k:=?_)
  | refine iq_load1 hm (k:=?_)
  | refine mq_loadAll hm (k:=?_)
  | refine iq_loadN hm (k:=?_)
  | refine iq_load1z hm (k:=?_)
  | (refine m_storeAll hm (k:=?_); clear hm; intro _ hm; try simp only [setn] at hm)
  | (refine m_store1 hm (k:=?_); clear hm; intro _ hm; try simp only [setn] at hm)
  | (refine m_storeN hm (k:=?_); clear hm; intro _ hm; try simp only [setn] at hm)
  | refine m_ret_agg hm (h:=?_)
  | refine m_ret2_agg hm (h:=?_)
  | refine op_move (k:=?_)
  | refine op_assign (k:=?_)
  | refine op_lss (k:=?_)
  | refine op_gtr (k:=?_)
  | refine op_geq (k:=?_)
  | refine op_neq (k:=?_)
  | refine op_neq_str (k:=?_)
  | refine op_neq_bool (k:=?_)
  | refine op_neq_flat (k:=?_)
  | refine op_len_str (k:=?_)
  | refine op_len_slice (k:=?_)
  | refine op_not (k:=?_)
  | refine op_extract (k:=?_)
  | refine op_add (k:=?_)
  | refine op_add_u8 (k:=?_)
  | refine op_indexAddr_arr (k:=?_)
  | refine op_fieldAddr (k:=?_)
  | refine op_indexAddr (k:=?_)
  | refine op_load1 (k:=?_)
  | refine op_struct (k:=?_)
  | refine op_build (hr:=fun _ => (by rfl)) (k:=?_)
  | refine wl_nil ?_
  | refine at_then_normal ?_
  | refine at_then_ret ?_
  | refine at_then_exit ?_
  | refine at_block_normal ?_
  | refine at_block_ret ?_
  | refine at_block_exit ?_
  | refine at_block_other (h:=?_)
  | refine wc_seq ?_
  | refine wc_region ?_
  | refine wc_block ?_
  | refine wc_skip ?_
  | refine wc_exit ?_
  | refine wc_ret ?_
  | refine at_ret1 (h:=?_)
  | refine wc_quiet (h:=?_)
  | (refine wq_nil ?_; intro _ hkq; replace hm := hm.kept0 hkq; clear hkq)
  | (refine wq_nil_tail ?_; intro _ hkq; replace hm := hm.kept0 hkq; clear hkq)
  | refine wc_cond_true (ht:=?_)
  | refine wc_cond_false (hf:=?_)
  | (refine wc_cond_dec (ht:=fun _ => ?_) (hf:=fun _ => ?_)<;> (try first | contradiction | (exfalso; omega)))
  | refine wc_cond (ht:=fun _ => ?_) (hf:=fun _ => ?_)
  | refine q_move (k:=?_)
  | refine q_assign (k:=?_)
  | refine q_lss (k:=?_)
  | refine q_gtr (k:=?_)
  | refine q_geq (k:=?_)
  | refine q_neq (k:=?_)
  | refine q_neq_str (k:=?_)
  | refine q_neq_bool (k:=?_)
  | refine q_neq_flat (k:=?_)
  | refine q_len_str (k:=?_)
  | refine q_len_slice (k:=?_)
  | refine q_not (k:=?_)
  | refine q_extract (k:=?_)
  | refine q_add (k:=?_)
  | refine q_add_u8 (k:=?_)
  | refine q_indexAddr_arr (k:=?_)
  | refine q_fieldAddr (k:=?_)
  | refine q_indexAddr (k:=?_)
  | refine q_load1 (k:=?_)
  | refine q_struct (k:=?_)
  | refine q_build (hr:=fun _ => (by rfl)) (k:=?_))
  all_goals try (exfalso; first | omega | contradiction)
  obtain ⟨I5, hle5, hm5, hro⟩ := Mem.freeze (H := T.map triS ++ []) hm
  obtain ⟨I6, hle6, hm6, hrt⟩ := triS_freeze T hm5
  clear hm hm5
  have hm := hm6
  clear hm6
  have hle46 : Le I4 I6 := hle5.trans hle6
  have q6 := (q3.le hleI4).le hle46
  have hpf6 := (hpf.le hleI4).le hle46
  have hro6 := hro.le hle6
  rw [← flat_one] at hro6
  refine ⟨?_⟩
  repeat' (first
  | (refine m_varS (d:=3) hm (k:=?_); clear hm; intro b3 _ hm)
  | (refine m_var1 (d:=3) hm (k:=?_); clear hm; intro b3 _ hm)
  | (refine m_allocS (d:=7) hm (k:=?_); clear hm; intro b7 _ hm)
  | (refine m_push (d:=93) hm (k:=?_); clear hm; intro a93 cp93 _ _ hm; try simp only [setn] at hm)
  | (refine m_varS (d:=18) hm (k:=?_); clear hm; intro b18 _ hm)
  | (refine m_var1 (d:=18) hm (k:=?_); clear hm; intro b18 _ hm)
  | (refine m_push (d:=121) hm (k:=?_); clear hm; intro a121 cp121 _ _ hm; try simp only [setn] at hm)
  | refine m_load1 hm (k:=?_)
  | refine i_load1 hm (k:=?_)
  | refine m_loadAll hm (k:=?_)
  | refine i_loadN hm (k:=?_)
  | refine i_load1z hm (k:=?_)
  | refine mq_load1 hm (k:=?_)
  | refine iq_load1 hm (k:=?_)
  | refine mq_loadAll hm (k:=?_)
  | refine iq_loadN hm (k:=?_)
  | refine iq_load1z hm (k:=?_)
  | (refine m_storeAll hm (k:=?_); clear hm; intro _ hm; try simp only [setn] at hm)
  | (refine m_store1 hm (k:=?_); clear hm; intro _ hm; try simp only [setn] at hm)
  | (refine m_storeN hm (k:=?_); clear hm; intro _ hm; try simp only [setn] at hm)
  | refine m_ret_agg hm (h:=?_)
  | refine m_ret2_agg hm (h:=?_)
  | refine op_move (k:=?_)
  | refine op_assign (k:=?_)
  | refine op_lss (k:=?_)
  | refine op_gtr (k:=?_)
  | refine op_geq (k:=?_)
  | refine op_neq (k:=?_)
  | refine op_neq_str (k:=?_)
  | refine op_neq_bool (k:=?_)
  | refine op_neq_flat (k:=?_)
  | refine op_len_str (k:=?_)
  | refine op_len_slice (k:=?_)
  | refine op_not (k:=?_)
  | refine op_extract (k:=?_)
  | refine op_add (k:=?_)
  | refine op_add_u8 (k:=?_)
  | refine op_indexAddr_arr (k:=?_)
  | refine op_fieldAddr (k:=?_)
  | refine op_indexAddr (k:=?_)
  | refine op_load1 (k:=?_)
  | refine op_struct (k:=?_)
  | refine op_build (hr:=fun _ => (by rfl)) (k:=?_)
  | refine wl_nil ?_
  | refine at_then_normal ?_
  | refine at_then_ret ?_
  | refine at_then_exit ?_
  | refine at_block_normal ?_
  | refine at_block_ret ?_
  | refine at_block_exit ?_
  | refine at_block_other (h:=?_)
  | refine wc_seq ?_
  | refine wc_region ?_
  | refine wc_block ?_
  | refine wc_skip ?_
  | refine wc_exit ?_
  | refine wc_ret ?_
  | refine at_ret1 (h:=?_)
  | refine wc_quiet (h:=?_)
  | (refine wq_nil ?_; intro _ hkq; replace hm := hm.kept0 hkq; clear hkq)
  | (refine wq_nil_tail ?_; intro _ hkq; replace hm := hm.kept0 hkq; clear hkq)
  | refine wc_cond_true (ht:=?_)
  | refine wc_cond_false (hf:=?_)
  | (refine wc_cond_dec (ht:=fun _ => ?_) (hf:=fun _ => ?_)<;> (try first | contradiction | (exfalso; omega)))
  | refine wc_cond (ht:=fun _ => ?_) (hf:=fun _ => ?_)
  | refine q_move (k:=?_)
  | refine q_assign (k:=?_)
  | refine q_lss (k:=?_)
  | refine q_gtr (k:=?_)
  | refine q_geq (k:=?_)
  | refine q_neq (k:=?_)
  | refine q_neq_str (k:=?_)
  | refine q_neq_bool (k:=?_)
  | refine q_neq_flat (k:=?_)
  | refine q_len_str (k:=?_)
  | refine q_len_slice (k:=?_)
  | refine q_not (k:=?_)
  | refine q_extract (k:=?_)
  | refine q_add (k:=?_)
  | refine q_add_u8 (k:=?_)
  | refine q_indexAddr_arr (k:=?_)
  | refine q_fieldAddr (k:=?_)
  | refine q_indexAddr (k:=?_)
  | refine q_load1 (k:=?_)
  | refine q_struct (k:=?_)
  | refine q_build (hr:=fun _ => (by rfl)) (k:=?_))
  all_goals try (exfalso; first | omega | contradiction)
  refine wc_loop (fun x : SmX => [(3, ptr b3), (5, .slice (some ⟨ob, 0, none⟩) its.length its.length), (33, .slice a its.length cp), (34, nt its.length), (35, nt x.k)])
    (fun x w' => Mem E x.I [] w' ∧ Le I6 x.I ∧ x.k ≤ its.length) (fun x => its.length - x.k) ⟨0, I6⟩ (by exact ⟨rfl, rfl, rfl, rfl, rfl, trivial⟩) ⟨hm, Le.refl _, Nat.zero_le _⟩ ?_
  clear hm
  rintro ⟨k, I7⟩ w7 ⟨hm, hle7, hk⟩
  dsimp only at hm hle7 hk ⊢
  have q7 := q6.le hle7
  have hpf7 := hpf6.le hle7
  have hro7 := hro6.le hle7
  have hri := q7.row
  by_cases hlt : k < its.length
  · have hg : its[k]? = some its[k] := List.getElem?_eq_getElem hlt
    have hno : Sp.itNo its k = its[k] := by rw [Sp.itNo, List.getD_eq_getElem?_getD, hg]; rfl
    obtain ⟨cs, hcs, hat, hl10⟩ := q7.get hg
    have hmk := hft _ (List.getElem_mem hlt)
    have hcn := (g1 _ (List.getElem_mem hlt)).2
    have htri : ∀ m : Nat, m < its.length → ∃ ta tc, T[((m : Nat) : Int).toNat]? = some (Sp.allE its m, ta, tc) ∧ RowI I7 9 1 (.slice ta (Sp.allE its m).length tc) (Sp.allE its m).length ((Sp.allE its m).flatMap encS) ∧ (Sp.allE its m).length ≤ 1000000000 := fun m hm0 => by
      obtain ⟨ta, tc, hti, _⟩ := tri_at hT hm0
      exact ⟨ta, tc, hti, (hrt _ (List.mem_of_getElem? hti)).le hle7, Nat.le_trans (Sp.allE_len (its := its) m) (by omega)⟩
    have hwa : (Sp.itNo its k).kind = 2 → Sp.wantE its (Sp.ownE (Sp.itNo its k)).1 (Sp.ownE (Sp.itNo its k)).2 = Sp.allE its k := fun h => Sp.wantE_all hlt h
    have hnn : (Sp.itNo its k).kind ≠ 2 → Sp.allE its k = [] := fun h => Sp.allE_none h
    rw [hno] at hwa hnn
    have hsame := Sp.SameB.set hg (refsE (Sp.allE its k))
    have hsaid : Sp.effD (its.set k { its[k] with sends := refsE (Sp.allE its k) }) k = [] := Sp.effD_said (fun c hc => by
      rw [hsame.all] at hc
      rw [Sp.set_no hg]
      exact Sp.said_map hc _)
    have hsay := fun (J : Imm) (m : Le I7 J) (sa : Option Addr) (sp : Nat) (hr : RowI J 45 2 (.slice sa (refsE (Sp.allE its k)).length sp) (refsE (Sp.allE its k)).length ((refsE (Sp.allE its k)).flatMap encRf)) => ItsAt.say hr (q7.ats.le m) hg
    generalize its[k] = it at hg hno hat hmk hcn hwa hnn hsame hsaid hsay
    obtain ⟨ta, tc, hti, hrk, hal⟩ := htri k hlt
    have hsra := Sp.allE_srt its k
    generalize Sp.allE its k = al at hwa hnn hsame hsaid hsay hti hrk hal hsra
    have hP := e_own it hmk.1 hmk.2 I7 cs hat
    have hln := Sp.ownE_len it
    have hsr := (Sp.ownE_srt it).1
    obtain ⟨hn1, hn2⟩ := Sp.ownE_ne it
    unfold ToOwn at hP
    generalize Sp.ownE it = r at hP hln hsr hn1 hn2 hwa
    obtain ⟨rs, rc⟩ := r
    try dsimp only at hP hln hsr hn1 hn2 hwa
    obtain ⟨ap, cp', as_, cs', ab, cb', ad, cd, xb, rfl, _⟩ := hat
    repeat' (first
    | (refine i_indexAddr (d:=38) (hr:=hri) (k:=?_); intro bt ot hpt; rw [show ((k : Int).toNat * 10) = k * 10 from rfl, hcs] at hpt)
    | (refine i_loadN (d:=39) hm (hp:=hpt) (k:=?_))
    | (refine m_call (d:=42) hm (hp:=pm0) (hc:=hP) (k:=?_); clear hm; rintro _ I8 _ _ ⟨sa, sp, ca, cp8, rfl, rfl⟩ hleI8 hm; try simp only [setn] at hm)
    | refine wc_hold 11 ?_
    | (refine m_varS (d:=3) hm (k:=?_); clear hm; intro b3 _ hm)
    | (refine m_var1 (d:=3) hm (k:=?_); clear hm; intro b3 _ hm)
    | (refine m_allocS (d:=7) hm (k:=?_); clear hm; intro b7 _ hm)
    | (refine m_push (d:=93) hm (k:=?_); clear hm; intro a93 cp93 _ _ hm; try simp only [setn] at hm)
    | (refine m_varS (d:=18) hm (k:=?_); clear hm; intro b18 _ hm)
    | (refine m_var1 (d:=18) hm (k:=?_); clear hm; intro b18 _ hm)
    | (refine m_push (d:=121) hm (k:=?_); clear hm; intro a121 cp121 _ _ hm; try simp only [setn] at hm)
    | refine m_load1 hm (k:=?_)
    | refine i_load1 hm (k:=?_)
    | refine m_loadAll hm (k:=?_)
    | refine i_loadN hm (k:=?_)
    | refine i_load1z hm (k:=?_)
    | refine mq_load1 hm (k:=?_)
    | refine iq_load1 hm (k:=?_)
    | refine mq_loadAll hm (k:=?_)
    | refine iq_loadN hm (k:=?_)
    | refine iq_load1z hm (k:=?_)
    | (refine m_storeAll hm (k:=?_); clear hm; intro _ hm; try simp only [setn] at hm)
    | (refine m_store1 hm (k:=?_); clear hm; intro _ hm; try simp only [setn] at hm)
    | (refine m_storeN hm (k:=?_); clear hm; intro _ hm; try simp only [setn] at hm)
    | refine m_ret_agg hm (h:=?_)
    | refine m_ret2_agg hm (h:=?_)
    | refine op_move (k:=?_)
    | refine op_assign (k:=?_)
    | refine op_lss (k:=?_)
    | refine op_gtr (k:=?_)
    | refine op_geq (k:=?_)
    | refine op_neq (k:=?_)
    | refine op_neq_str (k:=?_)
    | refine op_neq_bool (k:=?_)
    | refine op_neq_flat (k:=?_)
    | refine op_len_str (k:=?_)
    | refine op_len_slice (k:=?_)
    | refine op_not (k:=?_)
    | refine op_extract (k:=?_)
    | refine op_add (k:=?_)
    | refine op_add_u8 (k:=?_)
    | refine op_indexAddr_arr (k:=?_)
    | refine op_fieldAddr (k:=?_)
    | refine op_indexAddr (k:=?_)
    | refine op_load1 (k:=?_)
    | refine op_struct (k:=?_)
    | refine op_build (hr:=fun _ => (by rfl)) (k:=?_)
    | refine wl_nil ?_
    | refine at_then_normal ?_
    | refine at_then_ret ?_
    | refine at_then_exit ?_
    | refine at_block_normal ?_
    | refine at_block_ret ?_
    | refine at_block_exit ?_
    | refine at_block_other (h:=?_)
    | refine wc_seq ?_
    | refine wc_region ?_
    | refine wc_block ?_
    | refine wc_skip ?_
    | refine wc_exit ?_
    | refine wc_ret ?_
    | refine at_ret1 (h:=?_)
    | refine wc_quiet (h:=?_)
    | (refine wq_nil ?_; intro _ hkq; replace hm := hm.kept0 hkq; clear hkq)
    | (refine wq_nil_tail ?_; intro _ hkq; replace hm := hm.kept0 hkq; clear hkq)
    | refine wc_cond_true (ht:=?_)
    | refine wc_cond_false (hf:=?_)
    | (refine wc_cond_dec (ht:=fun _ => ?_) (hf:=fun _ => ?_)<;> (try first | contradiction | (exfalso; omega)))
    | refine wc_cond (ht:=fun _ => ?_) (hf:=fun _ => ?_)
    | refine q_move (k:=?_)
    | refine q_assign (k:=?_)
    | refine q_lss (k:=?_)
    | refine q_gtr (k:=?_)
    | refine q_geq (k:=?_)
    | refine q_neq (k:=?_)
    | refine q_neq_str (k:=?_)
    | refine q_neq_bool (k:=?_)
    | refine q_neq_flat (k:=?_)
    | refine q_len_str (k:=?_)
    | refine q_len_slice (k:=?_)
    | refine q_not (k:=?_)
    | refine q_extract (k:=?_)
    | refine q_add (k:=?_)
    | refine q_add_u8 (k:=?_)
    | refine q_indexAddr_arr (k:=?_)
    | refine q_fieldAddr (k:=?_)
    | refine q_indexAddr (k:=?_)
    | refine q_load1 (k:=?_)
    | refine q_struct (k:=?_)
    | refine q_build (hr:=fun _ => (by rfl)) (k:=?_))
    all_goals try (exfalso; first | omega | contradiction)
    obtain ⟨I9, hle9, hm9, hrA⟩ := Mem.freeze hm
    obtain ⟨Ia, hlea, hma, hrB⟩ := Mem.freeze hm9
    clear hm hm9
    have hm := hma
    clear hma
    have hle7a : Le I7 Ia := (hleI8.trans hle9).trans hlea
    have hrAa := hrA.le hlea
    refine ⟨?_⟩
    repeat' (first
    | (refine m_makeMap (d:=45) hm (k:=?_); clear hm; intro b45 _ hm)
    | (refine m_varS (d:=3) hm (k:=?_); clear hm; intro b3 _ hm)
    | (refine m_var1 (d:=3) hm (k:=?_); clear hm; intro b3 _ hm)
    | (refine m_allocS (d:=7) hm (k:=?_); clear hm; intro b7 _ hm)
    | (refine m_push (d:=93) hm (k:=?_); clear hm; intro a93 cp93 _ _ hm; try simp only [setn] at hm)
    | (refine m_varS (d:=18) hm (k:=?_); clear hm; intro b18 _ hm)
    | (refine m_var1 (d:=18) hm (k:=?_); clear hm; intro b18 _ hm)
    | (refine m_push (d:=121) hm (k:=?_); clear hm; intro a121 cp121 _ _ hm; try simp only [setn] at hm)
    | refine m_load1 hm (k:=?_)
    | refine i_load1 hm (k:=?_)
    | refine m_loadAll hm (k:=?_)
    | refine i_loadN hm (k:=?_)
    | refine i_load1z hm (k:=?_)
    | refine mq_load1 hm (k:=?_)
    | refine iq_load1 hm (k:=?_)
    | refine mq_loadAll hm (k:=?_)
    | refine iq_loadN hm (k:=?_)
    | refine iq_load1z hm (k:=?_)
    | (refine m_storeAll hm (k:=?_); clear hm; intro _ hm; try simp only [setn] at hm)
    | (refine m_store1 hm (k:=?_); clear hm; intro _ hm; try simp only [setn] at hm)
    | (refine m_storeN hm (k:=?_); clear hm; intro _ hm; try simp only [setn] at hm)
    | refine m_ret_agg hm (h:=?_)
    | refine m_ret2_agg hm (h:=?_)
    | refine op_move (k:=?_)
    | refine op_assign (k:=?_)
    | refine op_lss (k:=?_)
    | refine op_gtr (k:=?_)
    | refine op_geq (k:=?_)
    | refine op_neq (k:=?_)
    | refine op_neq_str (k:=?_)
    | refine op_neq_bool (k:=?_)
    | refine op_neq_flat (k:=?_)
    | refine op_len_str (k:=?_)
    | refine op_len_slice (k:=?_)
    | refine op_not (k:=?_)
    | refine op_extract (k:=?_)
    | refine op_add (k:=?_)
    | refine op_add_u8 (k:=?_)
    | refine op_indexAddr_arr (k:=?_)
    | refine op_fieldAddr (k:=?_)
    | refine op_indexAddr (k:=?_)
    | refine op_load1 (k:=?_)
    | refine op_struct (k:=?_)
    | refine op_build (hr:=fun _ => (by rfl)) (k:=?_)
    | refine wl_nil ?_
    | refine at_then_normal ?_
    | refine at_then_ret ?_
    | refine at_then_exit ?_
    | refine at_block_normal ?_
    | refine at_block_ret ?_
    | refine at_block_exit ?_
    | refine at_block_other (h:=?_)
    | refine wc_seq ?_
    | refine wc_region ?_
    | refine wc_block ?_
    | refine wc_skip ?_
    | refine wc_exit ?_
    | refine wc_ret ?_
    | refine at_ret1 (h:=?_)
    | refine wc_quiet (h:=?_)
    | (refine wq_nil ?_; intro _ hkq; replace hm := hm.kept0 hkq; clear hkq)
    | (refine wq_nil_tail ?_; intro _ hkq; replace hm := hm.kept0 hkq; clear hkq)
    | refine wc_cond_true (ht:=?_)
    | refine wc_cond_false (hf:=?_)
    | (refine wc_cond_dec (ht:=fun _ => ?_) (hf:=fun _ => ?_)<;> (try first | contradiction | (exfalso; omega)))
    | refine wc_cond (ht:=fun _ => ?_) (hf:=fun _ => ?_)
    | refine q_move (k:=?_)
    | refine q_assign (k:=?_)
    | refine q_lss (k:=?_)
    | refine q_gtr (k:=?_)
    | refine q_geq (k:=?_)
    | refine q_neq (k:=?_)
    | refine q_neq_str (k:=?_)
    | refine q_neq_bool (k:=?_)
    | refine q_neq_flat (k:=?_)
    | refine q_len_str (k:=?_)
    | refine q_len_slice (k:=?_)
    | refine q_not (k:=?_)
    | refine q_extract (k:=?_)
    | refine q_add (k:=?_)
    | refine q_add_u8 (k:=?_)
    | refine q_indexAddr_arr (k:=?_)
    | refine q_fieldAddr (k:=?_)
    | refine q_indexAddr (k:=?_)
    | refine q_load1 (k:=?_)
    | refine q_struct (k:=?_)
    | refine q_build (hr:=fun _ => (by rfl)) (k:=?_))
    all_goals try (exfalso; first | omega | contradiction)
    refine wc_loop (fun x : ElJ => [(3, ptr b3), (5, .slice (some ⟨ob, 0, none⟩) its.length its.length), (6, nt k), (7, ptr b7), (9, .slice ca rc.length cp8), (10, .map (some b45)), (33, .slice a its.length cp), (34, nt its.length), (35, nt k), (46, .slice sa rs.length sp), (47, nt rs.length), (48, nt x.j)])
      (fun x w' => Mem E Ia [.mp b45 x.es, .cell b7 (itCells it.kind it.name it.label (.slice ap it.params.length cp') (.slice as_ it.sends.length cs') (.slice ab it.body.length cb') it.at_ it.size it.mark (.slice ad it.diags.length cd)) 36] w' ∧ Sp.SetE x.es (Sp.joinE [] (rs.take x.j)) ∧ x.j ≤ rs.length)
      (fun x => rs.length - x.j) ⟨0, []⟩ (by exact ⟨rfl, rfl, rfl, rfl, rfl, rfl, rfl, rfl, rfl, rfl, rfl, rfl, trivial⟩) ⟨hm, setE_nil, Nat.zero_le _⟩ ?_
    clear hm
    rintro ⟨j, es⟩ w8 ⟨hm, hS, hj⟩
    dsimp only at hm hS hj ⊢
    by_cases hlj : j < rs.length
    · have hgj : rs[j]? = some rs[j] := List.getElem?_eq_getElem hlj
      have hnj : rs[j] ≠ [] := fun e => hn1 (e ▸ List.getElem_mem hlj)
      have hst := Sp.joinE_step (a := []) hgj
      generalize rs[j] = nm at hgj hnj hst
      repeat' (first
      | (refine i_indexFlat (d:=50) (enc:=encS) (z:=nm) (hr:=hrAa) (he:=fun _ => rfl) (hz:=by exact hgj) (k:=?_); intro bz oz hpz)
      | (refine wl_mapUpdate ?_; refine m_put hm (by rfl) (by rfl) (by rfl) (by rfl) (by rfl) gt0 hS.nodup ?_; clear hm; intro _ hm; try simp only [setn] at hm)
      | (refine m_varS (d:=3) hm (k:=?_); clear hm; intro b3 _ hm)
      | (refine m_var1 (d:=3) hm (k:=?_); clear hm; intro b3 _ hm)
      | (refine m_allocS (d:=7) hm (k:=?_); clear hm; intro b7 _ hm)
      | (refine m_push (d:=93) hm (k:=?_); clear hm; intro a93 cp93 _ _ hm; try simp only [setn] at hm)
      | (refine m_varS (d:=18) hm (k:=?_); clear hm; intro b18 _ hm)
      | (refine m_var1 (d:=18) hm (k:=?_); clear hm; intro b18 _ hm)
      | (refine m_push (d:=121) hm (k:=?_); clear hm; intro a121 cp121 _ _ hm; try simp only [setn] at hm)
      | refine m_load1 hm (k:=?_)
      | refine i_load1 hm (k:=?_)
      | refine m_loadAll hm (k:=?_)
      | refine i_loadN hm (k:=?_)
      | refine i_load1z hm (k:=?_)
      | refine mq_load1 hm (k:=?_)
      | refine iq_load1 hm (k:=?_)
      | refine mq_loadAll hm (k:=?_)
      | refine iq_loadN hm (k:=?_)
      | refine iq_load1z hm (k:=?_)
      | (refine m_storeAll hm (k:=?_); clear hm; intro _ hm; try simp only [setn] at hm)
      | (refine m_store1 hm (k:=?_); clear hm; intro _ hm; try simp only [setn] at hm)
      | (refine m_storeN hm (k:=?_); clear hm; intro _ hm; try simp only [setn] at hm)
      | refine m_ret_agg hm (h:=?_)
      | refine m_ret2_agg hm (h:=?_)
      | refine op_move (k:=?_)
      | refine op_assign (k:=?_)
      | refine op_lss (k:=?_)
      | refine op_gtr (k:=?_)
      | refine op_geq (k:=?_)
      | refine op_neq (k:=?_)
      | refine op_neq_str (k:=?_)
      | refine op_neq_bool (k:=?_)
      | refine op_neq_flat (k:=?_)
      | refine op_len_str (k:=?_)
      | refine op_len_slice (k:=?_)
      | refine op_not (k:=?_)
      | refine op_extract (k:=?_)
      | refine op_add (k:=?_)
      | refine op_add_u8 (k:=?_)
      | refine op_indexAddr_arr (k:=?_)
      | refine op_fieldAddr (k:=?_)
      | refine op_indexAddr (k:=?_)
      | refine op_load1 (k:=?_)
      | refine op_struct (k:=?_)
      | refine op_build (hr:=fun _ => (by rfl)) (k:=?_)
      | refine wl_nil ?_
      | refine at_then_normal ?_
      | refine at_then_ret ?_
      | refine at_then_exit ?_
      | refine at_block_normal ?_
      | refine at_block_ret ?_
      | refine at_block_exit ?_
      | refine at_block_other (h:=?_)
      | refine wc_seq ?_
      | refine wc_region ?_
      | refine wc_block ?_
      | refine wc_skip ?_
      | refine wc_exit ?_
      | refine wc_ret ?_
      | refine at_ret1 (h:=?_)
      | refine wc_quiet (h:=?_)
      | (refine wq_nil ?_; intro _ hkq; replace hm := hm.kept0 hkq; clear hkq)
      | (refine wq_nil_tail ?_; intro _ hkq; replace hm := hm.kept0 hkq; clear hkq)
      | refine wc_cond_true (ht:=?_)
      | refine wc_cond_false (hf:=?_)
      | (refine wc_cond_dec (ht:=fun _ => ?_) (hf:=fun _ => ?_)<;> (try first | contradiction | (exfalso; omega)))
      | refine wc_cond (ht:=fun _ => ?_) (hf:=fun _ => ?_)
      | refine q_move (k:=?_)
      | refine q_assign (k:=?_)
      | refine q_lss (k:=?_)
      | refine q_gtr (k:=?_)
      | refine q_geq (k:=?_)
      | refine q_neq (k:=?_)
      | refine q_neq_str (k:=?_)
      | refine q_neq_bool (k:=?_)
      | refine q_neq_flat (k:=?_)
      | refine q_len_str (k:=?_)
      | refine q_len_slice (k:=?_)
      | refine q_not (k:=?_)
      | refine q_extract (k:=?_)
      | refine q_add (k:=?_)
      | refine q_add_u8 (k:=?_)
      | refine q_indexAddr_arr (k:=?_)
      | refine q_fieldAddr (k:=?_)
      | refine q_indexAddr (k:=?_)
      | refine q_load1 (k:=?_)
      | refine q_struct (k:=?_)
      | refine q_build (hr:=fun _ => (by rfl)) (k:=?_))
      all_goals try (exfalso; first | omega | contradiction)
      exact at_round (⟨j + 1, mput es nm (.bool true)⟩ : ElJ) (by exact ⟨rfl, rfl, rfl, rfl, rfl, rfl, rfl, rfl, rfl, rfl, rfl, rfl, trivial⟩) ⟨hm, by dsimp only; rw [hst]; exact hS.put hnj, by dsimp only; omega⟩ (by dsimp only; omega)
    obtain rfl : j = rs.length := by omega
    rw [List.take_length, Sp.joinE_self hsr hn1] at hS
    repeat' (first
    | (refine m_varS (d:=3) hm (k:=?_); clear hm; intro b3 _ hm)
    | (refine m_var1 (d:=3) hm (k:=?_); clear hm; intro b3 _ hm)
    | (refine m_allocS (d:=7) hm (k:=?_); clear hm; intro b7 _ hm)
    | (refine m_push (d:=93) hm (k:=?_); clear hm; intro a93 cp93 _ _ hm; try simp only [setn] at hm)
    | (refine m_varS (d:=18) hm (k:=?_); clear hm; intro b18 _ hm)
    | (refine m_var1 (d:=18) hm (k:=?_); clear hm; intro b18 _ hm)
    | (refine m_push (d:=121) hm (k:=?_); clear hm; intro a121 cp121 _ _ hm; try simp only [setn] at hm)
    | refine m_load1 hm (k:=?_)
    | refine i_load1 hm (k:=?_)
    | refine m_loadAll hm (k:=?_)
    | refine i_loadN hm (k:=?_)
    | refine i_load1z hm (k:=?_)
    | refine mq_load1 hm (k:=?_)
    | refine iq_load1 hm (k:=?_)
    | refine mq_loadAll hm (k:=?_)
    | refine iq_loadN hm (k:=?_)
    | refine iq_load1z hm (k:=?_)
    | (refine m_storeAll hm (k:=?_); clear hm; intro _ hm; try simp only [setn] at hm)
    | (refine m_store1 hm (k:=?_); clear hm; intro _ hm; try simp only [setn] at hm)
    | (refine m_storeN hm (k:=?_); clear hm; intro _ hm; try simp only [setn] at hm)
    | refine m_ret_agg hm (h:=?_)
    | refine m_ret2_agg hm (h:=?_)
    | refine op_move (k:=?_)
    | refine op_assign (k:=?_)
    | refine op_lss (k:=?_)
    | refine op_gtr (k:=?_)
    | refine op_geq (k:=?_)
    | refine op_neq (k:=?_)
    | refine op_neq_str (k:=?_)
    | refine op_neq_bool (k:=?_)
    | refine op_neq_flat (k:=?_)
    | refine op_len_str (k:=?_)
    | refine op_len_slice (k:=?_)
    | refine op_not (k:=?_)
    | refine op_extract (k:=?_)
    | refine op_add (k:=?_)
    | refine op_add_u8 (k:=?_)
    | refine op_indexAddr_arr (k:=?_)
    | refine op_fieldAddr (k:=?_)
    | refine op_indexAddr (k:=?_)
    | refine op_load1 (k:=?_)
    | refine op_struct (k:=?_)
    | refine op_build (hr:=fun _ => (by rfl)) (k:=?_)
    | refine wl_nil ?_
    | refine at_then_normal ?_
    | refine at_then_ret ?_
    | refine at_then_exit ?_
    | refine at_block_normal ?_
    | refine at_block_ret ?_
    | refine at_block_exit ?_
    | refine at_block_other (h:=?_)
    | refine wc_seq ?_
    | refine wc_region ?_
    | refine wc_block ?_
    | refine wc_skip ?_
    | refine wc_exit ?_
    | refine wc_ret ?_
    | refine at_ret1 (h:=?_)
    | refine wc_quiet (h:=?_)
    | (refine wq_nil ?_; intro _ hkq; replace hm := hm.kept0 hkq; clear hkq)
    | (refine wq_nil_tail ?_; intro _ hkq; replace hm := hm.kept0 hkq; clear hkq)
    | refine wc_cond_true (ht:=?_)
    | refine wc_cond_false (hf:=?_)
    | (refine wc_cond_dec (ht:=fun _ => ?_) (hf:=fun _ => ?_)<;> (try first | contradiction | (exfalso; omega)))
    | refine wc_cond (ht:=fun _ => ?_) (hf:=fun _ => ?_)
    | refine q_move (k:=?_)
    | refine q_assign (k:=?_)
    | refine q_lss (k:=?_)
    | refine q_gtr (k:=?_)
    | refine q_geq (k:=?_)
    | refine q_neq (k:=?_)
    | refine q_neq_str (k:=?_)
    | refine q_neq_bool (k:=?_)
    | refine q_neq_flat (k:=?_)
    | refine q_len_str (k:=?_)
    | refine q_len_slice (k:=?_)
    | refine q_not (k:=?_)
    | refine q_extract (k:=?_)
    | refine q_add (k:=?_)
    | refine q_add_u8 (k:=?_)
    | refine q_indexAddr_arr (k:=?_)
    | refine q_fieldAddr (k:=?_)
    | refine q_indexAddr (k:=?_)
    | refine q_load1 (k:=?_)
    | refine q_struct (k:=?_)
    | refine q_build (hr:=fun _ => (by rfl)) (k:=?_))
    all_goals try (exfalso; first | omega | contradiction)
    refine wc_loop (fun x : ElK => [(3, ptr b3), (5, .slice (some ⟨ob, 0, none⟩) its.length its.length), (6, nt k), (7, ptr b7), (10, .map (some b45)), (33, .slice a its.length cp), (34, nt its.length), (35, nt k), (55, .slice ca rc.length cp8), (56, nt rc.length), (57, nt x.j)])
      (fun x w' => Mem E x.I [.mp b45 x.es, .cell b7 (itCells it.kind it.name it.label (.slice ap it.params.length cp') (.slice as_ it.sends.length cs') (.slice ab it.body.length cb') it.at_ it.size it.mark (.slice ad it.diags.length cd)) 36] w' ∧ Le Ia x.I ∧ Sp.SetE x.es (Sp.wantE its rs (rc.take x.j)) ∧ x.j ≤ rc.length)
      (fun x => rc.length - x.j) ⟨0, Ia, es⟩ (by exact ⟨rfl, rfl, rfl, rfl, rfl, rfl, rfl, rfl, rfl, rfl, rfl, trivial⟩) ⟨hm, Le.refl _, by exact hS, Nat.zero_le _⟩ ?_
    clear hm hS
    rintro ⟨j, Ib, es⟩ w8 ⟨hm, hleb, hS, hj⟩
    dsimp only at hm hleb hS hj ⊢
    have hle7b := hle7a.trans hleb
    have hrBb := hrB.le hleb
    have hpfb := hpf7.le hle7b
    have hrob := hro7.le hle7b
    by_cases hlj : j < rc.length
    · have hgj : rc[j]? = some rc[j] := List.getElem?_eq_getElem hlj
      have htk : rc.take (j + 1) = rc.take j ++ [rc[j]] := by rw [List.take_add_one, hgj]; rfl
      have hst := Sp.wantE_snoc its rs (rc.take j) rc[j]
      rw [← htk] at hst
      generalize rc[j] = nm at hgj hst
      have hF := r_find 2 nm its Ib a cp xs (q7.le hle7b)
      cases hf : Sp.findIt its 2 nm with
      | none =>
        rw [show Sp.findV its 2 nm = -1 by rw [Sp.findV, hf]] at hF
        rw [hf] at hst
        dsimp only at hst
        repeat' (first
        | (refine i_indexFlat (d:=59) (enc:=encS) (z:=nm) (hr:=hrBb) (he:=fun _ => rfl) (hz:=by exact hgj) (k:=?_); intro bz oz hpz)
        | (refine i_loadN (d:=61) hm (hp:=hpfb) (k:=?_))
        | (refine m_call (d:=63) hm (hp:=pm0) (hc:=hF) (k:=?_); clear hm; rintro _ Ic _ _ ⟨rfl, rfl⟩ hleIc hm; try simp only [setn] at hm)
        | (refine m_varS (d:=3) hm (k:=?_); clear hm; intro b3 _ hm)
        | (refine m_var1 (d:=3) hm (k:=?_); clear hm; intro b3 _ hm)
        | (refine m_allocS (d:=7) hm (k:=?_); clear hm; intro b7 _ hm)
        | (refine m_push (d:=93) hm (k:=?_); clear hm; intro a93 cp93 _ _ hm; try simp only [setn] at hm)
        | (refine m_varS (d:=18) hm (k:=?_); clear hm; intro b18 _ hm)
        | (refine m_var1 (d:=18) hm (k:=?_); clear hm; intro b18 _ hm)
        | (refine m_push (d:=121) hm (k:=?_); clear hm; intro a121 cp121 _ _ hm; try simp only [setn] at hm)
        | refine m_load1 hm (k:=?_)
        | refine i_load1 hm (k:=?_)
        | refine m_loadAll hm (k:=?_)
        | refine i_loadN hm (k:=?_)
        | refine i_load1z hm (k:=?_)
        | refine mq_load1 hm (k:=?_)
        | refine iq_load1 hm (k:=?_)
        | refine mq_loadAll hm (k:=?_)
        | refine iq_loadN hm (k:=?_)
        | refine iq_load1z hm (k:=?_)
        | (refine m_storeAll hm (k:=?_); clear hm; intro _ hm; try simp only [setn] at hm)
        | (refine m_store1 hm (k:=?_); clear hm; intro _ hm; try simp only [setn] at hm)
        | (refine m_storeN hm (k:=?_); clear hm; intro _ hm; try simp only [setn] at hm)
        | refine m_ret_agg hm (h:=?_)
        | refine m_ret2_agg hm (h:=?_)
        | refine op_move (k:=?_)
        | refine op_assign (k:=?_)
        | refine op_lss (k:=?_)
        | refine op_gtr (k:=?_)
        | refine op_geq (k:=?_)
        | refine op_neq (k:=?_)
        | refine op_neq_str (k:=?_)
        | refine op_neq_bool (k:=?_)
        | refine op_neq_flat (k:=?_)
        | refine op_len_str (k:=?_)
        | refine op_len_slice (k:=?_)
        | refine op_not (k:=?_)
        | refine op_extract (k:=?_)
        | refine op_add (k:=?_)
        | refine op_add_u8 (k:=?_)
        | refine op_indexAddr_arr (k:=?_)
        | refine op_fieldAddr (k:=?_)
        | refine op_indexAddr (k:=?_)
        | refine op_load1 (k:=?_)
        | refine op_struct (k:=?_)
        | refine op_build (hr:=fun _ => (by rfl)) (k:=?_)
        | refine wl_nil ?_
        | refine at_then_normal ?_
        | refine at_then_ret ?_
        | refine at_then_exit ?_
        | refine at_block_normal ?_
        | refine at_block_ret ?_
        | refine at_block_exit ?_
        | refine at_block_other (h:=?_)
        | refine wc_seq ?_
        | refine wc_region ?_
        | refine wc_block ?_
        | refine wc_skip ?_
        | refine wc_exit ?_
        | refine wc_ret ?_
        | refine at_ret1 (h:=?_)
        | refine wc_quiet (h:=?_)
        | (refine wq_nil ?_; intro _ hkq; replace hm := hm.kept0 hkq; clear hkq)
        | (refine wq_nil_tail ?_; intro _ hkq; replace hm := hm.kept0 hkq; clear hkq)
        | refine wc_cond_true (ht:=?_)
        | refine wc_cond_false (hf:=?_)
        | (refine wc_cond_dec (ht:=fun _ => ?_) (hf:=fun _ => ?_)<;> (try first | contradiction | (exfalso; omega)))
        | refine wc_cond (ht:=fun _ => ?_) (hf:=fun _ => ?_)
        | refine q_move (k:=?_)
        | refine q_assign (k:=?_)
        | refine q_lss (k:=?_)
        | refine q_gtr (k:=?_)
        | refine q_geq (k:=?_)
        | refine q_neq (k:=?_)
        | refine q_neq_str (k:=?_)
        | refine q_neq_bool (k:=?_)
        | refine q_neq_flat (k:=?_)
        | refine q_len_str (k:=?_)
        | refine q_len_slice (k:=?_)
        | refine q_not (k:=?_)
        | refine q_extract (k:=?_)
        | refine q_add (k:=?_)
        | refine q_add_u8 (k:=?_)
        | refine q_indexAddr_arr (k:=?_)
        | refine q_fieldAddr (k:=?_)
        | refine q_indexAddr (k:=?_)
        | refine q_load1 (k:=?_)
        | refine q_struct (k:=?_)
        | refine q_build (hr:=fun _ => (by rfl)) (k:=?_))
        all_goals try (exfalso; first | omega | contradiction)
        exact at_round (⟨j + 1, Ic, es⟩ : ElK) (by exact ⟨rfl, rfl, rfl, rfl, rfl, rfl, rfl, rfl, rfl, rfl, rfl, trivial⟩) ⟨hm, hleb.trans hleIc, by dsimp only; rw [hst]; exact hS, by dsimp only; omega⟩ (by dsimp only; omega)
      | some m =>
        have hml : m < its.length := (List.findIdx?_eq_some_iff_getElem.1 hf).1
        have hne := Sp.allE_ne its m
        obtain ⟨ta2, tc2, hti2, hrk2, hal2⟩ := htri m hml
        rw [show Sp.findV its 2 nm = (m : Int) by rw [Sp.findV, hf]] at hF
        rw [hf] at hst
        dsimp only at hst
        generalize Sp.allE its m = al2 at hst hti2 hrk2 hal2 hne
        repeat' (first
        | (refine i_indexFlat (d:=59) (enc:=encS) (z:=nm) (hr:=hrBb) (he:=fun _ => rfl) (hz:=by exact hgj) (k:=?_); intro bz oz hpz)
        | (refine i_loadN (d:=61) hm (hp:=hpfb) (k:=?_))
        | (refine m_call (d:=63) hm (hp:=pm0) (hc:=hF) (k:=?_); clear hm; rintro _ Ic _ _ ⟨rfl, rfl⟩ hleIc hm; try simp only [setn] at hm)
        | (refine i_indexFlat (d:=68) (enc:=fun t => [triV t]) (z:=(al2, ta2, tc2)) (hr:=hrob.le hleIc) (he:=fun _ => rfl) (hz:=hti2) (k:=?_); intro bo oo hpo)
        | (refine i_load1z (d:=69) hm (hp:=hpo) (k:=?_))
        | (refine m_varS (d:=3) hm (k:=?_); clear hm; intro b3 _ hm)
        | (refine m_var1 (d:=3) hm (k:=?_); clear hm; intro b3 _ hm)
        | (refine m_allocS (d:=7) hm (k:=?_); clear hm; intro b7 _ hm)
        | (refine m_push (d:=93) hm (k:=?_); clear hm; intro a93 cp93 _ _ hm; try simp only [setn] at hm)
        | (refine m_varS (d:=18) hm (k:=?_); clear hm; intro b18 _ hm)
        | (refine m_var1 (d:=18) hm (k:=?_); clear hm; intro b18 _ hm)
        | (refine m_push (d:=121) hm (k:=?_); clear hm; intro a121 cp121 _ _ hm; try simp only [setn] at hm)
        | refine m_load1 hm (k:=?_)
        | refine i_load1 hm (k:=?_)
        | refine m_loadAll hm (k:=?_)
        | refine i_loadN hm (k:=?_)
        | refine i_load1z hm (k:=?_)
        | refine mq_load1 hm (k:=?_)
        | refine iq_load1 hm (k:=?_)
        | refine mq_loadAll hm (k:=?_)
        | refine iq_loadN hm (k:=?_)
        | refine iq_load1z hm (k:=?_)
        | (refine m_storeAll hm (k:=?_); clear hm; intro _ hm; try simp only [setn] at hm)
        | (refine m_store1 hm (k:=?_); clear hm; intro _ hm; try simp only [setn] at hm)
        | (refine m_storeN hm (k:=?_); clear hm; intro _ hm; try simp only [setn] at hm)
        | refine m_ret_agg hm (h:=?_)
        | refine m_ret2_agg hm (h:=?_)
        | refine op_move (k:=?_)
        | refine op_assign (k:=?_)
        | refine op_lss (k:=?_)
        | refine op_gtr (k:=?_)
        | refine op_geq (k:=?_)
        | refine op_neq (k:=?_)
        | refine op_neq_str (k:=?_)
        | refine op_neq_bool (k:=?_)
        | refine op_neq_flat (k:=?_)
        | refine op_len_str (k:=?_)
        | refine op_len_slice (k:=?_)
        | refine op_not (k:=?_)
        | refine op_extract (k:=?_)
        | refine op_add (k:=?_)
        | refine op_add_u8 (k:=?_)
        | refine op_indexAddr_arr (k:=?_)
        | refine op_fieldAddr (k:=?_)
        | refine op_indexAddr (k:=?_)
        | refine op_load1 (k:=?_)
        | refine op_struct (k:=?_)
        | refine op_build (hr:=fun _ => (by rfl)) (k:=?_)
        | refine wl_nil ?_
        | refine at_then_normal ?_
        | refine at_then_ret ?_
        | refine at_then_exit ?_
        | refine at_block_normal ?_
        | refine at_block_ret ?_
        | refine at_block_exit ?_
        | refine at_block_other (h:=?_)
        | refine wc_seq ?_
        | refine wc_region ?_
        | refine wc_block ?_
        | refine wc_skip ?_
        | refine wc_exit ?_
        | refine wc_ret ?_
        | refine at_ret1 (h:=?_)
        | refine wc_quiet (h:=?_)
        | (refine wq_nil ?_; intro _ hkq; replace hm := hm.kept0 hkq; clear hkq)
        | (refine wq_nil_tail ?_; intro _ hkq; replace hm := hm.kept0 hkq; clear hkq)
        | refine wc_cond_true (ht:=?_)
        | refine wc_cond_false (hf:=?_)
        | (refine wc_cond_dec (ht:=fun _ => ?_) (hf:=fun _ => ?_)<;> (try first | contradiction | (exfalso; omega)))
        | refine wc_cond (ht:=fun _ => ?_) (hf:=fun _ => ?_)
        | refine q_move (k:=?_)
        | refine q_assign (k:=?_)
        | refine q_lss (k:=?_)
        | refine q_gtr (k:=?_)
        | refine q_geq (k:=?_)
        | refine q_neq (k:=?_)
        | refine q_neq_str (k:=?_)
        | refine q_neq_bool (k:=?_)
        | refine q_neq_flat (k:=?_)
        | refine q_len_str (k:=?_)
        | refine q_len_slice (k:=?_)
        | refine q_not (k:=?_)
        | refine q_extract (k:=?_)
        | refine q_add (k:=?_)
        | refine q_add_u8 (k:=?_)
        | refine q_indexAddr_arr (k:=?_)
        | refine q_fieldAddr (k:=?_)
        | refine q_indexAddr (k:=?_)
        | refine q_load1 (k:=?_)
        | refine q_struct (k:=?_)
        | refine q_build (hr:=fun _ => (by rfl)) (k:=?_))
        all_goals try (exfalso; first | omega | contradiction)
        have hrkc := (hrk2.le hle7b).le hleIc
        refine wc_loop (fun x : ElJ => [(3, ptr b3), (5, .slice (some ⟨ob, 0, none⟩) its.length its.length), (6, nt k), (7, ptr b7), (10, .map (some b45)), (33, .slice a its.length cp), (34, nt its.length), (35, nt k), (55, .slice ca rc.length cp8), (56, nt rc.length), (57, nt j), (69, .slice ta2 al2.length tc2), (70, nt al2.length), (71, nt x.j)])
          (fun x w' => Mem E Ic [.mp b45 x.es, .cell b7 (itCells it.kind it.name it.label (.slice ap it.params.length cp') (.slice as_ it.sends.length cs') (.slice ab it.body.length cb') it.at_ it.size it.mark (.slice ad it.diags.length cd)) 36] w' ∧ Sp.SetE x.es (Sp.joinE (Sp.wantE its rs (rc.take j)) (al2.take x.j)) ∧ x.j ≤ al2.length)
          (fun x => al2.length - x.j) ⟨0, es⟩ (by exact ⟨rfl, rfl, rfl, rfl, rfl, rfl, rfl, rfl, rfl, rfl, rfl, rfl, rfl, rfl, trivial⟩) ⟨hm, by exact hS, Nat.zero_le _⟩ ?_
        clear hm hS
        rintro ⟨i2, es⟩ w9 ⟨hm, hS, hi2⟩
        dsimp only at hm hS hi2 ⊢
        by_cases hli : i2 < al2.length
        · have hgi : al2[i2]? = some al2[i2] := List.getElem?_eq_getElem hli
          have hni : al2[i2] ≠ [] := fun e => hne (e ▸ List.getElem_mem hli)
          have hst2 := Sp.joinE_step (a := Sp.wantE its rs (rc.take j)) hgi
          generalize al2[i2] = n2 at hgi hni hst2
          repeat' (first
          | (refine i_indexFlat (d:=73) (enc:=encS) (z:=n2) (hr:=hrkc) (he:=fun _ => rfl) (hz:=by exact hgi) (k:=?_); intro bz2 oz2 hpz2)
          | (refine wl_mapUpdate ?_; refine m_put hm (by rfl) (by rfl) (by rfl) (by rfl) (by rfl) gt0 hS.nodup ?_; clear hm; intro _ hm; try simp only [setn] at hm)
          | (refine m_varS (d:=3) hm (k:=?_); clear hm; intro b3 _ hm)
          | (refine m_var1 (d:=3) hm (k:=?_); clear hm; intro b3 _ hm)
          | (refine m_allocS (d:=7) hm (k:=?_); clear hm; intro b7 _ hm)
          | (refine m_push (d:=93) hm (k:=?_); clear hm; intro a93 cp93 _ _ hm; try simp only [setn] at hm)
          | (refine m_varS (d:=18) hm (k:=?_); clear hm; intro b18 _ hm)
          | (refine m_var1 (d:=18) hm (k:=?_); clear hm; intro b18 _ hm)
          | (refine m_push (d:=121) hm (k:=?_); clear hm; intro a121 cp121 _ _ hm; try simp only [setn] at hm)
          | refine m_load1 hm (k:=?_)
          | refine i_load1 hm (k:=?_)
          | refine m_loadAll hm (k:=?_)
          | refine i_loadN hm (k:=?_)
          | refine i_load1z hm (k:=?_)
          | refine mq_load1 hm (k:=?_)
          | refine iq_load1 hm (k:=?_)
          | refine mq_loadAll hm (k:=?_)
          | refine iq_loadN hm (k:=?_)
          | refine iq_load1z hm (k:=?_)
          | (refine m_storeAll hm (k:=?_); clear hm; intro _ hm; try simp only [setn] at hm)
          | (refine m_store1 hm (k:=?_); clear hm; intro _ hm; try simp only [setn] at hm)
          | (refine m_storeN hm (k:=?_); clear hm; intro _ hm; try simp only [setn] at hm)
          | refine m_ret_agg hm (h:=?_)
          | refine m_ret2_agg hm (h:=?_)
          | refine op_move (k:=?_)
          | refine op_assign (k:=?_)
          | refine op_lss (k:=?_)
          | refine op_gtr (k:=?_)
          | refine op_geq (k:=?_)
          | refine op_neq (k:=?_)
          | refine op_neq_str (k:=?_)
          | refine op_neq_bool (k:=?_)
          | refine op_neq_flat (k:=?_)
          | refine op_len_str (k:=?_)
          | refine op_len_slice (k:=?_)
          | refine op_not (k:=?_)
          | refine op_extract (k:=?_)
          | refine op_add (k:=?_)
          | refine op_add_u8 (k:=?_)
          | refine op_indexAddr_arr (k:=?_)
          | refine op_fieldAddr (k:=?_)
          | refine op_indexAddr (k:=?_)
          | refine op_load1 (k:=?_)
          | refine op_struct (k:=?_)
          | refine op_build (hr:=fun _ => (by rfl)) (k:=?_)
          | refine wl_nil ?_
          | refine at_then_normal ?_
          | refine at_then_ret ?_
          | refine at_then_exit ?_
          | refine at_block_normal ?_
          | refine at_block_ret ?_
          | refine at_block_exit ?_
          | refine at_block_other (h:=?_)
          | refine wc_seq ?_
          | refine wc_region ?_
          | refine wc_block ?_
          | refine wc_skip ?_
          | refine wc_exit ?_
          | refine wc_ret ?_
          | refine at_ret1 (h:=?_)
          | refine wc_quiet (h:=?_)
          | (refine wq_nil ?_; intro _ hkq; replace hm := hm.kept0 hkq; clear hkq)
          | (refine wq_nil_tail ?_; intro _ hkq; replace hm := hm.kept0 hkq; clear hkq)
          | refine wc_cond_true (ht:=?_)
          | refine wc_cond_false (hf:=?_)
          | (refine wc_cond_dec (ht:=fun _ => ?_) (hf:=fun _ => ?_)<;> (try first | contradiction | (exfalso; omega)))
          | refine wc_cond (ht:=fun _ => ?_) (hf:=fun _ => ?_)
          | refine q_move (k:=?_)
          | refine q_assign (k:=?_)
          | refine q_lss (k:=?_)
          | refine q_gtr (k:=?_)
          | refine q_geq (k:=?_)
          | refine q_neq (k:=?_)
          | refine q_neq_str (k:=?_)
          | refine q_neq_bool (k:=?_)
          | refine q_neq_flat (k:=?_)
          | refine q_len_str (k:=?_)
          | refine q_len_slice (k:=?_)
          | refine q_not (k:=?_)
          | refine q_extract (k:=?_)
          | refine q_add (k:=?_)
          | refine q_add_u8 (k:=?_)
          | refine q_indexAddr_arr (k:=?_)
          | refine q_fieldAddr (k:=?_)
          | refine q_indexAddr (k:=?_)
          | refine q_load1 (k:=?_)
          | refine q_struct (k:=?_)
          | refine q_build (hr:=fun _ => (by rfl)) (k:=?_))
          all_goals try (exfalso; first | omega | contradiction)
          exact at_round (⟨i2 + 1, mput es n2 (.bool true)⟩ : ElJ) (by exact ⟨rfl, rfl, rfl, rfl, rfl, rfl, rfl, rfl, rfl, rfl, rfl, rfl, rfl, rfl, trivial⟩) ⟨hm, by dsimp only; rw [hst2]; exact hS.put hni, by dsimp only; omega⟩ (by dsimp only; omega)
        obtain rfl : i2 = al2.length := by omega
        rw [List.take_length, ← hst] at hS
        repeat' (first
        | (refine m_varS (d:=3) hm (k:=?_); clear hm; intro b3 _ hm)
        | (refine m_var1 (d:=3) hm (k:=?_); clear hm; intro b3 _ hm)
        | (refine m_allocS (d:=7) hm (k:=?_); clear hm; intro b7 _ hm)
        | (refine m_push (d:=93) hm (k:=?_); clear hm; intro a93 cp93 _ _ hm; try simp only [setn] at hm)
        | (refine m_varS (d:=18) hm (k:=?_); clear hm; intro b18 _ hm)
        | (refine m_var1 (d:=18) hm (k:=?_); clear hm; intro b18 _ hm)
        | (refine m_push (d:=121) hm (k:=?_); clear hm; intro a121 cp121 _ _ hm; try simp only [setn] at hm)
        | refine m_load1 hm (k:=?_)
        | refine i_load1 hm (k:=?_)
        | refine m_loadAll hm (k:=?_)
        | refine i_loadN hm (k:=?_)
        | refine i_load1z hm (k:=?_)
        | refine mq_load1 hm (k:=?_)
        | refine iq_load1 hm (k:=?_)
        | refine mq_loadAll hm (k:=?_)
        | refine iq_loadN hm (k:=?_)
        | refine iq_load1z hm (k:=?_)
        | (refine m_storeAll hm (k:=?_); clear hm; intro _ hm; try simp only [setn] at hm)
        | (refine m_store1 hm (k:=?_); clear hm; intro _ hm; try simp only [setn] at hm)
        | (refine m_storeN hm (k:=?_); clear hm; intro _ hm; try simp only [setn] at hm)
        | refine m_ret_agg hm (h:=?_)
        | refine m_ret2_agg hm (h:=?_)
        | refine op_move (k:=?_)
        | refine op_assign (k:=?_)
        | refine op_lss (k:=?_)
        | refine op_gtr (k:=?_)
        | refine op_geq (k:=?_)
        | refine op_neq (k:=?_)
        | refine op_neq_str (k:=?_)
        | refine op_neq_bool (k:=?_)
        | refine op_neq_flat (k:=?_)
        | refine op_len_str (k:=?_)
        | refine op_len_slice (k:=?_)
        | refine op_not (k:=?_)
        | refine op_extract (k:=?_)
        | refine op_add (k:=?_)
        | refine op_add_u8 (k:=?_)
        | refine op_indexAddr_arr (k:=?_)
        | refine op_fieldAddr (k:=?_)
        | refine op_indexAddr (k:=?_)
        | refine op_load1 (k:=?_)
        | refine op_struct (k:=?_)
        | refine op_build (hr:=fun _ => (by rfl)) (k:=?_)
        | refine wl_nil ?_
        | refine at_then_normal ?_
        | refine at_then_ret ?_
        | refine at_then_exit ?_
        | refine at_block_normal ?_
        | refine at_block_ret ?_
        | refine at_block_exit ?_
        | refine at_block_other (h:=?_)
        | refine wc_seq ?_
        | refine wc_region ?_
        | refine wc_block ?_
        | refine wc_skip ?_
        | refine wc_exit ?_
        | refine wc_ret ?_
        | refine at_ret1 (h:=?_)
        | refine wc_quiet (h:=?_)
        | (refine wq_nil ?_; intro _ hkq; replace hm := hm.kept0 hkq; clear hkq)
        | (refine wq_nil_tail ?_; intro _ hkq; replace hm := hm.kept0 hkq; clear hkq)
        | refine wc_cond_true (ht:=?_)
        | refine wc_cond_false (hf:=?_)
        | (refine wc_cond_dec (ht:=fun _ => ?_) (hf:=fun _ => ?_)<;> (try first | contradiction | (exfalso; omega)))
        | refine wc_cond (ht:=fun _ => ?_) (hf:=fun _ => ?_)
        | refine q_move (k:=?_)
        | refine q_assign (k:=?_)
        | refine q_lss (k:=?_)
        | refine q_gtr (k:=?_)
        | refine q_geq (k:=?_)
        | refine q_neq (k:=?_)
        | refine q_neq_str (k:=?_)
        | refine q_neq_bool (k:=?_)
        | refine q_neq_flat (k:=?_)
        | refine q_len_str (k:=?_)
        | refine q_len_slice (k:=?_)
        | refine q_not (k:=?_)
        | refine q_extract (k:=?_)
        | refine q_add (k:=?_)
        | refine q_add_u8 (k:=?_)
        | refine q_indexAddr_arr (k:=?_)
        | refine q_fieldAddr (k:=?_)
        | refine q_indexAddr (k:=?_)
        | refine q_load1 (k:=?_)
        | refine q_struct (k:=?_)
        | refine q_build (hr:=fun _ => (by rfl)) (k:=?_))
        all_goals try (exfalso; first | omega | contradiction)
        exact at_round (⟨j + 1, Ic, es⟩ : ElK) (by exact ⟨rfl, rfl, rfl, rfl, rfl, rfl, rfl, rfl, rfl, rfl, rfl, trivial⟩) ⟨hm, hleb.trans hleIc, hS, by dsimp only; omega⟩ (by dsimp only; omega)
    obtain rfl : j = rc.length := by omega
    rw [List.take_length] at hS
    repeat' (first
    | (refine wc_cut_regH 28 (fun x : ElV => [(3, ptr b3), (5, .slice (some ⟨ob, 0, none⟩) its.length its.length), (6, nt k), (10, x.v), (33, .slice a its.length cp), (34, nt its.length), (35, nt k)]) (fun x w' => Mem E Ib [.mp b45 es, .cell b7 (itCells it.kind it.name it.label (.slice ap it.params.length cp') (.slice as_ it.sends.length cs') (.slice ab it.body.length cb') it.at_ it.size it.mark (.slice ad it.diags.length cd)) 36] w' ∧ (x.v = .map (some b45) ∧ Sp.SetE es al ∨ x.v = .map none ∧ al = [])) ?_ ?_)
    | (refine m_varS (d:=3) hm (k:=?_); clear hm; intro b3 _ hm)
    | (refine m_var1 (d:=3) hm (k:=?_); clear hm; intro b3 _ hm)
    | (refine m_allocS (d:=7) hm (k:=?_); clear hm; intro b7 _ hm)
    | (refine m_push (d:=93) hm (k:=?_); clear hm; intro a93 cp93 _ _ hm; try simp only [setn] at hm)
    | (refine m_varS (d:=18) hm (k:=?_); clear hm; intro b18 _ hm)
    | (refine m_var1 (d:=18) hm (k:=?_); clear hm; intro b18 _ hm)
    | (refine m_push (d:=121) hm (k:=?_); clear hm; intro a121 cp121 _ _ hm; try simp only [setn] at hm)
    | refine m_load1 hm (k:=?_)
    | refine i_load1 hm (k:=?_)
    | refine m_loadAll hm (k:=?_)
    | refine i_loadN hm (k:=?_)
    | refine i_load1z hm (k:=?_)
    | refine mq_load1 hm (k:=?_)
    | refine iq_load1 hm (k:=?_)
    | refine mq_loadAll hm (k:=?_)
    | refine iq_loadN hm (k:=?_)
    | refine iq_load1z hm (k:=?_)
    | (refine m_storeAll hm (k:=?_); clear hm; intro _ hm; try simp only [setn] at hm)
    | (refine m_store1 hm (k:=?_); clear hm; intro _ hm; try simp only [setn] at hm)
    | (refine m_storeN hm (k:=?_); clear hm; intro _ hm; try simp only [setn] at hm)
    | refine m_ret_agg hm (h:=?_)
    | refine m_ret2_agg hm (h:=?_)
    | refine op_move (k:=?_)
    | refine op_assign (k:=?_)
    | refine op_lss (k:=?_)
    | refine op_gtr (k:=?_)
    | refine op_geq (k:=?_)
    | refine op_neq (k:=?_)
    | refine op_neq_str (k:=?_)
    | refine op_neq_bool (k:=?_)
    | refine op_neq_flat (k:=?_)
    | refine op_len_str (k:=?_)
    | refine op_len_slice (k:=?_)
    | refine op_not (k:=?_)
    | refine op_extract (k:=?_)
    | refine op_add (k:=?_)
    | refine op_add_u8 (k:=?_)
    | refine op_indexAddr_arr (k:=?_)
    | refine op_fieldAddr (k:=?_)
    | refine op_indexAddr (k:=?_)
    | refine op_load1 (k:=?_)
    | refine op_struct (k:=?_)
    | refine op_build (hr:=fun _ => (by rfl)) (k:=?_)
    | refine wl_nil ?_
    | refine at_then_normal ?_
    | refine at_then_ret ?_
    | refine at_then_exit ?_
    | refine at_block_normal ?_
    | refine at_block_ret ?_
    | refine at_block_exit ?_
    | refine at_block_other (h:=?_)
    | refine wc_seq ?_
    | refine wc_region ?_
    | refine wc_block ?_
    | refine wc_skip ?_
    | refine wc_exit ?_
    | refine wc_ret ?_
    | refine at_ret1 (h:=?_)
    | refine wc_quiet (h:=?_)
    | (refine wq_nil ?_; intro _ hkq; replace hm := hm.kept0 hkq; clear hkq)
    | (refine wq_nil_tail ?_; intro _ hkq; replace hm := hm.kept0 hkq; clear hkq)
    | refine wc_cond_true (ht:=?_)
    | refine wc_cond_false (hf:=?_)
    | (refine wc_cond_dec (ht:=fun _ => ?_) (hf:=fun _ => ?_)<;> (try first | contradiction | (exfalso; omega)))
    | refine wc_cond (ht:=fun _ => ?_) (hf:=fun _ => ?_)
    | refine q_move (k:=?_)
    | refine q_assign (k:=?_)
    | refine q_lss (k:=?_)
    | refine q_gtr (k:=?_)
    | refine q_geq (k:=?_)
    | refine q_neq (k:=?_)
    | refine q_neq_str (k:=?_)
    | refine q_neq_bool (k:=?_)
    | refine q_neq_flat (k:=?_)
    | refine q_len_str (k:=?_)
    | refine q_len_slice (k:=?_)
    | refine q_not (k:=?_)
    | refine q_extract (k:=?_)
    | refine q_add (k:=?_)
    | refine q_add_u8 (k:=?_)
    | refine q_indexAddr_arr (k:=?_)
    | refine q_fieldAddr (k:=?_)
    | refine q_indexAddr (k:=?_)
    | refine q_load1 (k:=?_)
    | refine q_struct (k:=?_)
    | refine q_build (hr:=fun _ => (by rfl)) (k:=?_))
    all_goals try (exfalso; first | omega | contradiction)
    · refine ⟨?_⟩
      by_cases k2 : it.kind = 2
      · skip
        repeat' (first
        | (refine m_varS (d:=3) hm (k:=?_); clear hm; intro b3 _ hm)
        | (refine m_var1 (d:=3) hm (k:=?_); clear hm; intro b3 _ hm)
        | (refine m_allocS (d:=7) hm (k:=?_); clear hm; intro b7 _ hm)
        | (refine m_push (d:=93) hm (k:=?_); clear hm; intro a93 cp93 _ _ hm; try simp only [setn] at hm)
        | (refine m_varS (d:=18) hm (k:=?_); clear hm; intro b18 _ hm)
        | (refine m_var1 (d:=18) hm (k:=?_); clear hm; intro b18 _ hm)
        | (refine m_push (d:=121) hm (k:=?_); clear hm; intro a121 cp121 _ _ hm; try simp only [setn] at hm)
        | refine m_load1 hm (k:=?_)
        | refine i_load1 hm (k:=?_)
        | refine m_loadAll hm (k:=?_)
        | refine i_loadN hm (k:=?_)
        | refine i_load1z hm (k:=?_)
        | refine mq_load1 hm (k:=?_)
        | refine iq_load1 hm (k:=?_)
        | refine mq_loadAll hm (k:=?_)
        | refine iq_loadN hm (k:=?_)
        | refine iq_load1z hm (k:=?_)
        | (refine m_storeAll hm (k:=?_); clear hm; intro _ hm; try simp only [setn] at hm)
        | (refine m_store1 hm (k:=?_); clear hm; intro _ hm; try simp only [setn] at hm)
        | (refine m_storeN hm (k:=?_); clear hm; intro _ hm; try simp only [setn] at hm)
        | refine m_ret_agg hm (h:=?_)
        | refine m_ret2_agg hm (h:=?_)
        | refine op_move (k:=?_)
        | refine op_assign (k:=?_)
        | refine op_lss (k:=?_)
        | refine op_gtr (k:=?_)
        | refine op_geq (k:=?_)
        | refine op_neq (k:=?_)
        | refine op_neq_str (k:=?_)
        | refine op_neq_bool (k:=?_)
        | refine op_neq_flat (k:=?_)
        | refine op_len_str (k:=?_)
        | refine op_len_slice (k:=?_)
        | refine op_not (k:=?_)
        | refine op_extract (k:=?_)
        | refine op_add (k:=?_)
        | refine op_add_u8 (k:=?_)
        | refine op_indexAddr_arr (k:=?_)
        | refine op_fieldAddr (k:=?_)
        | refine op_indexAddr (k:=?_)
        | refine op_load1 (k:=?_)
        | refine op_struct (k:=?_)
        | refine op_build (hr:=fun _ => (by rfl)) (k:=?_)
        | refine wl_nil ?_
        | refine at_then_normal ?_
        | refine at_then_ret ?_
        | refine at_then_exit ?_
        | refine at_block_normal ?_
        | refine at_block_ret ?_
        | refine at_block_exit ?_
        | refine at_block_other (h:=?_)
        | refine wc_seq ?_
        | refine wc_region ?_
        | refine wc_block ?_
        | refine wc_skip ?_
        | refine wc_exit ?_
        | refine wc_ret ?_
        | refine at_ret1 (h:=?_)
        | refine wc_quiet (h:=?_)
        | (refine wq_nil ?_; intro _ hkq; replace hm := hm.kept0 hkq; clear hkq)
        | (refine wq_nil_tail ?_; intro _ hkq; replace hm := hm.kept0 hkq; clear hkq)
        | refine wc_cond_true (ht:=?_)
        | refine wc_cond_false (hf:=?_)
        | (refine wc_cond_dec (ht:=fun _ => ?_) (hf:=fun _ => ?_)<;> (try first | contradiction | (exfalso; omega)))
        | refine wc_cond (ht:=fun _ => ?_) (hf:=fun _ => ?_)
        | refine q_move (k:=?_)
        | refine q_assign (k:=?_)
        | refine q_lss (k:=?_)
        | refine q_gtr (k:=?_)
        | refine q_geq (k:=?_)
        | refine q_neq (k:=?_)
        | refine q_neq_str (k:=?_)
        | refine q_neq_bool (k:=?_)
        | refine q_neq_flat (k:=?_)
        | refine q_len_str (k:=?_)
        | refine q_len_slice (k:=?_)
        | refine q_not (k:=?_)
        | refine q_extract (k:=?_)
        | refine q_add (k:=?_)
        | refine q_add_u8 (k:=?_)
        | refine q_indexAddr_arr (k:=?_)
        | refine q_fieldAddr (k:=?_)
        | refine q_indexAddr (k:=?_)
        | refine q_load1 (k:=?_)
        | refine q_struct (k:=?_)
        | refine q_build (hr:=fun _ => (by rfl)) (k:=?_))
        all_goals try (exfalso; first | omega | contradiction)
        exact at_cut (⟨.map (some b45)⟩ : ElV) (by exact ⟨rfl, rfl, rfl, rfl, rfl, rfl, rfl, trivial⟩) ⟨hm, .inl ⟨rfl, by rw [← hwa k2]; exact hS⟩⟩
      · skip
        repeat' (first
        | (refine m_varS (d:=3) hm (k:=?_); clear hm; intro b3 _ hm)
        | (refine m_var1 (d:=3) hm (k:=?_); clear hm; intro b3 _ hm)
        | (refine m_allocS (d:=7) hm (k:=?_); clear hm; intro b7 _ hm)
        | (refine m_push (d:=93) hm (k:=?_); clear hm; intro a93 cp93 _ _ hm; try simp only [setn] at hm)
        | (refine m_varS (d:=18) hm (k:=?_); clear hm; intro b18 _ hm)
        | (refine m_var1 (d:=18) hm (k:=?_); clear hm; intro b18 _ hm)
        | (refine m_push (d:=121) hm (k:=?_); clear hm; intro a121 cp121 _ _ hm; try simp only [setn] at hm)
        | refine m_load1 hm (k:=?_)
        | refine i_load1 hm (k:=?_)
        | refine m_loadAll hm (k:=?_)
        | refine i_loadN hm (k:=?_)
        | refine i_load1z hm (k:=?_)
        | refine mq_load1 hm (k:=?_)
        | refine iq_load1 hm (k:=?_)
        | refine mq_loadAll hm (k:=?_)
        | refine iq_loadN hm (k:=?_)
        | refine iq_load1z hm (k:=?_)
        | (refine m_storeAll hm (k:=?_); clear hm; intro _ hm; try simp only [setn] at hm)
        | (refine m_store1 hm (k:=?_); clear hm; intro _ hm; try simp only [setn] at hm)
        | (refine m_storeN hm (k:=?_); clear hm; intro _ hm; try simp only [setn] at hm)
        | refine m_ret_agg hm (h:=?_)
        | refine m_ret2_agg hm (h:=?_)
        | refine op_move (k:=?_)
        | refine op_assign (k:=?_)
        | refine op_lss (k:=?_)
        | refine op_gtr (k:=?_)
        | refine op_geq (k:=?_)
        | refine op_neq (k:=?_)
        | refine op_neq_str (k:=?_)
        | refine op_neq_bool (k:=?_)
        | refine op_neq_flat (k:=?_)
        | refine op_len_str (k:=?_)
        | refine op_len_slice (k:=?_)
        | refine op_not (k:=?_)
        | refine op_extract (k:=?_)
        | refine op_add (k:=?_)
        | refine op_add_u8 (k:=?_)
        | refine op_indexAddr_arr (k:=?_)
        | refine op_fieldAddr (k:=?_)
        | refine op_indexAddr (k:=?_)
        | refine op_load1 (k:=?_)
        | refine op_struct (k:=?_)
        | refine op_build (hr:=fun _ => (by rfl)) (k:=?_)
        | refine wl_nil ?_
        | refine at_then_normal ?_
        | refine at_then_ret ?_
        | refine at_then_exit ?_
        | refine at_block_normal ?_
        | refine at_block_ret ?_
        | refine at_block_exit ?_
        | refine at_block_other (h:=?_)
        | refine wc_seq ?_
        | refine wc_region ?_
        | refine wc_block ?_
        | refine wc_skip ?_
        | refine wc_exit ?_
        | refine wc_ret ?_
        | refine at_ret1 (h:=?_)
        | refine wc_quiet (h:=?_)
        | (refine wq_nil ?_; intro _ hkq; replace hm := hm.kept0 hkq; clear hkq)
        | (refine wq_nil_tail ?_; intro _ hkq; replace hm := hm.kept0 hkq; clear hkq)
        | refine wc_cond_true (ht:=?_)
        | refine wc_cond_false (hf:=?_)
        | (refine wc_cond_dec (ht:=fun _ => ?_) (hf:=fun _ => ?_)<;> (try first | contradiction | (exfalso; omega)))
        | refine wc_cond (ht:=fun _ => ?_) (hf:=fun _ => ?_)
        | refine q_move (k:=?_)
        | refine q_assign (k:=?_)
        | refine q_lss (k:=?_)
        | refine q_gtr (k:=?_)
        | refine q_geq (k:=?_)
        | refine q_neq (k:=?_)
        | refine q_neq_str (k:=?_)
        | refine q_neq_bool (k:=?_)
        | refine q_neq_flat (k:=?_)
        | refine q_len_str (k:=?_)
        | refine q_len_slice (k:=?_)
        | refine q_not (k:=?_)
        | refine q_extract (k:=?_)
        | refine q_add (k:=?_)
        | refine q_add_u8 (k:=?_)
        | refine q_indexAddr_arr (k:=?_)
        | refine q_fieldAddr (k:=?_)
        | refine q_indexAddr (k:=?_)
        | refine q_load1 (k:=?_)
        | refine q_struct (k:=?_)
        | refine q_build (hr:=fun _ => (by rfl)) (k:=?_))
        all_goals try (exfalso; first | omega | contradiction)
        exact at_cut (⟨.map none⟩ : ElV) (by exact ⟨rfl, rfl, rfl, rfl, rfl, rfl, rfl, trivial⟩) ⟨hm, .inr ⟨rfl, hnn k2⟩⟩
    have hnd := hS.nodup
    clear hm hS
    rintro ⟨v⟩ w9 ⟨hm, hv⟩
    dsimp only at hm hv ⊢
    obtain ⟨Ic, hlec, hmc, hM⟩ := Mem.freezeM hm hnd
    clear hm
    have hm := hmc
    clear hmc
    have hle7c := hle7b.trans hlec
    have hR1 := e_rise hsra hal Ic hM hv
    have hroc := hrob.le hlec
    have hpfc := hpfb.le hlec
    have hrkc := hrk.le hle7c
    have q7c := q7.le hle7c
    have hone := its_oneE q7c.ats
    have hit64 := q7.few
    repeat' (first
    | (refine wc_semi_memL (id:=30) (hm.perm pm0) [0,1,2,3,4] [5,6] 7 (h:=?_); clear hm; intro wd hR hm)
    | (refine iw_indexFlat (d:=84) (enc:=fun t => [triV t]) (z:=(al, ta, tc)) (hr:=hroc) (he:=fun _ => rfl) (hz:=hti) (k:=?_); intro bo oo hpo)
    | (refine iw_load1 (j:=0) (d:=85) hR (hp:=hpo) (k:=?_))
    | (refine mt_call (d:=87) hm (hp:=pm0) (hc:=hR1) (k:=?_); clear hm; rintro _ Id _ _ ⟨a2, cp2, rfl, rfl, hr2⟩ hleId hm; try simp only [setn] at hm)
    | (refine mt_call (d:=88) hm (hp:=pm0) (hc:=s_texts al hal Id ta a2 tc cp2 (hrkc.le hleId) hr2) (k:=?_); clear hm; rintro _ Ie _ _ ⟨rfl, rfl⟩ hleIe hm; try simp only [setn] at hm)
    | refine wc_hold 32 ?_
    | refine mw_loadAll hR (k:=?_)
    | refine mw_load1 hR (k:=?_)
    | refine iw_load1 hR (k:=?_)
    | refine mt_struct hm (k:=?_)
    | refine iw_loadN hR (k:=?_)
    | (refine mt_push (d:=121) hm (k:=?_); clear hm; intro a121 cp121 _ _ hm; replace hm := hR.back hm; clear hR; try simp only [setn] at hm)
    | (refine ws_nil ?_; replace hm := hR.back hm; clear hR; try simp only [setn] at hm)
    | (refine m_varS (d:=3) hm (k:=?_); clear hm; intro b3 _ hm)
    | (refine m_var1 (d:=3) hm (k:=?_); clear hm; intro b3 _ hm)
    | (refine m_allocS (d:=7) hm (k:=?_); clear hm; intro b7 _ hm)
    | (refine m_push (d:=93) hm (k:=?_); clear hm; intro a93 cp93 _ _ hm; try simp only [setn] at hm)
    | (refine m_varS (d:=18) hm (k:=?_); clear hm; intro b18 _ hm)
    | (refine m_var1 (d:=18) hm (k:=?_); clear hm; intro b18 _ hm)
    | (refine m_push (d:=121) hm (k:=?_); clear hm; intro a121 cp121 _ _ hm; try simp only [setn] at hm)
    | refine m_load1 hm (k:=?_)
    | refine i_load1 hm (k:=?_)
    | refine m_loadAll hm (k:=?_)
    | refine i_loadN hm (k:=?_)
    | refine i_load1z hm (k:=?_)
    | refine mq_load1 hm (k:=?_)
    | refine iq_load1 hm (k:=?_)
    | refine mq_loadAll hm (k:=?_)
    | refine iq_loadN hm (k:=?_)
    | refine iq_load1z hm (k:=?_)
    | (refine m_storeAll hm (k:=?_); clear hm; intro _ hm; try simp only [setn] at hm)
    | (refine m_store1 hm (k:=?_); clear hm; intro _ hm; try simp only [setn] at hm)
    | (refine m_storeN hm (k:=?_); clear hm; intro _ hm; try simp only [setn] at hm)
    | refine m_ret_agg hm (h:=?_)
    | refine m_ret2_agg hm (h:=?_)
    | refine op_move (k:=?_)
    | refine op_assign (k:=?_)
    | refine op_lss (k:=?_)
    | refine op_gtr (k:=?_)
    | refine op_geq (k:=?_)
    | refine op_neq (k:=?_)
    | refine op_neq_str (k:=?_)
    | refine op_neq_bool (k:=?_)
    | refine op_neq_flat (k:=?_)
    | refine op_len_str (k:=?_)
    | refine op_len_slice (k:=?_)
    | refine op_not (k:=?_)
    | refine op_extract (k:=?_)
    | refine op_add (k:=?_)
    | refine op_add_u8 (k:=?_)
    | refine op_indexAddr_arr (k:=?_)
    | refine op_fieldAddr (k:=?_)
    | refine op_indexAddr (k:=?_)
    | refine op_load1 (k:=?_)
    | refine op_struct (k:=?_)
    | refine op_build (hr:=fun _ => (by rfl)) (k:=?_)
    | refine wl_nil ?_
    | refine at_then_normal ?_
    | refine at_then_ret ?_
    | refine at_then_exit ?_
    | refine at_block_normal ?_
    | refine at_block_ret ?_
    | refine at_block_exit ?_
    | refine at_block_other (h:=?_)
    | refine wc_seq ?_
    | refine wc_region ?_
    | refine wc_block ?_
    | refine wc_skip ?_
    | refine wc_exit ?_
    | refine wc_ret ?_
    | refine at_ret1 (h:=?_)
    | refine wc_quiet (h:=?_)
    | (refine wq_nil ?_; intro _ hkq; replace hm := hm.kept0 hkq; clear hkq)
    | (refine wq_nil_tail ?_; intro _ hkq; replace hm := hm.kept0 hkq; clear hkq)
    | refine wc_cond_true (ht:=?_)
    | refine wc_cond_false (hf:=?_)
    | (refine wc_cond_dec (ht:=fun _ => ?_) (hf:=fun _ => ?_)<;> (try first | contradiction | (exfalso; omega)))
    | refine wc_cond (ht:=fun _ => ?_) (hf:=fun _ => ?_)
    | refine q_move (k:=?_)
    | refine q_assign (k:=?_)
    | refine q_lss (k:=?_)
    | refine q_gtr (k:=?_)
    | refine q_geq (k:=?_)
    | refine q_neq (k:=?_)
    | refine q_neq_str (k:=?_)
    | refine q_neq_bool (k:=?_)
    | refine q_neq_flat (k:=?_)
    | refine q_len_str (k:=?_)
    | refine q_len_slice (k:=?_)
    | refine q_not (k:=?_)
    | refine q_extract (k:=?_)
    | refine q_add (k:=?_)
    | refine q_add_u8 (k:=?_)
    | refine q_indexAddr_arr (k:=?_)
    | refine q_fieldAddr (k:=?_)
    | refine q_indexAddr (k:=?_)
    | refine q_load1 (k:=?_)
    | refine q_struct (k:=?_)
    | refine q_build (hr:=fun _ => (by rfl)) (k:=?_)
    | refine v_move (k:=?_)
    | refine v_assign (k:=?_)
    | refine v_lss (k:=?_)
    | refine v_gtr (k:=?_)
    | refine v_geq (by rfl) (by rfl) (by rfl) (by rfl) ?_
    | refine v_neq (k:=?_)
    | refine v_neq_str (k:=?_)
    | refine v_neq_bool (k:=?_)
    | refine v_neq_flat (k:=?_)
    | refine v_len_str (k:=?_)
    | refine v_len_slice (k:=?_)
    | refine v_not (k:=?_)
    | refine v_extract (k:=?_)
    | refine v_add (k:=?_)
    | refine v_add_u8 (k:=?_)
    | refine v_indexAddr_arr (k:=?_)
    | refine v_fieldAddr (k:=?_)
    | refine v_indexAddr (k:=?_)
    | refine v_load1 (by rfl) (by rfl) (by rfl) (by assumption) (by rfl) ?_
    | refine v_struct (k:=?_)
    | refine v_build (hr:=fun _ => (by rfl)) (k:=?_)
    | refine wv_nil ?_
    | refine ws_nil ?_)
    all_goals try (exfalso; first | omega | contradiction)
    have hle7e := (hle7c.trans hleId).trans hleIe
    have hpfe := hpf7.le hle7e
    have q7e := q7.le hle7e
    have hroe := hro7.le hle7e
    have hrie := q7e.row
    clear hM hR1 hroc hpfc hrkc q7c hpfb hrob hrBb hr2
    refine ⟨?_⟩
    repeat' (first
    | (refine m_buildRow (d:=90) hm (k:=?_); clear hm; intro bb _ hm)
    | (refine i_load1 (d:=92) hm (hp:=hpfe) (k:=?_))
    | (refine m_appendI (d:=93) hm (hr:=hrie) (h1:=hone) (k:=?_); clear hm; intro a93 cp93 _ hm; try simp only [setn] at hm)
    | refine wc_hold 33 ?_
    | (refine m_varS (d:=3) hm (k:=?_); clear hm; intro b3 _ hm)
    | (refine m_var1 (d:=3) hm (k:=?_); clear hm; intro b3 _ hm)
    | (refine m_allocS (d:=7) hm (k:=?_); clear hm; intro b7 _ hm)
    | (refine m_push (d:=93) hm (k:=?_); clear hm; intro a93 cp93 _ _ hm; try simp only [setn] at hm)
    | (refine m_varS (d:=18) hm (k:=?_); clear hm; intro b18 _ hm)
    | (refine m_var1 (d:=18) hm (k:=?_); clear hm; intro b18 _ hm)
    | (refine m_push (d:=121) hm (k:=?_); clear hm; intro a121 cp121 _ _ hm; try simp only [setn] at hm)
    | refine m_load1 hm (k:=?_)
    | refine i_load1 hm (k:=?_)
    | refine m_loadAll hm (k:=?_)
    | refine i_loadN hm (k:=?_)
    | refine i_load1z hm (k:=?_)
    | refine mq_load1 hm (k:=?_)
    | refine iq_load1 hm (k:=?_)
    | refine mq_loadAll hm (k:=?_)
    | refine iq_loadN hm (k:=?_)
    | refine iq_load1z hm (k:=?_)
    | (refine m_storeAll hm (k:=?_); clear hm; intro _ hm; try simp only [setn] at hm)
    | (refine m_store1 hm (k:=?_); clear hm; intro _ hm; try simp only [setn] at hm)
    | (refine m_storeN hm (k:=?_); clear hm; intro _ hm; try simp only [setn] at hm)
    | refine m_ret_agg hm (h:=?_)
    | refine m_ret2_agg hm (h:=?_)
    | refine op_move (k:=?_)
    | refine op_assign (k:=?_)
    | refine op_lss (k:=?_)
    | refine op_gtr (k:=?_)
    | refine op_geq (k:=?_)
    | refine op_neq (k:=?_)
    | refine op_neq_str (k:=?_)
    | refine op_neq_bool (k:=?_)
    | refine op_neq_flat (k:=?_)
    | refine op_len_str (k:=?_)
    | refine op_len_slice (k:=?_)
    | refine op_not (k:=?_)
    | refine op_extract (k:=?_)
    | refine op_add (k:=?_)
    | refine op_add_u8 (k:=?_)
    | refine op_indexAddr_arr (k:=?_)
    | refine op_fieldAddr (k:=?_)
    | refine op_indexAddr (k:=?_)
    | refine op_load1 (k:=?_)
    | refine op_struct (k:=?_)
    | refine op_build (hr:=fun _ => (by rfl)) (k:=?_)
    | refine wl_nil ?_
    | refine at_then_normal ?_
    | refine at_then_ret ?_
    | refine at_then_exit ?_
    | refine at_block_normal ?_
    | refine at_block_ret ?_
    | refine at_block_exit ?_
    | refine at_block_other (h:=?_)
    | refine wc_seq ?_
    | refine wc_region ?_
    | refine wc_block ?_
    | refine wc_skip ?_
    | refine wc_exit ?_
    | refine wc_ret ?_
    | refine at_ret1 (h:=?_)
    | refine wc_quiet (h:=?_)
    | (refine wq_nil ?_; intro _ hkq; replace hm := hm.kept0 hkq; clear hkq)
    | (refine wq_nil_tail ?_; intro _ hkq; replace hm := hm.kept0 hkq; clear hkq)
    | refine wc_cond_true (ht:=?_)
    | refine wc_cond_false (hf:=?_)
    | (refine wc_cond_dec (ht:=fun _ => ?_) (hf:=fun _ => ?_)<;> (try first | contradiction | (exfalso; omega)))
    | refine wc_cond (ht:=fun _ => ?_) (hf:=fun _ => ?_)
    | refine q_move (k:=?_)
    | refine q_assign (k:=?_)
    | refine q_lss (k:=?_)
    | refine q_gtr (k:=?_)
    | refine q_geq (k:=?_)
    | refine q_neq (k:=?_)
    | refine q_neq_str (k:=?_)
    | refine q_neq_bool (k:=?_)
    | refine q_neq_flat (k:=?_)
    | refine q_len_str (k:=?_)
    | refine q_len_slice (k:=?_)
    | refine q_not (k:=?_)
    | refine q_extract (k:=?_)
    | refine q_add (k:=?_)
    | refine q_add_u8 (k:=?_)
    | refine q_indexAddr_arr (k:=?_)
    | refine q_fieldAddr (k:=?_)
    | refine q_indexAddr (k:=?_)
    | refine q_load1 (k:=?_)
    | refine q_struct (k:=?_)
    | refine q_build (hr:=fun _ => (by rfl)) (k:=?_))
    all_goals try (exfalso; first | omega | contradiction)
    obtain ⟨g, rfl⟩ := (hm.perm pm1_1).rowAddr (by omega)
    have hxl := hrie.1
    refine ⟨?_⟩
    repeat' (first
    | (refine mi_storeRow (i := 1) hm (by rfl) (by rfl) (by rfl) (by rfl) (by rfl) (by rfl) (by rfl) (by show 0 + (k : Int).toNat * 10 + 4 < xs.length; rw [Int.toNat_natCast]; omega) ?_; clear hm; intro _ hm)
    | (refine i_indexFlat (d:=102) (enc:=fun t => [triV t]) (z:=(al, ta, tc)) (hr:=hroe) (he:=fun _ => rfl) (hz:=hti) (k:=?_); intro bp op hpp)
    | (refine i_load1z (d:=103) hm (hp:=hpp) (k:=?_))
    | (refine m_varS (d:=3) hm (k:=?_); clear hm; intro b3 _ hm)
    | (refine m_var1 (d:=3) hm (k:=?_); clear hm; intro b3 _ hm)
    | (refine m_allocS (d:=7) hm (k:=?_); clear hm; intro b7 _ hm)
    | (refine m_push (d:=93) hm (k:=?_); clear hm; intro a93 cp93 _ _ hm; try simp only [setn] at hm)
    | (refine m_varS (d:=18) hm (k:=?_); clear hm; intro b18 _ hm)
    | (refine m_var1 (d:=18) hm (k:=?_); clear hm; intro b18 _ hm)
    | (refine m_push (d:=121) hm (k:=?_); clear hm; intro a121 cp121 _ _ hm; try simp only [setn] at hm)
    | refine m_load1 hm (k:=?_)
    | refine i_load1 hm (k:=?_)
    | refine m_loadAll hm (k:=?_)
    | refine i_loadN hm (k:=?_)
    | refine i_load1z hm (k:=?_)
    | refine mq_load1 hm (k:=?_)
    | refine iq_load1 hm (k:=?_)
    | refine mq_loadAll hm (k:=?_)
    | refine iq_loadN hm (k:=?_)
    | refine iq_load1z hm (k:=?_)
    | (refine m_storeAll hm (k:=?_); clear hm; intro _ hm; try simp only [setn] at hm)
    | (refine m_store1 hm (k:=?_); clear hm; intro _ hm; try simp only [setn] at hm)
    | (refine m_storeN hm (k:=?_); clear hm; intro _ hm; try simp only [setn] at hm)
    | refine m_ret_agg hm (h:=?_)
    | refine m_ret2_agg hm (h:=?_)
    | refine op_move (k:=?_)
    | refine op_assign (k:=?_)
    | refine op_lss (k:=?_)
    | refine op_gtr (k:=?_)
    | refine op_geq (k:=?_)
    | refine op_neq (k:=?_)
    | refine op_neq_str (k:=?_)
    | refine op_neq_bool (k:=?_)
    | refine op_neq_flat (k:=?_)
    | refine op_len_str (k:=?_)
    | refine op_len_slice (k:=?_)
    | refine op_not (k:=?_)
    | refine op_extract (k:=?_)
    | refine op_add (k:=?_)
    | refine op_add_u8 (k:=?_)
    | refine op_indexAddr_arr (k:=?_)
    | refine op_fieldAddr (k:=?_)
    | refine op_indexAddr (k:=?_)
    | refine op_load1 (k:=?_)
    | refine op_struct (k:=?_)
    | refine op_build (hr:=fun _ => (by rfl)) (k:=?_)
    | refine wl_nil ?_
    | refine at_then_normal ?_
    | refine at_then_ret ?_
    | refine at_then_exit ?_
    | refine at_block_normal ?_
    | refine at_block_ret ?_
    | refine at_block_exit ?_
    | refine at_block_other (h:=?_)
    | refine wc_seq ?_
    | refine wc_region ?_
    | refine wc_block ?_
    | refine wc_skip ?_
    | refine wc_exit ?_
    | refine wc_ret ?_
    | refine at_ret1 (h:=?_)
    | refine wc_quiet (h:=?_)
    | (refine wq_nil ?_; intro _ hkq; replace hm := hm.kept0 hkq; clear hkq)
    | (refine wq_nil_tail ?_; intro _ hkq; replace hm := hm.kept0 hkq; clear hkq)
    | refine wc_cond_true (ht:=?_)
    | refine wc_cond_false (hf:=?_)
    | (refine wc_cond_dec (ht:=fun _ => ?_) (hf:=fun _ => ?_)<;> (try first | contradiction | (exfalso; omega)))
    | refine wc_cond (ht:=fun _ => ?_) (hf:=fun _ => ?_)
    | refine q_move (k:=?_)
    | refine q_assign (k:=?_)
    | refine q_lss (k:=?_)
    | refine q_gtr (k:=?_)
    | refine q_geq (k:=?_)
    | refine q_neq (k:=?_)
    | refine q_neq_str (k:=?_)
    | refine q_neq_bool (k:=?_)
    | refine q_neq_flat (k:=?_)
    | refine q_len_str (k:=?_)
    | refine q_len_slice (k:=?_)
    | refine q_not (k:=?_)
    | refine q_extract (k:=?_)
    | refine q_add (k:=?_)
    | refine q_add_u8 (k:=?_)
    | refine q_indexAddr_arr (k:=?_)
    | refine q_fieldAddr (k:=?_)
    | refine q_indexAddr (k:=?_)
    | refine q_load1 (k:=?_)
    | refine q_struct (k:=?_)
    | refine q_build (hr:=fun _ => (by rfl)) (k:=?_))
    all_goals try (exfalso; first | omega | contradiction)
    have hm := hm.nil 45 2
    have hrke := hrk.le hle7e
    refine wc_loop (fun x : ElQ => [(3, ptr b3), (5, .slice (some ⟨ob, 0, none⟩) its.length its.length), (6, nt k), (18, ptr b18), (33, .slice a its.length cp), (34, nt its.length), (35, nt k), (103, .slice ta al.length tc), (104, nt al.length), (105, nt x.q)])
      (fun x w' => Mem E Ie [.row (.slice x.sa x.q x.sp) 45 2 x.q ((refsE (al.take x.q)).flatMap encRf), .cell b18 [.slice (some ⟨g, 0, none⟩) (0 + its.length) cp93] 25, .row (.slice (some ⟨g, 0, none⟩) (0 + its.length) cp93) 36 10 (0 + its.length) (xs.set (0 + k * 10 + 4) (.slice x.sa x.q x.sp)), .cell b7 (itCells it.kind it.name it.label (.slice ap it.params.length cp') (.slice as_ it.sends.length cs') (.slice ab it.body.length cb') it.at_ it.size it.mark (.slice ad it.diags.length cd)) 36] w' ∧ x.q ≤ al.length)
      (fun x => al.length - x.q) ⟨0, none, 0⟩ (by exact ⟨rfl, rfl, rfl, rfl, rfl, rfl, rfl, rfl, rfl, rfl, trivial⟩) ⟨hm, Nat.zero_le _⟩ ?_
    clear hm
    rintro ⟨q, sa, sp⟩ w9 ⟨hm, hq⟩
    dsimp only at hm hq ⊢
    by_cases hlq : q < al.length
    · have hgq : al[q]? = some al[q] := List.getElem?_eq_getElem hlq
      have hst := refsE_step hgq
      have hrl : (refsE (al.take q)).length = q := by rw [refsE, List.length_map, List.length_take]; omega
      generalize al[q] = nm at hgq hst
      repeat' (first
      | (refine i_indexFlat (d:=107) (enc:=encS) (z:=nm) (hr:=hrke) (he:=fun _ => rfl) (hz:=by exact hgq) (k:=?_); intro bz oz hpz)
      | (refine wc_semi_memL (id:=37) (hm.perm pm1_0) [0,1,2,3,4,5,6,7,8,9,10] [11,12] 13 (h:=?_); clear hm; intro wd hR hm)
      | (refine mw_loadRow (i := 1) (d := 117) hR (by rfl) (by rfl) (by rfl) (by rfl) (by exact List.getElem?_set_self (by omega)) ?_)
      | (refine mi_storeRow (i := 2) hm (by rfl) (by rfl) (by rfl) (by rfl) (by rfl) (by rfl) (by rfl) (by rw [List.length_set]; show 0 + (k : Int).toNat * 10 + 4 < xs.length; rw [Int.toNat_natCast]; omega) ?_; clear hm; intro _ hm)
      | refine mw_loadAll hR (k:=?_)
      | refine mw_load1 hR (k:=?_)
      | refine iw_load1 hR (k:=?_)
      | refine mt_struct hm (k:=?_)
      | refine iw_loadN hR (k:=?_)
      | (refine mt_push (d:=121) hm (k:=?_); clear hm; intro a121 cp121 _ _ hm; replace hm := hR.back hm; clear hR; try simp only [setn] at hm)
      | (refine ws_nil ?_; replace hm := hR.back hm; clear hR; try simp only [setn] at hm)
      | (refine m_varS (d:=3) hm (k:=?_); clear hm; intro b3 _ hm)
      | (refine m_var1 (d:=3) hm (k:=?_); clear hm; intro b3 _ hm)
      | (refine m_allocS (d:=7) hm (k:=?_); clear hm; intro b7 _ hm)
      | (refine m_push (d:=93) hm (k:=?_); clear hm; intro a93 cp93 _ _ hm; try simp only [setn] at hm)
      | (refine m_varS (d:=18) hm (k:=?_); clear hm; intro b18 _ hm)
      | (refine m_var1 (d:=18) hm (k:=?_); clear hm; intro b18 _ hm)
      | (refine m_push (d:=121) hm (k:=?_); clear hm; intro a121 cp121 _ _ hm; try simp only [setn] at hm)
      | refine m_load1 hm (k:=?_)
      | refine i_load1 hm (k:=?_)
      | refine m_loadAll hm (k:=?_)
      | refine i_loadN hm (k:=?_)
      | refine i_load1z hm (k:=?_)
      | refine mq_load1 hm (k:=?_)
      | refine iq_load1 hm (k:=?_)
      | refine mq_loadAll hm (k:=?_)
      | refine iq_loadN hm (k:=?_)
      | refine iq_load1z hm (k:=?_)
      | (refine m_storeAll hm (k:=?_); clear hm; intro _ hm; try simp only [setn] at hm)
      | (refine m_store1 hm (k:=?_); clear hm; intro _ hm; try simp only [setn] at hm)
      | (refine m_storeN hm (k:=?_); clear hm; intro _ hm; try simp only [setn] at hm)
      | refine m_ret_agg hm (h:=?_)
      | refine m_ret2_agg hm (h:=?_)
      | refine op_move (k:=?_)
      | refine op_assign (k:=?_)
      | refine op_lss (k:=?_)
      | refine op_gtr (k:=?_)
      | refine op_geq (k:=?_)
      | refine op_neq (k:=?_)
      | refine op_neq_str (k:=?_)
      | refine op_neq_bool (k:=?_)
      | refine op_neq_flat (k:=?_)
      | refine op_len_str (k:=?_)
      | refine op_len_slice (k:=?_)
      | refine op_not (k:=?_)
      | refine op_extract (k:=?_)
      | refine op_add (k:=?_)
      | refine op_add_u8 (k:=?_)
      | refine op_indexAddr_arr (k:=?_)
      | refine op_fieldAddr (k:=?_)
      | refine op_indexAddr (k:=?_)
      | refine op_load1 (k:=?_)
      | refine op_struct (k:=?_)
      | refine op_build (hr:=fun _ => (by rfl)) (k:=?_)
      | refine wl_nil ?_
      | refine at_then_normal ?_
      | refine at_then_ret ?_
      | refine at_then_exit ?_
      | refine at_block_normal ?_
      | refine at_block_ret ?_
      | refine at_block_exit ?_
      | refine at_block_other (h:=?_)
      | refine wc_seq ?_
      | refine wc_region ?_
      | refine wc_block ?_
      | refine wc_skip ?_
      | refine wc_exit ?_
      | refine wc_ret ?_
      | refine at_ret1 (h:=?_)
      | refine wc_quiet (h:=?_)
      | (refine wq_nil ?_; intro _ hkq; replace hm := hm.kept0 hkq; clear hkq)
      | (refine wq_nil_tail ?_; intro _ hkq; replace hm := hm.kept0 hkq; clear hkq)
      | refine wc_cond_true (ht:=?_)
      | refine wc_cond_false (hf:=?_)
      | (refine wc_cond_dec (ht:=fun _ => ?_) (hf:=fun _ => ?_)<;> (try first | contradiction | (exfalso; omega)))
      | refine wc_cond (ht:=fun _ => ?_) (hf:=fun _ => ?_)
      | refine q_move (k:=?_)
      | refine q_assign (k:=?_)
      | refine q_lss (k:=?_)
      | refine q_gtr (k:=?_)
      | refine q_geq (k:=?_)
      | refine q_neq (k:=?_)
      | refine q_neq_str (k:=?_)
      | refine q_neq_bool (k:=?_)
      | refine q_neq_flat (k:=?_)
      | refine q_len_str (k:=?_)
      | refine q_len_slice (k:=?_)
      | refine q_not (k:=?_)
      | refine q_extract (k:=?_)
      | refine q_add (k:=?_)
      | refine q_add_u8 (k:=?_)
      | refine q_indexAddr_arr (k:=?_)
      | refine q_fieldAddr (k:=?_)
      | refine q_indexAddr (k:=?_)
      | refine q_load1 (k:=?_)
      | refine q_struct (k:=?_)
      | refine q_build (hr:=fun _ => (by rfl)) (k:=?_)
      | refine v_move (k:=?_)
      | refine v_assign (k:=?_)
      | refine v_lss (k:=?_)
      | refine v_gtr (k:=?_)
      | refine v_geq (by rfl) (by rfl) (by rfl) (by rfl) ?_
      | refine v_neq (k:=?_)
      | refine v_neq_str (k:=?_)
      | refine v_neq_bool (k:=?_)
      | refine v_neq_flat (k:=?_)
      | refine v_len_str (k:=?_)
      | refine v_len_slice (k:=?_)
      | refine v_not (k:=?_)
      | refine v_extract (k:=?_)
      | refine v_add (k:=?_)
      | refine v_add_u8 (k:=?_)
      | refine v_indexAddr_arr (k:=?_)
      | refine v_fieldAddr (k:=?_)
      | refine v_indexAddr (k:=?_)
      | refine v_load1 (by rfl) (by rfl) (by rfl) (by assumption) (by rfl) ?_
      | refine v_struct (k:=?_)
      | refine v_build (hr:=fun _ => (by rfl)) (k:=?_)
      | refine wv_nil ?_
      | refine ws_nil ?_)
      all_goals try (exfalso; first | omega | contradiction)
      refine at_round (⟨q + 1, a121, cp121⟩ : ElQ) (by exact ⟨rfl, rfl, rfl, rfl, rfl, rfl, rfl, rfl, rfl, rfl, trivial⟩) ⟨?_, by dsimp only; omega⟩ (by dsimp only; omega)
      dsimp only
      rw [hst, List.flatMap_append, ← List.set_set (a := .slice sa q sp)]
      exact hm
    obtain rfl : q = al.length := by omega
    rw [List.take_length] at hm
    obtain ⟨If, hlef, hmf, hrf⟩ := Mem.freeze hm
    obtain ⟨Ig, hleg, hmg, hrg⟩ := Mem.freeze (hmf.perm pm1_1)
    clear hm hmf
    have hm := hmg
    clear hmg
    have hle7g := (hle7e.trans hlef).trans hleg
    have hrl : (refsE al).length = al.length := by rw [refsE, List.length_map]
    have hsay2 := hsay Ig hle7g sa sp (by rw [hrl]; exact hrf.le hleg)
    rw [hrl, ← Nat.zero_add (k * 10)] at hsay2
    have hnm := hsame.names
    have hlen : (its.set k { it with sends := refsE al }).length = 0 + its.length := by rw [List.length_set, Nat.zero_add]
    have hft2 : ∀ x ∈ its.set k { it with sends := refsE al }, x.fit ∧ Sp.stmsCnt x.body ≤ 400000000 := fun x hx => by
      rcases List.mem_or_eq_of_mem_set hx with h | rfl
      · exact hft x h
      · exact ⟨it_fit_say hmk.1 (by rw [hrl]; exact hal), hmk.2⟩
    have hE := e_diags (its := its.set k { it with sends := refsE al }) k (by omega) Ig (some ⟨g, 0, none⟩) cp93 _ ⟨by rw [hlen]; exact hrg, hsay2, by omega⟩ hft2 (by rw [hnm]; omega)
    rw [hsaid, hlen] at hE
    simp only [List.length_nil] at hE
    repeat' (first
    | (refine m_call (d:=127) hm (hp:=pm0) (hc:=hE) (k:=?_); clear hm; rintro _ Ih _ _ ⟨rfl, da, dp, rfl, hd⟩ hleIh hm; try simp only [setn] at hm)
    | (refine m_varS (d:=3) hm (k:=?_); clear hm; intro b3 _ hm)
    | (refine m_var1 (d:=3) hm (k:=?_); clear hm; intro b3 _ hm)
    | (refine m_allocS (d:=7) hm (k:=?_); clear hm; intro b7 _ hm)
    | (refine m_push (d:=93) hm (k:=?_); clear hm; intro a93 cp93 _ _ hm; try simp only [setn] at hm)
    | (refine m_varS (d:=18) hm (k:=?_); clear hm; intro b18 _ hm)
    | (refine m_var1 (d:=18) hm (k:=?_); clear hm; intro b18 _ hm)
    | (refine m_push (d:=121) hm (k:=?_); clear hm; intro a121 cp121 _ _ hm; try simp only [setn] at hm)
    | refine m_load1 hm (k:=?_)
    | refine i_load1 hm (k:=?_)
    | refine m_loadAll hm (k:=?_)
    | refine i_loadN hm (k:=?_)
    | refine i_load1z hm (k:=?_)
    | refine mq_load1 hm (k:=?_)
    | refine iq_load1 hm (k:=?_)
    | refine mq_loadAll hm (k:=?_)
    | refine iq_loadN hm (k:=?_)
    | refine iq_load1z hm (k:=?_)
    | (refine m_storeAll hm (k:=?_); clear hm; intro _ hm; try simp only [setn] at hm)
    | (refine m_store1 hm (k:=?_); clear hm; intro _ hm; try simp only [setn] at hm)
    | (refine m_storeN hm (k:=?_); clear hm; intro _ hm; try simp only [setn] at hm)
    | refine m_ret_agg hm (h:=?_)
    | refine m_ret2_agg hm (h:=?_)
    | refine op_move (k:=?_)
    | refine op_assign (k:=?_)
    | refine op_lss (k:=?_)
    | refine op_gtr (k:=?_)
    | refine op_geq (k:=?_)
    | refine op_neq (k:=?_)
    | refine op_neq_str (k:=?_)
    | refine op_neq_bool (k:=?_)
    | refine op_neq_flat (k:=?_)
    | refine op_len_str (k:=?_)
    | refine op_len_slice (k:=?_)
    | refine op_not (k:=?_)
    | refine op_extract (k:=?_)
    | refine op_add (k:=?_)
    | refine op_add_u8 (k:=?_)
    | refine op_indexAddr_arr (k:=?_)
    | refine op_fieldAddr (k:=?_)
    | refine op_indexAddr (k:=?_)
    | refine op_load1 (k:=?_)
    | refine op_struct (k:=?_)
    | refine op_build (hr:=fun _ => (by rfl)) (k:=?_)
    | refine wl_nil ?_
    | refine at_then_normal ?_
    | refine at_then_ret ?_
    | refine at_then_exit ?_
    | refine at_block_normal ?_
    | refine at_block_ret ?_
    | refine at_block_exit ?_
    | refine at_block_other (h:=?_)
    | refine wc_seq ?_
    | refine wc_region ?_
    | refine wc_block ?_
    | refine wc_skip ?_
    | refine wc_exit ?_
    | refine wc_ret ?_
    | refine at_ret1 (h:=?_)
    | refine wc_quiet (h:=?_)
    | (refine wq_nil ?_; intro _ hkq; replace hm := hm.kept0 hkq; clear hkq)
    | (refine wq_nil_tail ?_; intro _ hkq; replace hm := hm.kept0 hkq; clear hkq)
    | refine wc_cond_true (ht:=?_)
    | refine wc_cond_false (hf:=?_)
    | (refine wc_cond_dec (ht:=fun _ => ?_) (hf:=fun _ => ?_)<;> (try first | contradiction | (exfalso; omega)))
    | refine wc_cond (ht:=fun _ => ?_) (hf:=fun _ => ?_)
    | refine q_move (k:=?_)
    | refine q_assign (k:=?_)
    | refine q_lss (k:=?_)
    | refine q_gtr (k:=?_)
    | refine q_geq (k:=?_)
    | refine q_neq (k:=?_)
    | refine q_neq_str (k:=?_)
    | refine q_neq_bool (k:=?_)
    | refine q_neq_flat (k:=?_)
    | refine q_len_str (k:=?_)
    | refine q_len_slice (k:=?_)
    | refine q_not (k:=?_)
    | refine q_extract (k:=?_)
    | refine q_add (k:=?_)
    | refine q_add_u8 (k:=?_)
    | refine q_indexAddr_arr (k:=?_)
    | refine q_fieldAddr (k:=?_)
    | refine q_indexAddr (k:=?_)
    | refine q_load1 (k:=?_)
    | refine q_struct (k:=?_)
    | refine q_build (hr:=fun _ => (by rfl)) (k:=?_))
    all_goals try (exfalso; first | omega | contradiction)
    exact at_round (⟨k + 1, Ih⟩ : SmX) (by exact ⟨rfl, rfl, rfl, rfl, rfl, trivial⟩) ⟨hm.left (H := []), hle7.trans (hle7g.trans hleIh), by dsimp only; omega⟩ (by dsimp only; omega)
  · obtain rfl : k = its.length := by omega
    repeat' (first
    | (refine m_varS (d:=3) hm (k:=?_); clear hm; intro b3 _ hm)
    | (refine m_var1 (d:=3) hm (k:=?_); clear hm; intro b3 _ hm)
    | (refine m_allocS (d:=7) hm (k:=?_); clear hm; intro b7 _ hm)
    | (refine m_push (d:=93) hm (k:=?_); clear hm; intro a93 cp93 _ _ hm; try simp only [setn] at hm)
    | (refine m_varS (d:=18) hm (k:=?_); clear hm; intro b18 _ hm)
    | (refine m_var1 (d:=18) hm (k:=?_); clear hm; intro b18 _ hm)
    | (refine m_push (d:=121) hm (k:=?_); clear hm; intro a121 cp121 _ _ hm; try simp only [setn] at hm)
    | refine m_load1 hm (k:=?_)
    | refine i_load1 hm (k:=?_)
    | refine m_loadAll hm (k:=?_)
    | refine i_loadN hm (k:=?_)
    | refine i_load1z hm (k:=?_)
    | refine mq_load1 hm (k:=?_)
    | refine iq_load1 hm (k:=?_)
    | refine mq_loadAll hm (k:=?_)
    | refine iq_loadN hm (k:=?_)
    | refine iq_load1z hm (k:=?_)
    | (refine m_storeAll hm (k:=?_); clear hm; intro _ hm; try simp only [setn] at hm)
    | (refine m_store1 hm (k:=?_); clear hm; intro _ hm; try simp only [setn] at hm)
    | (refine m_storeN hm (k:=?_); clear hm; intro _ hm; try simp only [setn] at hm)
    | refine m_ret_agg hm (h:=?_)
    | refine m_ret2_agg hm (h:=?_)
    | refine op_move (k:=?_)
    | refine op_assign (k:=?_)
    | refine op_lss (k:=?_)
    | refine op_gtr (k:=?_)
    | refine op_geq (k:=?_)
    | refine op_neq (k:=?_)
    | refine op_neq_str (k:=?_)
    | refine op_neq_bool (k:=?_)
    | refine op_neq_flat (k:=?_)
    | refine op_len_str (k:=?_)
    | refine op_len_slice (k:=?_)
    | refine op_not (k:=?_)
    | refine op_extract (k:=?_)
    | refine op_add (k:=?_)
    | refine op_add_u8 (k:=?_)
    | refine op_indexAddr_arr (k:=?_)
    | refine op_fieldAddr (k:=?_)
    | refine op_indexAddr (k:=?_)
    | refine op_load1 (k:=?_)
    | refine op_struct (k:=?_)
    | refine op_build (hr:=fun _ => (by rfl)) (k:=?_)
    | refine wl_nil ?_
    | refine at_then_normal ?_
    | refine at_then_ret ?_
    | refine at_then_exit ?_
    | refine at_block_normal ?_
    | refine at_block_ret ?_
    | refine at_block_exit ?_
    | refine at_block_other (h:=?_)
    | refine wc_seq ?_
    | refine wc_region ?_
    | refine wc_block ?_
    | refine wc_skip ?_
    | refine wc_exit ?_
    | refine wc_ret ?_
    | refine at_ret1 (h:=?_)
    | refine wc_quiet (h:=?_)
    | (refine wq_nil ?_; intro _ hkq; replace hm := hm.kept0 hkq; clear hkq)
    | (refine wq_nil_tail ?_; intro _ hkq; replace hm := hm.kept0 hkq; clear hkq)
    | refine wc_cond_true (ht:=?_)
    | refine wc_cond_false (hf:=?_)
    | (refine wc_cond_dec (ht:=fun _ => ?_) (hf:=fun _ => ?_)<;> (try first | contradiction | (exfalso; omega)))
    | refine wc_cond (ht:=fun _ => ?_) (hf:=fun _ => ?_)
    | refine q_move (k:=?_)
    | refine q_assign (k:=?_)
    | refine q_lss (k:=?_)
    | refine q_gtr (k:=?_)
    | refine q_geq (k:=?_)
    | refine q_neq (k:=?_)
    | refine q_neq_str (k:=?_)
    | refine q_neq_bool (k:=?_)
    | refine q_neq_flat (k:=?_)
    | refine q_len_str (k:=?_)
    | refine q_len_slice (k:=?_)
    | refine q_not (k:=?_)
    | refine q_extract (k:=?_)
    | refine q_add (k:=?_)
    | refine q_add_u8 (k:=?_)
    | refine q_indexAddr_arr (k:=?_)
    | refine q_fieldAddr (k:=?_)
    | refine q_indexAddr (k:=?_)
    | refine q_load1 (k:=?_)
    | refine q_struct (k:=?_)
    | refine q_build (hr:=fun _ => (by rfl)) (k:=?_))
    all_goals try (exfalso; first | omega | contradiction)
    exact ⟨I7, [], ⟨rfl, rfl⟩, hm⟩
end Go.Proofs.YtghommdgmglmdaaDoor
end
