/- Own work: texts FlI, one behind the other. -/
import Derived.Test.YtkbiakajlfmakaaDoorMn27
section
namespace Go.Proofs.YtkbiakajlfmakaaDoor
open Go.Fw
section
variable {its : List Sp.Itm} {a : Option Addr} {cp : Nat} {xs : List Value}
set_option maxHeartbeats 16000000 in
theorem f_check (i : Nat) (hi : i < its.length) (at_ : Int) (bf : Nat) (I : Imm) (hfile : PtrI I bf 0 24 [.slice a its.length cp]) (h : FE I its a cp xs) (hlab : Sp.itLab its) (hF : ∀ x ∈ its, Sp.ItF x) :
    CalM Tryd.prog 91 #[ptr bf, nt i, .int .i64 at_] I [] (fun v _ H' => ∃ bc pi vf sc sa sp da dp, v = ptr bc ∧ H' = FSt bc bf pi sc sa sp (Sp.checkF its i at_) da dp vf at_) := by
  refine CalM.of fun w E hm => enter (N := 69) Tryd.func91 rfl [(0, ptr bf), (1, nt i), (2, .int .i64 at_)] args3 rfl ?_
  have hfew := h.few
  have hg := Sp.itNo_get hi
  obtain ⟨ci, hci, hat, hlc⟩ := h.get hg
  have hri := h.row
  have hmem := Sp.itNo_mem hi
  have hIt := hF _ hmem
  have hlb := hlab _ hmem
  have hck : Sp.checkF its i at_ = if (Sp.itNo its i).kind = 2 then (Sp.stmsF its (Sp.itNo its i).label at_ (Sp.itNo its i).body (Sp.parsF (Sp.itNo its i).params) 0 Sp.FW0).2 else Sp.FW0 := rfl
  generalize Sp.checkF its i at_ = fin at hck ⊢
  have hfl := fun (J : Imm) (m : Le I J) => f_floors (I := J) (h.le m) hlab (fun x hx => (hF x hx).small)
  generalize Sp.itNo its i = it at hg hat hmem hIt hlb hck
  have hat0 := hat
  obtain ⟨pa, pc, sa9, sc9, ba, bc9, da9, dc9, xb, rfl, hpar, hsnd, hrb, hbs, _⟩ := hat
  have hsp := hIt.small.params
  have hsb := hIt.small.body
  by_cases k2 : it.kind = 2
  case neg =>
    rw [if_neg k2] at hck
    subst hck
    repeat' (first
      | (refine wc_semi_memL (id := 1) (hm.perm pm0) [0,1,2,3,4,5,6,7,8,9,11] [10,12,13] 14 (by kernel_rfl) ?_; clear hm; intro wd hR hm)
      | (refine iw_indexAddr (d := 16) (by rfl) (by rfl) (by rfl) (by rfl) hri (by omega) (by omega) ?_; intro bt ot hpt; rw [show ((i : Int).toNat * 10) = i * 10 from rfl, hci] at hpt)
      | (refine iw_loadN (d := 19) hR (by rfl) (by rfl) (by rfl) hfile (by rfl) ?_)
      | (refine mt_call (d := 20) hm (by rfl) (by rfl) (by rfl) (by first | exact pm0 | exact pm1_0 | exact pm1_1 | exact pm1_2 | exact pm1_3 | exact pm2_0 | exact pm2_1 | exact pm2_2 | exact pm2_3 | exact pm2_4 | exact pm3_0 | exact pm3_1 | exact pm3_2) (hfl I (Le.refl _)) ?_; clear hm; rintro _ I2 _ _ ⟨rfl, fa, fp, rfl, hflr⟩ hle hm; have hleI2 := hle; try simp only [setn] at hm; have hpt2 := hpt.le hleI2)
      | (refine mt_box (d := 23) hm (by rfl) (by rfl) (by rfl) (by rfl) ?_; clear hm; intro bc _ hm)
      | refine mw_loadAll hR (by rfl) (by rfl) (by rfl) (by first | exact gt0 | exact gt1 | exact gt2 | exact gt3 | exact gt4 | exact gt5 | exact gt6) (by rfl) ?_
      | refine mw_load1 hR (by rfl) (by rfl) (by rfl) (by first | exact gt0 | exact gt1 | exact gt2 | exact gt3 | exact gt4 | exact gt5 | exact gt6) (by rfl) ?_
      | refine iw_load1 hR (by rfl) (by rfl) (by rfl) (by assumption) (by rfl) ?_
      | refine mt_struct hm (by rfl) (by rfl) (by rfl) (by rfl) ?_
      | refine iw_loadN hR (by rfl) (by rfl) (by rfl) (by assumption) (by rfl) ?_
      | (refine mt_push (d := 55) hm (by rfl) (by rfl) (by rfl) (by rfl) (by rfl) (by first | exact gt0 | exact gt1 | exact gt2 | exact gt3 | exact gt4 | exact gt5 | exact gt6) (by rfl) (by rfl) (by rfl) (by rfl) (by omega) (by omega) ?_; clear hm; intro a55 cp55 _ _ hm; replace hm := hR.back hm; clear hR; try simp only [setn] at hm)
      | (refine ws_nil ?_; replace hm := hR.back hm; clear hR; try simp only [setn] at hm)
      | (refine m_box (d := 23) hm (by rfl) (by rfl) (by rfl) (by rfl) ?_; clear hm; intro b23 _ hm)
      | (refine m_varS (d := 9) hm (by rfl) (by rfl) (by rfl) (by rfl) (by rfl) ?_; clear hm; intro b9 _ hm)
      | (refine m_var1 (d := 9) hm (by rfl) (by rfl) (by rfl) (by rfl) (by rfl) ?_; clear hm; intro b9 _ hm)
      | (refine m_push (d := 55) hm (by rfl) (by rfl) (by rfl) (by rfl) (by rfl) (by first | exact gt0 | exact gt1 | exact gt2 | exact gt3 | exact gt4 | exact gt5 | exact gt6) (by rfl) (by rfl) (by rfl) (by rfl) (by omega) (by omega) ?_; clear hm; intro a55 cp55 _ _ hm; try simp only [setn] at hm)
      | refine m_load1 hm (by rfl) (by rfl) (by rfl) (by first | exact gt0 | exact gt1 | exact gt2 | exact gt3 | exact gt4 | exact gt5 | exact gt6) (by rfl) ?_
      | refine i_load1 hm (by rfl) (by rfl) (by rfl) (by assumption) (by rfl) ?_
      | refine m_loadAll hm (by rfl) (by rfl) (by rfl) (by first | exact gt0 | exact gt1 | exact gt2 | exact gt3 | exact gt4 | exact gt5 | exact gt6) (by rfl) ?_
      | refine i_loadN hm (by rfl) (by rfl) (by rfl) (by assumption) (by rfl) ?_
      | refine i_load1z hm (by rfl) (by rfl) (by rfl) (by assumption) (by rfl) ?_
      | refine mq_load1 hm (by rfl) (by rfl) (by rfl) (by first | exact gt0 | exact gt1 | exact gt2 | exact gt3 | exact gt4 | exact gt5 | exact gt6) (by rfl) ?_
      | refine iq_load1 hm (by rfl) (by rfl) (by rfl) (by assumption) (by rfl) ?_
      | refine mq_loadAll hm (by rfl) (by rfl) (by rfl) (by first | exact gt0 | exact gt1 | exact gt2 | exact gt3 | exact gt4 | exact gt5 | exact gt6) (by rfl) ?_
      | refine iq_loadN hm (by rfl) (by rfl) (by rfl) (by assumption) (by rfl) ?_
      | refine iq_load1z hm (by rfl) (by rfl) (by rfl) (by assumption) (by rfl) ?_
      | (refine m_storeAll hm (by rfl) (by rfl) (by rfl) (by rfl) (by first | exact gt0 | exact gt1 | exact gt2 | exact gt3 | exact gt4 | exact gt5 | exact gt6) (by rfl) (by rfl) (by rfl) ?_; clear hm; intro _ hm; try simp only [setn] at hm)
      | (refine m_store1 hm (by rfl) (by rfl) (by rfl) (by rfl) (by first | exact gt0 | exact gt1 | exact gt2 | exact gt3 | exact gt4 | exact gt5 | exact gt6) (by rfl) (by rfl) (by rfl) ?_; clear hm; intro _ hm; try simp only [setn] at hm)
      | (refine m_storeN hm (by rfl) (by rfl) (by rfl) (by rfl) (by first | exact gt0 | exact gt1 | exact gt2 | exact gt3 | exact gt4 | exact gt5 | exact gt6) (by rfl) (by rfl) (by rfl) ?_; clear hm; intro _ hm; try simp only [setn] at hm)
      | refine m_ret_agg hm (by rfl) (by rfl) (by first | exact gt0 | exact gt1 | exact gt2 | exact gt3 | exact gt4 | exact gt5 | exact gt6) (by rfl) ?_
      | refine m_ret2_agg hm (by rfl) (by rfl) (by rfl) (by first | exact gt0 | exact gt1 | exact gt2 | exact gt3 | exact gt4 | exact gt5 | exact gt6) (by rfl) ?_
      | refine op_move (by rfl) (by rfl) (by rfl) ?_
      | refine op_assign (by rfl) (by rfl) (by rfl) ?_
      | refine op_lss (by rfl) (by rfl) (by rfl) (by rfl) ?_
      | refine op_eql (by rfl) (by rfl) (by rfl) (by rfl) ?_
      | refine op_eql_str (by rfl) (by rfl) (by rfl) (by rfl) ?_
      | refine op_eql_bool (by rfl) (by rfl) (by rfl) (by rfl) ?_
      | refine op_eql_flat (by rfl) (by rfl) (by rfl) (by rfl) (by rfl) (by rfl) ?_
      | refine op_len_str (by rfl) (by rfl) (by rfl) ?_
      | refine op_len_slice (by rfl) (by rfl) (by rfl) ?_
      | refine op_nilCheck (by rfl) (by rfl) (by rfl) ?_
      | refine op_add (by rfl) (by rfl) (by rfl) (by rfl) (by omega) ?_
      | refine op_add_u8 (by rfl) (by rfl) (by rfl) (by rfl) (by omega) ?_
      | refine op_indexAddr_arr (by rfl) (by rfl) (by rfl) (by rfl) (by omega) (by omega) ?_
      | refine op_fieldAddr (by rfl) (by rfl) (by rfl) ?_
      | refine op_indexAddr (by rfl) (by rfl) (by rfl) (by rfl) (by omega) (by omega) ?_
      | refine op_load1 (by rfl) (by rfl) (by rfl) (by assumption) (by rfl) ?_
      | refine op_struct (by rfl) (by rfl) (by rfl) (by rfl) ?_
      | refine op_build (by rfl) (by rfl) (by rfl) (fun _ => (by rfl)) ?_
      | refine wl_nil ?_
      | refine at_then_normal ?_
      | refine at_then_ret ?_
      | refine at_then_exit ?_
      | refine at_block_normal ?_
      | refine at_block_ret ?_
      | refine at_block_exit ?_
      | refine at_block_other (by rfl) ?_
      | refine wc_seq ?_
      | refine wc_region ?_
      | refine wc_block ?_
      | refine wc_skip ?_
      | refine wc_exit ?_
      | refine wc_ret ?_
      | refine at_ret1 (by rfl) (by rfl) ?_
      | refine wc_quiet (by kernel_rfl) ?_
      | (refine wq_nil ?_; intro _ hkq; replace hm := hm.kept0 hkq; clear hkq)
      | (refine wq_nil_tail ?_; intro _ hkq; replace hm := hm.kept0 hkq; clear hkq)
      | refine wc_cond_true (by rfl) ?_
      | refine wc_cond_false (by rfl) ?_
      | (refine wc_cond_dec (by rfl) (fun _ => ?_) (fun _ => ?_) <;> (try first | contradiction | (exfalso; omega)))
      | refine wc_cond (by rfl) (fun _ => ?_) (fun _ => ?_)
      | refine q_move (by rfl) (by rfl) (by rfl) ?_
      | refine q_assign (by rfl) (by rfl) (by rfl) ?_
      | refine q_lss (by rfl) (by rfl) (by rfl) (by rfl) ?_
      | refine q_eql (by rfl) (by rfl) (by rfl) (by rfl) ?_
      | refine q_eql_str (by rfl) (by rfl) (by rfl) (by rfl) ?_
      | refine q_eql_bool (by rfl) (by rfl) (by rfl) (by rfl) ?_
      | refine q_eql_flat (by rfl) (by rfl) (by rfl) (by rfl) (by rfl) (by rfl) ?_
      | refine q_len_str (by rfl) (by rfl) (by rfl) ?_
      | refine q_len_slice (by rfl) (by rfl) (by rfl) ?_
      | refine q_nilCheck (by rfl) (by rfl) (by rfl) ?_
      | refine q_add (by rfl) (by rfl) (by rfl) (by rfl) (by omega) ?_
      | refine q_add_u8 (by rfl) (by rfl) (by rfl) (by rfl) (by omega) ?_
      | refine q_indexAddr_arr (by rfl) (by rfl) (by rfl) (by rfl) (by omega) (by omega) ?_
      | refine q_fieldAddr (by rfl) (by rfl) (by rfl) ?_
      | refine q_indexAddr (by rfl) (by rfl) (by rfl) (by rfl) (by omega) (by omega) ?_
      | refine q_load1 (by rfl) (by rfl) (by rfl) (by assumption) (by rfl) ?_
      | refine q_struct (by rfl) (by rfl) (by rfl) (by rfl) ?_
      | refine q_build (by rfl) (by rfl) (by rfl) (fun _ => (by rfl)) ?_
      | refine v_move (by rfl) (by rfl) (by rfl) ?_
      | refine v_assign (by rfl) (by rfl) (by rfl) ?_
      | refine v_lss (by rfl) (by rfl) (by rfl) (by rfl) ?_
      | refine v_eql (by rfl) (by rfl) (by rfl) (by rfl) ?_
      | refine v_eql_str (by rfl) (by rfl) (by rfl) (by rfl) ?_
      | refine v_eql_bool (by rfl) (by rfl) (by rfl) (by rfl) ?_
      | refine v_eql_flat (by rfl) (by rfl) (by rfl) (by rfl) (by rfl) (by rfl) ?_
      | refine v_len_str (by rfl) (by rfl) (by rfl) ?_
      | refine v_len_slice (by rfl) (by rfl) (by rfl) ?_
      | refine v_nilCheck (by rfl) (by rfl) (by rfl) ?_
      | refine v_add (by rfl) (by rfl) (by rfl) (by rfl) (by omega) ?_
      | refine v_add_u8 (by rfl) (by rfl) (by rfl) (by rfl) (by omega) ?_
      | refine v_indexAddr_arr (by rfl) (by rfl) (by rfl) (by rfl) (by omega) (by omega) ?_
      | refine v_fieldAddr (by rfl) (by rfl) (by rfl) ?_
      | refine v_indexAddr (by rfl) (by rfl) (by rfl) (by rfl) (by omega) (by omega) ?_
      | refine v_load1 (by rfl) (by rfl) (by rfl) (by assumption) (by rfl) ?_
      | refine v_struct (by rfl) (by rfl) (by rfl) (by rfl) ?_
      | refine v_build (by rfl) (by rfl) (by rfl) (fun _ => (by rfl)) ?_
      | refine wv_nil ?_
      | refine ws_nil ?_)
    all_goals try (exfalso; omega)
    exact ⟨I2, _, ⟨bc, _, _, [], none, 0, none, 0, rfl, rfl⟩, ((hm.nil 116 4).swap.nil 198 2).swap⟩
  rw [if_pos k2] at hck
  repeat' (first
    | (refine wc_semi_memL (id := 1) (hm.perm pm0) [0,1,2,3,4,5,6,7,8,9,11] [10,12,13] 14 (by kernel_rfl) ?_; clear hm; intro wd hR hm)
    | (refine iw_indexAddr (d := 16) (by rfl) (by rfl) (by rfl) (by rfl) hri (by omega) (by omega) ?_; intro bt ot hpt; rw [show ((i : Int).toNat * 10) = i * 10 from rfl, hci] at hpt)
    | (refine iw_loadN (d := 19) hR (by rfl) (by rfl) (by rfl) hfile (by rfl) ?_)
    | (refine mt_call (d := 20) hm (by rfl) (by rfl) (by rfl) (by first | exact pm0 | exact pm1_0 | exact pm1_1 | exact pm1_2 | exact pm1_3 | exact pm2_0 | exact pm2_1 | exact pm2_2 | exact pm2_3 | exact pm2_4 | exact pm3_0 | exact pm3_1 | exact pm3_2) (hfl I (Le.refl _)) ?_; clear hm; rintro _ I2 _ _ ⟨rfl, fa, fp, rfl, hflr⟩ hle hm; have hleI2 := hle; try simp only [setn] at hm; have hpt2 := hpt.le hleI2)
    | (refine mt_box (d := 23) hm (by rfl) (by rfl) (by rfl) (by rfl) ?_; clear hm; intro bc _ hm)
    | refine mw_loadAll hR (by rfl) (by rfl) (by rfl) (by first | exact gt0 | exact gt1 | exact gt2 | exact gt3 | exact gt4 | exact gt5 | exact gt6) (by rfl) ?_
    | refine mw_load1 hR (by rfl) (by rfl) (by rfl) (by first | exact gt0 | exact gt1 | exact gt2 | exact gt3 | exact gt4 | exact gt5 | exact gt6) (by rfl) ?_
    | refine iw_load1 hR (by rfl) (by rfl) (by rfl) (by assumption) (by rfl) ?_
    | refine mt_struct hm (by rfl) (by rfl) (by rfl) (by rfl) ?_
    | refine iw_loadN hR (by rfl) (by rfl) (by rfl) (by assumption) (by rfl) ?_
    | (refine mt_push (d := 55) hm (by rfl) (by rfl) (by rfl) (by rfl) (by rfl) (by first | exact gt0 | exact gt1 | exact gt2 | exact gt3 | exact gt4 | exact gt5 | exact gt6) (by rfl) (by rfl) (by rfl) (by rfl) (by omega) (by omega) ?_; clear hm; intro a55 cp55 _ _ hm; replace hm := hR.back hm; clear hR; try simp only [setn] at hm)
    | (refine ws_nil ?_; replace hm := hR.back hm; clear hR; try simp only [setn] at hm)
    | (refine m_box (d := 23) hm (by rfl) (by rfl) (by rfl) (by rfl) ?_; clear hm; intro b23 _ hm)
    | (refine m_varS (d := 9) hm (by rfl) (by rfl) (by rfl) (by rfl) (by rfl) ?_; clear hm; intro b9 _ hm)
    | (refine m_var1 (d := 9) hm (by rfl) (by rfl) (by rfl) (by rfl) (by rfl) ?_; clear hm; intro b9 _ hm)
    | (refine m_push (d := 55) hm (by rfl) (by rfl) (by rfl) (by rfl) (by rfl) (by first | exact gt0 | exact gt1 | exact gt2 | exact gt3 | exact gt4 | exact gt5 | exact gt6) (by rfl) (by rfl) (by rfl) (by rfl) (by omega) (by omega) ?_; clear hm; intro a55 cp55 _ _ hm; try simp only [setn] at hm)
    | refine m_load1 hm (by rfl) (by rfl) (by rfl) (by first | exact gt0 | exact gt1 | exact gt2 | exact gt3 | exact gt4 | exact gt5 | exact gt6) (by rfl) ?_
    | refine i_load1 hm (by rfl) (by rfl) (by rfl) (by assumption) (by rfl) ?_
    | refine m_loadAll hm (by rfl) (by rfl) (by rfl) (by first | exact gt0 | exact gt1 | exact gt2 | exact gt3 | exact gt4 | exact gt5 | exact gt6) (by rfl) ?_
    | refine i_loadN hm (by rfl) (by rfl) (by rfl) (by assumption) (by rfl) ?_
    | refine i_load1z hm (by rfl) (by rfl) (by rfl) (by assumption) (by rfl) ?_
    | refine mq_load1 hm (by rfl) (by rfl) (by rfl) (by first | exact gt0 | exact gt1 | exact gt2 | exact gt3 | exact gt4 | exact gt5 | exact gt6) (by rfl) ?_
    | refine iq_load1 hm (by rfl) (by rfl) (by rfl) (by assumption) (by rfl) ?_
    | refine mq_loadAll hm (by rfl) (by rfl) (by rfl) (by first | exact gt0 | exact gt1 | exact gt2 | exact gt3 | exact gt4 | exact gt5 | exact gt6) (by rfl) ?_
    | refine iq_loadN hm (by rfl) (by rfl) (by rfl) (by assumption) (by rfl) ?_
    | refine iq_load1z hm (by rfl) (by rfl) (by rfl) (by assumption) (by rfl) ?_
    | (refine m_storeAll hm (by rfl) (by rfl) (by rfl) (by rfl) (by first | exact gt0 | exact gt1 | exact gt2 | exact gt3 | exact gt4 | exact gt5 | exact gt6) (by rfl) (by rfl) (by rfl) ?_; clear hm; intro _ hm; try simp only [setn] at hm)
    | (refine m_store1 hm (by rfl) (by rfl) (by rfl) (by rfl) (by first | exact gt0 | exact gt1 | exact gt2 | exact gt3 | exact gt4 | exact gt5 | exact gt6) (by rfl) (by rfl) (by rfl) ?_; clear hm; intro _ hm; try simp only [setn] at hm)
    | (refine m_storeN hm (by rfl) (by rfl) (by rfl) (by rfl) (by first | exact gt0 | exact gt1 | exact gt2 | exact gt3 | exact gt4 | exact gt5 | exact gt6) (by rfl) (by rfl) (by rfl) ?_; clear hm; intro _ hm; try simp only [setn] at hm)
    | refine m_ret_agg hm (by rfl) (by rfl) (by first | exact gt0 | exact gt1 | exact gt2 | exact gt3 | exact gt4 | exact gt5 | exact gt6) (by rfl) ?_
    | refine m_ret2_agg hm (by rfl) (by rfl) (by rfl) (by first | exact gt0 | exact gt1 | exact gt2 | exact gt3 | exact gt4 | exact gt5 | exact gt6) (by rfl) ?_
    | refine op_move (by rfl) (by rfl) (by rfl) ?_
    | refine op_assign (by rfl) (by rfl) (by rfl) ?_
    | refine op_lss (by rfl) (by rfl) (by rfl) (by rfl) ?_
    | refine op_eql (by rfl) (by rfl) (by rfl) (by rfl) ?_
    | refine op_eql_str (by rfl) (by rfl) (by rfl) (by rfl) ?_
    | refine op_eql_bool (by rfl) (by rfl) (by rfl) (by rfl) ?_
    | refine op_eql_flat (by rfl) (by rfl) (by rfl) (by rfl) (by rfl) (by rfl) ?_
    | refine op_len_str (by rfl) (by rfl) (by rfl) ?_
    | refine op_len_slice (by rfl) (by rfl) (by rfl) ?_
    | refine op_nilCheck (by rfl) (by rfl) (by rfl) ?_
    | refine op_add (by rfl) (by rfl) (by rfl) (by rfl) (by omega) ?_
    | refine op_add_u8 (by rfl) (by rfl) (by rfl) (by rfl) (by omega) ?_
    | refine op_indexAddr_arr (by rfl) (by rfl) (by rfl) (by rfl) (by omega) (by omega) ?_
    | refine op_fieldAddr (by rfl) (by rfl) (by rfl) ?_
    | refine op_indexAddr (by rfl) (by rfl) (by rfl) (by rfl) (by omega) (by omega) ?_
    | refine op_load1 (by rfl) (by rfl) (by rfl) (by assumption) (by rfl) ?_
    | refine op_struct (by rfl) (by rfl) (by rfl) (by rfl) ?_
    | refine op_build (by rfl) (by rfl) (by rfl) (fun _ => (by rfl)) ?_
    | refine wl_nil ?_
    | refine at_then_normal ?_
    | refine at_then_ret ?_
    | refine at_then_exit ?_
    | refine at_block_normal ?_
    | refine at_block_ret ?_
    | refine at_block_exit ?_
    | refine at_block_other (by rfl) ?_
    | refine wc_seq ?_
    | refine wc_region ?_
    | refine wc_block ?_
    | refine wc_skip ?_
    | refine wc_exit ?_
    | refine wc_ret ?_
    | refine at_ret1 (by rfl) (by rfl) ?_
    | refine wc_quiet (by kernel_rfl) ?_
    | (refine wq_nil ?_; intro _ hkq; replace hm := hm.kept0 hkq; clear hkq)
    | (refine wq_nil_tail ?_; intro _ hkq; replace hm := hm.kept0 hkq; clear hkq)
    | refine wc_cond_true (by rfl) ?_
    | refine wc_cond_false (by rfl) ?_
    | (refine wc_cond_dec (by rfl) (fun _ => ?_) (fun _ => ?_) <;> (try first | contradiction | (exfalso; omega)))
    | refine wc_cond (by rfl) (fun _ => ?_) (fun _ => ?_)
    | refine q_move (by rfl) (by rfl) (by rfl) ?_
    | refine q_assign (by rfl) (by rfl) (by rfl) ?_
    | refine q_lss (by rfl) (by rfl) (by rfl) (by rfl) ?_
    | refine q_eql (by rfl) (by rfl) (by rfl) (by rfl) ?_
    | refine q_eql_str (by rfl) (by rfl) (by rfl) (by rfl) ?_
    | refine q_eql_bool (by rfl) (by rfl) (by rfl) (by rfl) ?_
    | refine q_eql_flat (by rfl) (by rfl) (by rfl) (by rfl) (by rfl) (by rfl) ?_
    | refine q_len_str (by rfl) (by rfl) (by rfl) ?_
    | refine q_len_slice (by rfl) (by rfl) (by rfl) ?_
    | refine q_nilCheck (by rfl) (by rfl) (by rfl) ?_
    | refine q_add (by rfl) (by rfl) (by rfl) (by rfl) (by omega) ?_
    | refine q_add_u8 (by rfl) (by rfl) (by rfl) (by rfl) (by omega) ?_
    | refine q_indexAddr_arr (by rfl) (by rfl) (by rfl) (by rfl) (by omega) (by omega) ?_
    | refine q_fieldAddr (by rfl) (by rfl) (by rfl) ?_
    | refine q_indexAddr (by rfl) (by rfl) (by rfl) (by rfl) (by omega) (by omega) ?_
    | refine q_load1 (by rfl) (by rfl) (by rfl) (by assumption) (by rfl) ?_
    | refine q_struct (by rfl) (by rfl) (by rfl) (by rfl) ?_
    | refine q_build (by rfl) (by rfl) (by rfl) (fun _ => (by rfl)) ?_
    | refine v_move (by rfl) (by rfl) (by rfl) ?_
    | refine v_assign (by rfl) (by rfl) (by rfl) ?_
    | refine v_lss (by rfl) (by rfl) (by rfl) (by rfl) ?_
    | refine v_eql (by rfl) (by rfl) (by rfl) (by rfl) ?_
    | refine v_eql_str (by rfl) (by rfl) (by rfl) (by rfl) ?_
    | refine v_eql_bool (by rfl) (by rfl) (by rfl) (by rfl) ?_
    | refine v_eql_flat (by rfl) (by rfl) (by rfl) (by rfl) (by rfl) (by rfl) ?_
    | refine v_len_str (by rfl) (by rfl) (by rfl) ?_
    | refine v_len_slice (by rfl) (by rfl) (by rfl) ?_
    | refine v_nilCheck (by rfl) (by rfl) (by rfl) ?_
    | refine v_add (by rfl) (by rfl) (by rfl) (by rfl) (by omega) ?_
    | refine v_add_u8 (by rfl) (by rfl) (by rfl) (by rfl) (by omega) ?_
    | refine v_indexAddr_arr (by rfl) (by rfl) (by rfl) (by rfl) (by omega) (by omega) ?_
    | refine v_fieldAddr (by rfl) (by rfl) (by rfl) ?_
    | refine v_indexAddr (by rfl) (by rfl) (by rfl) (by rfl) (by omega) (by omega) ?_
    | refine v_load1 (by rfl) (by rfl) (by rfl) (by assumption) (by rfl) ?_
    | refine v_struct (by rfl) (by rfl) (by rfl) (by rfl) ?_
    | refine v_build (by rfl) (by rfl) (by rfl) (fun _ => (by rfl)) ?_
    | refine wv_nil ?_
    | refine ws_nil ?_)
  all_goals try (exfalso; omega)
  have hC2 : FC I2 its it bf a cp xs (.pointer (some ⟨bt, ot, none⟩)) (.slice fa its.length fp) := ⟨hfile.le hleI2, h.le hleI2, ⟨bt, ot, _, _, rfl, hpt2, hat0.le hleI2⟩, ⟨fa, fp, rfl, hflr⟩, hlab, hlb.1⟩
  have hpar2 := hpar.le hleI2
  refine wc_loop (fun x : FX => [(0, ptr bf), (1, nt i), (2, .int .i64 at_), (7, ptr bc), (38, .slice pa it.params.length pc), (39, nt it.params.length), (40, nt x.k)])
    (fun x w' => Mem E I2 (FSt bc bf (.pointer (some ⟨bt, ot, none⟩)) (Sp.parsF (it.params.take x.k)) x.sa x.sp Sp.FW0 none 0 (.slice fa its.length fp) at_) w' ∧ x.k ≤ it.params.length) (fun x => it.params.length - x.k) ⟨0, I2, none, 0, none, 0⟩
    (by exact ⟨rfl, rfl, rfl, rfl, rfl, rfl, rfl, trivial⟩) ⟨((hm.nil 116 4).swap.nil 198 2).swap, Nat.zero_le _⟩ ?_
  clear hm
  rintro ⟨k, _, sa1, sp1, _, _⟩ w1 ⟨hm, hk⟩
  dsimp only at hm hk ⊢
  by_cases hlt : k < it.params.length
  · have hgp : it.params[k]? = some it.params[k] := List.getElem?_eq_getElem hlt
    generalize it.params[k] = p at hgp
    have hst := Sp.parsF_take hgp
    have hpl : (Sp.parsF (it.params.take k)).length = k := by rw [Sp.parsF, List.length_map, List.length_take]; omega
    generalize Sp.parsF (it.params.take k) = sc at hm hst hpl
    repeat' (first
      | (refine i_indexFlat (d := 42) (enc := encPar) (z := p) (by rfl) (by rfl) (by rfl) (by rfl) hpar2 (fun _ => rfl) (by omega) (by omega) (by exact hgp) ?_; intro bz oz hpz)
      | (refine wc_semi_mem (id := 6) (hm.perm pm1_2) 10 12 (by kernel_rfl) ?_; clear hm; intro wd hR hm)
      | refine mw_loadAll hR (by rfl) (by rfl) (by rfl) (by first | exact gt0 | exact gt1 | exact gt2 | exact gt3 | exact gt4 | exact gt5 | exact gt6) (by rfl) ?_
      | refine mw_load1 hR (by rfl) (by rfl) (by rfl) (by first | exact gt0 | exact gt1 | exact gt2 | exact gt3 | exact gt4 | exact gt5 | exact gt6) (by rfl) ?_
      | refine iw_load1 hR (by rfl) (by rfl) (by rfl) (by assumption) (by rfl) ?_
      | refine mt_struct hm (by rfl) (by rfl) (by rfl) (by rfl) ?_
      | refine iw_loadN hR (by rfl) (by rfl) (by rfl) (by assumption) (by rfl) ?_
      | (refine mt_push (d := 55) hm (by rfl) (by rfl) (by rfl) (by rfl) (by rfl) (by first | exact gt0 | exact gt1 | exact gt2 | exact gt3 | exact gt4 | exact gt5 | exact gt6) (by rfl) (by rfl) (by rfl) (by rfl) (by omega) (by omega) ?_; clear hm; intro a55 cp55 _ _ hm; replace hm := hR.back hm; clear hR; try simp only [setn] at hm)
      | (refine ws_nil ?_; replace hm := hR.back hm; clear hR; try simp only [setn] at hm)
      | (refine m_box (d := 23) hm (by rfl) (by rfl) (by rfl) (by rfl) ?_; clear hm; intro b23 _ hm)
      | (refine m_varS (d := 9) hm (by rfl) (by rfl) (by rfl) (by rfl) (by rfl) ?_; clear hm; intro b9 _ hm)
      | (refine m_var1 (d := 9) hm (by rfl) (by rfl) (by rfl) (by rfl) (by rfl) ?_; clear hm; intro b9 _ hm)
      | (refine m_push (d := 55) hm (by rfl) (by rfl) (by rfl) (by rfl) (by rfl) (by first | exact gt0 | exact gt1 | exact gt2 | exact gt3 | exact gt4 | exact gt5 | exact gt6) (by rfl) (by rfl) (by rfl) (by rfl) (by omega) (by omega) ?_; clear hm; intro a55 cp55 _ _ hm; try simp only [setn] at hm)
      | refine m_load1 hm (by rfl) (by rfl) (by rfl) (by first | exact gt0 | exact gt1 | exact gt2 | exact gt3 | exact gt4 | exact gt5 | exact gt6) (by rfl) ?_
      | refine i_load1 hm (by rfl) (by rfl) (by rfl) (by assumption) (by rfl) ?_
      | refine m_loadAll hm (by rfl) (by rfl) (by rfl) (by first | exact gt0 | exact gt1 | exact gt2 | exact gt3 | exact gt4 | exact gt5 | exact gt6) (by rfl) ?_
      | refine i_loadN hm (by rfl) (by rfl) (by rfl) (by assumption) (by rfl) ?_
      | refine i_load1z hm (by rfl) (by rfl) (by rfl) (by assumption) (by rfl) ?_
      | refine mq_load1 hm (by rfl) (by rfl) (by rfl) (by first | exact gt0 | exact gt1 | exact gt2 | exact gt3 | exact gt4 | exact gt5 | exact gt6) (by rfl) ?_
      | refine iq_load1 hm (by rfl) (by rfl) (by rfl) (by assumption) (by rfl) ?_
      | refine mq_loadAll hm (by rfl) (by rfl) (by rfl) (by first | exact gt0 | exact gt1 | exact gt2 | exact gt3 | exact gt4 | exact gt5 | exact gt6) (by rfl) ?_
      | refine iq_loadN hm (by rfl) (by rfl) (by rfl) (by assumption) (by rfl) ?_
      | refine iq_load1z hm (by rfl) (by rfl) (by rfl) (by assumption) (by rfl) ?_
      | (refine m_storeAll hm (by rfl) (by rfl) (by rfl) (by rfl) (by first | exact gt0 | exact gt1 | exact gt2 | exact gt3 | exact gt4 | exact gt5 | exact gt6) (by rfl) (by rfl) (by rfl) ?_; clear hm; intro _ hm; try simp only [setn] at hm)
      | (refine m_store1 hm (by rfl) (by rfl) (by rfl) (by rfl) (by first | exact gt0 | exact gt1 | exact gt2 | exact gt3 | exact gt4 | exact gt5 | exact gt6) (by rfl) (by rfl) (by rfl) ?_; clear hm; intro _ hm; try simp only [setn] at hm)
      | (refine m_storeN hm (by rfl) (by rfl) (by rfl) (by rfl) (by first | exact gt0 | exact gt1 | exact gt2 | exact gt3 | exact gt4 | exact gt5 | exact gt6) (by rfl) (by rfl) (by rfl) ?_; clear hm; intro _ hm; try simp only [setn] at hm)
      | refine m_ret_agg hm (by rfl) (by rfl) (by first | exact gt0 | exact gt1 | exact gt2 | exact gt3 | exact gt4 | exact gt5 | exact gt6) (by rfl) ?_
      | refine m_ret2_agg hm (by rfl) (by rfl) (by rfl) (by first | exact gt0 | exact gt1 | exact gt2 | exact gt3 | exact gt4 | exact gt5 | exact gt6) (by rfl) ?_
      | refine op_move (by rfl) (by rfl) (by rfl) ?_
      | refine op_assign (by rfl) (by rfl) (by rfl) ?_
      | refine op_lss (by rfl) (by rfl) (by rfl) (by rfl) ?_
      | refine op_eql (by rfl) (by rfl) (by rfl) (by rfl) ?_
      | refine op_eql_str (by rfl) (by rfl) (by rfl) (by rfl) ?_
      | refine op_eql_bool (by rfl) (by rfl) (by rfl) (by rfl) ?_
      | refine op_eql_flat (by rfl) (by rfl) (by rfl) (by rfl) (by rfl) (by rfl) ?_
      | refine op_len_str (by rfl) (by rfl) (by rfl) ?_
      | refine op_len_slice (by rfl) (by rfl) (by rfl) ?_
      | refine op_nilCheck (by rfl) (by rfl) (by rfl) ?_
      | refine op_add (by rfl) (by rfl) (by rfl) (by rfl) (by omega) ?_
      | refine op_add_u8 (by rfl) (by rfl) (by rfl) (by rfl) (by omega) ?_
      | refine op_indexAddr_arr (by rfl) (by rfl) (by rfl) (by rfl) (by omega) (by omega) ?_
      | refine op_fieldAddr (by rfl) (by rfl) (by rfl) ?_
      | refine op_indexAddr (by rfl) (by rfl) (by rfl) (by rfl) (by omega) (by omega) ?_
      | refine op_load1 (by rfl) (by rfl) (by rfl) (by assumption) (by rfl) ?_
      | refine op_struct (by rfl) (by rfl) (by rfl) (by rfl) ?_
      | refine op_build (by rfl) (by rfl) (by rfl) (fun _ => (by rfl)) ?_
      | refine wl_nil ?_
      | refine at_then_normal ?_
      | refine at_then_ret ?_
      | refine at_then_exit ?_
      | refine at_block_normal ?_
      | refine at_block_ret ?_
      | refine at_block_exit ?_
      | refine at_block_other (by rfl) ?_
      | refine wc_seq ?_
      | refine wc_region ?_
      | refine wc_block ?_
      | refine wc_skip ?_
      | refine wc_exit ?_
      | refine wc_ret ?_
      | refine at_ret1 (by rfl) (by rfl) ?_
      | refine wc_quiet (by kernel_rfl) ?_
      | (refine wq_nil ?_; intro _ hkq; replace hm := hm.kept0 hkq; clear hkq)
      | (refine wq_nil_tail ?_; intro _ hkq; replace hm := hm.kept0 hkq; clear hkq)
      | refine wc_cond_true (by rfl) ?_
      | refine wc_cond_false (by rfl) ?_
      | (refine wc_cond_dec (by rfl) (fun _ => ?_) (fun _ => ?_) <;> (try first | contradiction | (exfalso; omega)))
      | refine wc_cond (by rfl) (fun _ => ?_) (fun _ => ?_)
      | refine q_move (by rfl) (by rfl) (by rfl) ?_
      | refine q_assign (by rfl) (by rfl) (by rfl) ?_
      | refine q_lss (by rfl) (by rfl) (by rfl) (by rfl) ?_
      | refine q_eql (by rfl) (by rfl) (by rfl) (by rfl) ?_
      | refine q_eql_str (by rfl) (by rfl) (by rfl) (by rfl) ?_
      | refine q_eql_bool (by rfl) (by rfl) (by rfl) (by rfl) ?_
      | refine q_eql_flat (by rfl) (by rfl) (by rfl) (by rfl) (by rfl) (by rfl) ?_
      | refine q_len_str (by rfl) (by rfl) (by rfl) ?_
      | refine q_len_slice (by rfl) (by rfl) (by rfl) ?_
      | refine q_nilCheck (by rfl) (by rfl) (by rfl) ?_
      | refine q_add (by rfl) (by rfl) (by rfl) (by rfl) (by omega) ?_
      | refine q_add_u8 (by rfl) (by rfl) (by rfl) (by rfl) (by omega) ?_
      | refine q_indexAddr_arr (by rfl) (by rfl) (by rfl) (by rfl) (by omega) (by omega) ?_
      | refine q_fieldAddr (by rfl) (by rfl) (by rfl) ?_
      | refine q_indexAddr (by rfl) (by rfl) (by rfl) (by rfl) (by omega) (by omega) ?_
      | refine q_load1 (by rfl) (by rfl) (by rfl) (by assumption) (by rfl) ?_
      | refine q_struct (by rfl) (by rfl) (by rfl) (by rfl) ?_
      | refine q_build (by rfl) (by rfl) (by rfl) (fun _ => (by rfl)) ?_
      | refine v_move (by rfl) (by rfl) (by rfl) ?_
      | refine v_assign (by rfl) (by rfl) (by rfl) ?_
      | refine v_lss (by rfl) (by rfl) (by rfl) (by rfl) ?_
      | refine v_eql (by rfl) (by rfl) (by rfl) (by rfl) ?_
      | refine v_eql_str (by rfl) (by rfl) (by rfl) (by rfl) ?_
      | refine v_eql_bool (by rfl) (by rfl) (by rfl) (by rfl) ?_
      | refine v_eql_flat (by rfl) (by rfl) (by rfl) (by rfl) (by rfl) (by rfl) ?_
      | refine v_len_str (by rfl) (by rfl) (by rfl) ?_
      | refine v_len_slice (by rfl) (by rfl) (by rfl) ?_
      | refine v_nilCheck (by rfl) (by rfl) (by rfl) ?_
      | refine v_add (by rfl) (by rfl) (by rfl) (by rfl) (by omega) ?_
      | refine v_add_u8 (by rfl) (by rfl) (by rfl) (by rfl) (by omega) ?_
      | refine v_indexAddr_arr (by rfl) (by rfl) (by rfl) (by rfl) (by omega) (by omega) ?_
      | refine v_fieldAddr (by rfl) (by rfl) (by rfl) ?_
      | refine v_indexAddr (by rfl) (by rfl) (by rfl) (by rfl) (by omega) (by omega) ?_
      | refine v_load1 (by rfl) (by rfl) (by rfl) (by assumption) (by rfl) ?_
      | refine v_struct (by rfl) (by rfl) (by rfl) (by rfl) ?_
      | refine v_build (by rfl) (by rfl) (by rfl) (fun _ => (by rfl)) ?_
      | refine wv_nil ?_
      | refine ws_nil ?_)
    all_goals try (exfalso; omega)
    refine at_round (⟨k + 1, I2, a55, cp55, none, 0⟩ : FX) (by exact ⟨rfl, rfl, rfl, rfl, rfl, rfl, rfl, trivial⟩) ⟨?_, by dsimp only; omega⟩ (by dsimp only; omega)
    dsimp only
    rw [hst, ← FSt_snoc]
    exact ((hm.front 1 rfl).tl).swap
  · obtain rfl : k = it.params.length := by omega
    rw [List.take_length] at hm
    have hsl := Sp.parsF_lab hlab hmem
    have hpl : (Sp.parsF it.params).length = it.params.length := by rw [Sp.parsF, List.length_map]
    have hcn := hIt.cnt
    have hblk := f_blk (its := its) (it := it) (bc := bc) (bf := bf) (a := a) (cp := cp) (xs := xs) (pi := .pointer (some ⟨bt, ot, none⟩)) (vf := .slice fa its.length fp) (at_ := at_) _ it.body (Nat.le_refl _) (by omega) hIt.small.stms hIt.body I2 ba bc9 xb 0 (Sp.parsF it.params) Sp.FW0 sa1 sp1 none 0 (by omega) hsl (by omega) (by simp [Sp.FW0]; omega) hC2 (hrb.le hleI2) (StsAt.le hleI2 _ _ hbs)
    rw [← hck] at hblk
    generalize Sp.parsF it.params = sc at hm hblk
    repeat' (first
      | (refine m_call (d := 67) hm (by rfl) (by rfl) (by rfl) (by first | exact pm0 | exact pm1_0 | exact pm1_1 | exact pm1_2 | exact pm1_3 | exact pm2_0 | exact pm2_1 | exact pm2_2 | exact pm2_3 | exact pm2_4 | exact pm3_0 | exact pm3_1 | exact pm3_2) (hblk) ?_; clear hm; rintro _ I3 _ _ ⟨rfl, sa3, sp3, da3, dp3, rfl⟩ hle hm; have hleI3 := hle; try simp only [setn] at hm)
      | (refine m_box (d := 23) hm (by rfl) (by rfl) (by rfl) (by rfl) ?_; clear hm; intro b23 _ hm)
      | (refine m_varS (d := 9) hm (by rfl) (by rfl) (by rfl) (by rfl) (by rfl) ?_; clear hm; intro b9 _ hm)
      | (refine m_var1 (d := 9) hm (by rfl) (by rfl) (by rfl) (by rfl) (by rfl) ?_; clear hm; intro b9 _ hm)
      | (refine m_push (d := 55) hm (by rfl) (by rfl) (by rfl) (by rfl) (by rfl) (by first | exact gt0 | exact gt1 | exact gt2 | exact gt3 | exact gt4 | exact gt5 | exact gt6) (by rfl) (by rfl) (by rfl) (by rfl) (by omega) (by omega) ?_; clear hm; intro a55 cp55 _ _ hm; try simp only [setn] at hm)
      | refine m_load1 hm (by rfl) (by rfl) (by rfl) (by first | exact gt0 | exact gt1 | exact gt2 | exact gt3 | exact gt4 | exact gt5 | exact gt6) (by rfl) ?_
      | refine i_load1 hm (by rfl) (by rfl) (by rfl) (by assumption) (by rfl) ?_
      | refine m_loadAll hm (by rfl) (by rfl) (by rfl) (by first | exact gt0 | exact gt1 | exact gt2 | exact gt3 | exact gt4 | exact gt5 | exact gt6) (by rfl) ?_
      | refine i_loadN hm (by rfl) (by rfl) (by rfl) (by assumption) (by rfl) ?_
      | refine i_load1z hm (by rfl) (by rfl) (by rfl) (by assumption) (by rfl) ?_
      | refine mq_load1 hm (by rfl) (by rfl) (by rfl) (by first | exact gt0 | exact gt1 | exact gt2 | exact gt3 | exact gt4 | exact gt5 | exact gt6) (by rfl) ?_
      | refine iq_load1 hm (by rfl) (by rfl) (by rfl) (by assumption) (by rfl) ?_
      | refine mq_loadAll hm (by rfl) (by rfl) (by rfl) (by first | exact gt0 | exact gt1 | exact gt2 | exact gt3 | exact gt4 | exact gt5 | exact gt6) (by rfl) ?_
      | refine iq_loadN hm (by rfl) (by rfl) (by rfl) (by assumption) (by rfl) ?_
      | refine iq_load1z hm (by rfl) (by rfl) (by rfl) (by assumption) (by rfl) ?_
      | (refine m_storeAll hm (by rfl) (by rfl) (by rfl) (by rfl) (by first | exact gt0 | exact gt1 | exact gt2 | exact gt3 | exact gt4 | exact gt5 | exact gt6) (by rfl) (by rfl) (by rfl) ?_; clear hm; intro _ hm; try simp only [setn] at hm)
      | (refine m_store1 hm (by rfl) (by rfl) (by rfl) (by rfl) (by first | exact gt0 | exact gt1 | exact gt2 | exact gt3 | exact gt4 | exact gt5 | exact gt6) (by rfl) (by rfl) (by rfl) ?_; clear hm; intro _ hm; try simp only [setn] at hm)
      | (refine m_storeN hm (by rfl) (by rfl) (by rfl) (by rfl) (by first | exact gt0 | exact gt1 | exact gt2 | exact gt3 | exact gt4 | exact gt5 | exact gt6) (by rfl) (by rfl) (by rfl) ?_; clear hm; intro _ hm; try simp only [setn] at hm)
      | refine m_ret_agg hm (by rfl) (by rfl) (by first | exact gt0 | exact gt1 | exact gt2 | exact gt3 | exact gt4 | exact gt5 | exact gt6) (by rfl) ?_
      | refine m_ret2_agg hm (by rfl) (by rfl) (by rfl) (by first | exact gt0 | exact gt1 | exact gt2 | exact gt3 | exact gt4 | exact gt5 | exact gt6) (by rfl) ?_
      | refine op_move (by rfl) (by rfl) (by rfl) ?_
      | refine op_assign (by rfl) (by rfl) (by rfl) ?_
      | refine op_lss (by rfl) (by rfl) (by rfl) (by rfl) ?_
      | refine op_eql (by rfl) (by rfl) (by rfl) (by rfl) ?_
      | refine op_eql_str (by rfl) (by rfl) (by rfl) (by rfl) ?_
      | refine op_eql_bool (by rfl) (by rfl) (by rfl) (by rfl) ?_
      | refine op_eql_flat (by rfl) (by rfl) (by rfl) (by rfl) (by rfl) (by rfl) ?_
      | refine op_len_str (by rfl) (by rfl) (by rfl) ?_
      | refine op_len_slice (by rfl) (by rfl) (by rfl) ?_
      | refine op_nilCheck (by rfl) (by rfl) (by rfl) ?_
      | refine op_add (by rfl) (by rfl) (by rfl) (by rfl) (by omega) ?_
      | refine op_add_u8 (by rfl) (by rfl) (by rfl) (by rfl) (by omega) ?_
      | refine op_indexAddr_arr (by rfl) (by rfl) (by rfl) (by rfl) (by omega) (by omega) ?_
      | refine op_fieldAddr (by rfl) (by rfl) (by rfl) ?_
      | refine op_indexAddr (by rfl) (by rfl) (by rfl) (by rfl) (by omega) (by omega) ?_
      | refine op_load1 (by rfl) (by rfl) (by rfl) (by assumption) (by rfl) ?_
      | refine op_struct (by rfl) (by rfl) (by rfl) (by rfl) ?_
      | refine op_build (by rfl) (by rfl) (by rfl) (fun _ => (by rfl)) ?_
      | refine wl_nil ?_
      | refine at_then_normal ?_
      | refine at_then_ret ?_
      | refine at_then_exit ?_
      | refine at_block_normal ?_
      | refine at_block_ret ?_
      | refine at_block_exit ?_
      | refine at_block_other (by rfl) ?_
      | refine wc_seq ?_
      | refine wc_region ?_
      | refine wc_block ?_
      | refine wc_skip ?_
      | refine wc_exit ?_
      | refine wc_ret ?_
      | refine at_ret1 (by rfl) (by rfl) ?_
      | refine wc_quiet (by kernel_rfl) ?_
      | (refine wq_nil ?_; intro _ hkq; replace hm := hm.kept0 hkq; clear hkq)
      | (refine wq_nil_tail ?_; intro _ hkq; replace hm := hm.kept0 hkq; clear hkq)
      | refine wc_cond_true (by rfl) ?_
      | refine wc_cond_false (by rfl) ?_
      | (refine wc_cond_dec (by rfl) (fun _ => ?_) (fun _ => ?_) <;> (try first | contradiction | (exfalso; omega)))
      | refine wc_cond (by rfl) (fun _ => ?_) (fun _ => ?_)
      | refine q_move (by rfl) (by rfl) (by rfl) ?_
      | refine q_assign (by rfl) (by rfl) (by rfl) ?_
      | refine q_lss (by rfl) (by rfl) (by rfl) (by rfl) ?_
      | refine q_eql (by rfl) (by rfl) (by rfl) (by rfl) ?_
      | refine q_eql_str (by rfl) (by rfl) (by rfl) (by rfl) ?_
      | refine q_eql_bool (by rfl) (by rfl) (by rfl) (by rfl) ?_
      | refine q_eql_flat (by rfl) (by rfl) (by rfl) (by rfl) (by rfl) (by rfl) ?_
      | refine q_len_str (by rfl) (by rfl) (by rfl) ?_
      | refine q_len_slice (by rfl) (by rfl) (by rfl) ?_
      | refine q_nilCheck (by rfl) (by rfl) (by rfl) ?_
      | refine q_add (by rfl) (by rfl) (by rfl) (by rfl) (by omega) ?_
      | refine q_add_u8 (by rfl) (by rfl) (by rfl) (by rfl) (by omega) ?_
      | refine q_indexAddr_arr (by rfl) (by rfl) (by rfl) (by rfl) (by omega) (by omega) ?_
      | refine q_fieldAddr (by rfl) (by rfl) (by rfl) ?_
      | refine q_indexAddr (by rfl) (by rfl) (by rfl) (by rfl) (by omega) (by omega) ?_
      | refine q_load1 (by rfl) (by rfl) (by rfl) (by assumption) (by rfl) ?_
      | refine q_struct (by rfl) (by rfl) (by rfl) (by rfl) ?_
      | refine q_build (by rfl) (by rfl) (by rfl) (fun _ => (by rfl)) ?_)
    all_goals try (exfalso; omega)
    exact ⟨I3, _, ⟨bc, _, _, sc, sa3, sp3, da3, dp3, rfl, rfl⟩, hm⟩
theorem f_diags (i : Nat) (hi : i < its.length) (I : Imm) (h : FE I its a cp xs) (hlab : Sp.itLab its) (hF : ∀ x ∈ its, Sp.ItF x) :
    CalM Tryd.prog 59 #[.agg [.slice a its.length cp].toArray, nt i] I [] (fun v I' H' => H' = [] ∧ ∃ da dp, v = .slice da (Sp.checkF its i (-1)).ds.length dp ∧ RowI I' 116 4 (.slice da (Sp.checkF its i (-1)).ds.length dp) (Sp.checkF its i (-1)).ds.length ((Sp.checkF its i (-1)).ds.flatMap encDg)) := by
  refine CalM.of fun w E hm => enter (N := 19) Tryd.func59 rfl [(0, .agg [.slice a its.length cp].toArray), (1, nt i)] args2 rfl ?_
  have hfew := h.few
  repeat' (first
    | (refine m_box (d := 2) hm (by rfl) (by rfl) (by rfl) (by rfl) ?_; clear hm; intro b2 _ hm)
    | refine m_load1 hm (by rfl) (by rfl) (by rfl) (by first | exact gt0 | exact gt1 | exact gt2 | exact gt3 | exact gt4 | exact gt5 | exact gt6) (by rfl) ?_
    | refine i_load1 hm (by rfl) (by rfl) (by rfl) (by assumption) (by rfl) ?_
    | refine m_loadAll hm (by rfl) (by rfl) (by rfl) (by first | exact gt0 | exact gt1 | exact gt2 | exact gt3 | exact gt4 | exact gt5 | exact gt6) (by rfl) ?_
    | refine i_loadN hm (by rfl) (by rfl) (by rfl) (by assumption) (by rfl) ?_
    | refine i_load1z hm (by rfl) (by rfl) (by rfl) (by assumption) (by rfl) ?_
    | refine m_ret_agg hm (by rfl) (by rfl) (by first | exact gt0 | exact gt1 | exact gt2 | exact gt3 | exact gt4 | exact gt5 | exact gt6) (by rfl) ?_
    | refine m_ret2_agg hm (by rfl) (by rfl) (by rfl) (by first | exact gt0 | exact gt1 | exact gt2 | exact gt3 | exact gt4 | exact gt5 | exact gt6) (by rfl) ?_
    | refine op_move (by rfl) (by rfl) (by rfl) ?_
    | refine op_assign (by rfl) (by rfl) (by rfl) ?_
    | refine op_pick_true (by rfl) (by rfl) (by rfl) (by rfl) ?_
    | refine op_pick_false (by rfl) (by rfl) (by rfl) (by rfl) ?_
    | refine op_lss (by rfl) (by rfl) (by rfl) (by rfl) ?_
    | refine op_geq (by rfl) (by rfl) (by rfl) (by rfl) ?_
    | refine op_len_str (by rfl) (by rfl) (by rfl) ?_
    | refine op_len_slice (by rfl) (by rfl) (by rfl) ?_
    | refine op_nilCheck (by rfl) (by rfl) (by rfl) ?_
    | refine op_fieldAddr (by rfl) (by rfl) (by rfl) ?_
    | refine op_load1 (by rfl) (by rfl) (by rfl) (by assumption) (by rfl) ?_
    | refine wl_skip (by rfl) (by rfl) (by rfl) ?_
    | (refine wl_split_dec (by rfl) (by rfl) (by rfl) (fun _ => ?_) (fun _ => ?_) <;> (try first | contradiction | (exfalso; omega)))
    | (refine wl_split (by rfl) (by rfl) (by rfl) (fun _ => ?_) (fun _ => ?_) <;> (fail_if_success contradiction))
    | refine wl_nil ?_
    | refine at_then_normal ?_
    | refine at_then_ret ?_
    | refine wc_seq ?_
    | refine wc_region ?_
    | refine wc_skip ?_
    | refine wc_ret ?_
    | refine at_ret1 (by rfl) (by rfl) ?_
    | refine wc_cond_true (by rfl) ?_
    | refine wc_cond_false (by rfl) ?_
    | (refine wc_cond_dec (by rfl) (fun _ => ?_) (fun _ => ?_) <;> (try first | contradiction | (exfalso; omega)))
    | refine wc_cond (by rfl) (fun _ => ?_) (fun _ => ?_))
  all_goals try (exfalso; omega)
  obtain ⟨I2, hle2, hm2, hpf⟩ := hm.freezeO
  clear hm
  have hm := hm2
  clear hm2
  have hck := f_check i hi (-1) b2 I2 hpf (h.le hle2) hlab hF
  generalize Sp.checkF its i (-1) = fin at hck ⊢
  repeat' (first
    | (refine m_call (d := 15) hm (by rfl) (by rfl) (by rfl) (by first | exact pm0 | exact pm1_0 | exact pm1_1 | exact pm1_2 | exact pm1_3 | exact pm2_0 | exact pm2_1 | exact pm2_2 | exact pm2_3 | exact pm2_4 | exact pm3_0 | exact pm3_1 | exact pm3_2) (hck) ?_; clear hm; rintro _ I3 _ _ ⟨bc, pi, vf, sc, sa, sp, da, dp, rfl, rfl⟩ hle hm; have hleI3 := hle; try simp only [setn] at hm)
    | (refine m_box (d := 2) hm (by rfl) (by rfl) (by rfl) (by rfl) ?_; clear hm; intro b2 _ hm)
    | refine m_load1 hm (by rfl) (by rfl) (by rfl) (by first | exact gt0 | exact gt1 | exact gt2 | exact gt3 | exact gt4 | exact gt5 | exact gt6) (by rfl) ?_
    | refine i_load1 hm (by rfl) (by rfl) (by rfl) (by assumption) (by rfl) ?_
    | refine m_loadAll hm (by rfl) (by rfl) (by rfl) (by first | exact gt0 | exact gt1 | exact gt2 | exact gt3 | exact gt4 | exact gt5 | exact gt6) (by rfl) ?_
    | refine i_loadN hm (by rfl) (by rfl) (by rfl) (by assumption) (by rfl) ?_
    | refine i_load1z hm (by rfl) (by rfl) (by rfl) (by assumption) (by rfl) ?_
    | refine m_ret_agg hm (by rfl) (by rfl) (by first | exact gt0 | exact gt1 | exact gt2 | exact gt3 | exact gt4 | exact gt5 | exact gt6) (by rfl) ?_
    | refine m_ret2_agg hm (by rfl) (by rfl) (by rfl) (by first | exact gt0 | exact gt1 | exact gt2 | exact gt3 | exact gt4 | exact gt5 | exact gt6) (by rfl) ?_
    | refine op_move (by rfl) (by rfl) (by rfl) ?_
    | refine op_assign (by rfl) (by rfl) (by rfl) ?_
    | refine op_pick_true (by rfl) (by rfl) (by rfl) (by rfl) ?_
    | refine op_pick_false (by rfl) (by rfl) (by rfl) (by rfl) ?_
    | refine op_lss (by rfl) (by rfl) (by rfl) (by rfl) ?_
    | refine op_geq (by rfl) (by rfl) (by rfl) (by rfl) ?_
    | refine op_len_str (by rfl) (by rfl) (by rfl) ?_
    | refine op_len_slice (by rfl) (by rfl) (by rfl) ?_
    | refine op_nilCheck (by rfl) (by rfl) (by rfl) ?_
    | refine op_fieldAddr (by rfl) (by rfl) (by rfl) ?_
    | refine op_load1 (by rfl) (by rfl) (by rfl) (by assumption) (by rfl) ?_
    | refine wl_skip (by rfl) (by rfl) (by rfl) ?_
    | (refine wl_split_dec (by rfl) (by rfl) (by rfl) (fun _ => ?_) (fun _ => ?_) <;> (try first | contradiction | (exfalso; omega)))
    | (refine wl_split (by rfl) (by rfl) (by rfl) (fun _ => ?_) (fun _ => ?_) <;> (fail_if_success contradiction))
    | refine wl_nil ?_
    | refine at_then_normal ?_
    | refine at_then_ret ?_
    | refine wc_seq ?_
    | refine wc_region ?_
    | refine wc_skip ?_
    | refine wc_ret ?_
    | refine at_ret1 (by rfl) (by rfl) ?_
    | refine wc_cond_true (by rfl) ?_
    | refine wc_cond_false (by rfl) ?_
    | (refine wc_cond_dec (by rfl) (fun _ => ?_) (fun _ => ?_) <;> (try first | contradiction | (exfalso; omega)))
    | refine wc_cond (by rfl) (fun _ => ?_) (fun _ => ?_))
  all_goals try (exfalso; omega)
  obtain ⟨I4, hle4, hm4, hrow⟩ := (hm.front 2 rfl).freeze
  exact ⟨I4, [], ⟨rfl, da, dp, rfl, hrow⟩, hm4.left (H := [])⟩
theorem f_label (i : Nat) (hi : i < its.length) (at_ : Int) (h0 : 0 ≤ at_) (I : Imm) (h : FE I its a cp xs) (hlab : Sp.itLab its) (hF : ∀ x ∈ its, Sp.ItF x) :
    CalM Tryd.prog 58 #[.agg [.slice a its.length cp].toArray, nt i, .int .i64 at_] I [] (fun v _ H' => v = .tuple #[nt ((Sp.checkF its i at_).hv.getD 0), .bool (Sp.checkF its i at_).hv.isSome] ∧ H' = []) := by
  refine CalM.of fun w E hm => enter (N := 33) Tryd.func58 rfl [(0, .agg [.slice a its.length cp].toArray), (1, nt i), (2, .int .i64 at_)] args3 rfl ?_
  have hfew := h.few
  repeat' (first
    | (refine m_box (d := 3) hm (by rfl) (by rfl) (by rfl) (by rfl) ?_; clear hm; intro b3 _ hm)
    | refine m_load1 hm (by rfl) (by rfl) (by rfl) (by first | exact gt0 | exact gt1 | exact gt2 | exact gt3 | exact gt4 | exact gt5 | exact gt6) (by rfl) ?_
    | refine i_load1 hm (by rfl) (by rfl) (by rfl) (by assumption) (by rfl) ?_
    | refine m_loadAll hm (by rfl) (by rfl) (by rfl) (by first | exact gt0 | exact gt1 | exact gt2 | exact gt3 | exact gt4 | exact gt5 | exact gt6) (by rfl) ?_
    | refine i_loadN hm (by rfl) (by rfl) (by rfl) (by assumption) (by rfl) ?_
    | refine i_load1z hm (by rfl) (by rfl) (by rfl) (by assumption) (by rfl) ?_
    | refine mq_load1 hm (by rfl) (by rfl) (by rfl) (by first | exact gt0 | exact gt1 | exact gt2 | exact gt3 | exact gt4 | exact gt5 | exact gt6) (by rfl) ?_
    | refine iq_load1 hm (by rfl) (by rfl) (by rfl) (by assumption) (by rfl) ?_
    | refine mq_loadAll hm (by rfl) (by rfl) (by rfl) (by first | exact gt0 | exact gt1 | exact gt2 | exact gt3 | exact gt4 | exact gt5 | exact gt6) (by rfl) ?_
    | refine iq_loadN hm (by rfl) (by rfl) (by rfl) (by assumption) (by rfl) ?_
    | refine iq_load1z hm (by rfl) (by rfl) (by rfl) (by assumption) (by rfl) ?_
    | refine m_ret_agg hm (by rfl) (by rfl) (by first | exact gt0 | exact gt1 | exact gt2 | exact gt3 | exact gt4 | exact gt5 | exact gt6) (by rfl) ?_
    | refine m_ret2_agg hm (by rfl) (by rfl) (by rfl) (by first | exact gt0 | exact gt1 | exact gt2 | exact gt3 | exact gt4 | exact gt5 | exact gt6) (by rfl) ?_
    | refine op_move (by rfl) (by rfl) (by rfl) ?_
    | refine op_assign (by rfl) (by rfl) (by rfl) ?_
    | refine op_pick_true (by rfl) (by rfl) (by rfl) (by rfl) ?_
    | refine op_pick_false (by rfl) (by rfl) (by rfl) (by rfl) ?_
    | refine op_lss (by rfl) (by rfl) (by rfl) (by rfl) ?_
    | refine op_geq (by rfl) (by rfl) (by rfl) (by rfl) ?_
    | refine op_len_str (by rfl) (by rfl) (by rfl) ?_
    | refine op_len_slice (by rfl) (by rfl) (by rfl) ?_
    | refine op_nilCheck (by rfl) (by rfl) (by rfl) ?_
    | refine op_fieldAddr (by rfl) (by rfl) (by rfl) ?_
    | refine op_load1 (by rfl) (by rfl) (by rfl) (by assumption) (by rfl) ?_
    | refine wl_skip (by rfl) (by rfl) (by rfl) ?_
    | (refine wl_split_dec (by rfl) (by rfl) (by rfl) (fun _ => ?_) (fun _ => ?_) <;> (try first | contradiction | (exfalso; omega)))
    | (refine wl_split (by rfl) (by rfl) (by rfl) (fun _ => ?_) (fun _ => ?_) <;> (fail_if_success contradiction))
    | refine wl_nil ?_
    | refine at_then_normal ?_
    | refine at_then_ret ?_
    | refine wc_seq ?_
    | refine wc_region ?_
    | refine wc_skip ?_
    | refine wc_ret ?_
    | refine at_ret2 (by rfl) (by rfl) (by rfl) ?_
    | refine wc_quiet (by kernel_rfl) ?_
    | (refine wq_nil ?_; intro _ hkq; replace hm := hm.kept0 hkq; clear hkq)
    | (refine wq_nil_tail ?_; intro _ hkq; replace hm := hm.kept0 hkq; clear hkq)
    | refine wc_cond_true (by rfl) ?_
    | refine wc_cond_false (by rfl) ?_
    | (refine wc_cond_dec (by rfl) (fun _ => ?_) (fun _ => ?_) <;> (try first | contradiction | (exfalso; omega)))
    | refine wc_cond (by rfl) (fun _ => ?_) (fun _ => ?_)
    | refine q_move (by rfl) (by rfl) (by rfl) ?_
    | refine q_assign (by rfl) (by rfl) (by rfl) ?_
    | refine q_pick_true (by rfl) (by rfl) (by rfl) (by rfl) ?_
    | refine q_pick_false (by rfl) (by rfl) (by rfl) (by rfl) ?_
    | refine q_lss (by rfl) (by rfl) (by rfl) (by rfl) ?_
    | refine q_geq (by rfl) (by rfl) (by rfl) (by rfl) ?_
    | refine q_len_str (by rfl) (by rfl) (by rfl) ?_
    | refine q_len_slice (by rfl) (by rfl) (by rfl) ?_
    | refine q_nilCheck (by rfl) (by rfl) (by rfl) ?_
    | refine q_fieldAddr (by rfl) (by rfl) (by rfl) ?_
    | refine q_load1 (by rfl) (by rfl) (by rfl) (by assumption) (by rfl) ?_
    | refine wq_skip (by rfl) (by rfl) (by rfl) ?_
    | (refine wq_split_dec (by rfl) (by rfl) (by rfl) (fun _ => ?_) (fun _ => ?_) <;> (try first | contradiction | (exfalso; omega)))
    | (refine wq_split (by rfl) (by rfl) (by rfl) (fun _ => ?_) (fun _ => ?_) <;> (fail_if_success contradiction)))
  all_goals try (exfalso; omega)
  obtain ⟨I2, hle2, hm2, hpf⟩ := hm.freezeO
  clear hm
  have hm := hm2
  clear hm2
  have hck := f_check i hi at_ b3 I2 hpf (h.le hle2) hlab hF
  generalize Sp.checkF its i at_ = fin at hck ⊢
  repeat' (first
    | (refine m_call (d := 24) hm (by rfl) (by rfl) (by rfl) (by first | exact pm0 | exact pm1_0 | exact pm1_1 | exact pm1_2 | exact pm1_3 | exact pm2_0 | exact pm2_1 | exact pm2_2 | exact pm2_3 | exact pm2_4 | exact pm3_0 | exact pm3_1 | exact pm3_2) (hck) ?_; clear hm; rintro _ I3 _ _ ⟨bc, pi, vf, sc, sa, sp, da, dp, rfl, rfl⟩ hle hm; have hleI3 := hle; try simp only [setn] at hm)
    | (refine m_box (d := 3) hm (by rfl) (by rfl) (by rfl) (by rfl) ?_; clear hm; intro b3 _ hm)
    | refine m_load1 hm (by rfl) (by rfl) (by rfl) (by first | exact gt0 | exact gt1 | exact gt2 | exact gt3 | exact gt4 | exact gt5 | exact gt6) (by rfl) ?_
    | refine i_load1 hm (by rfl) (by rfl) (by rfl) (by assumption) (by rfl) ?_
    | refine m_loadAll hm (by rfl) (by rfl) (by rfl) (by first | exact gt0 | exact gt1 | exact gt2 | exact gt3 | exact gt4 | exact gt5 | exact gt6) (by rfl) ?_
    | refine i_loadN hm (by rfl) (by rfl) (by rfl) (by assumption) (by rfl) ?_
    | refine i_load1z hm (by rfl) (by rfl) (by rfl) (by assumption) (by rfl) ?_
    | refine mq_load1 hm (by rfl) (by rfl) (by rfl) (by first | exact gt0 | exact gt1 | exact gt2 | exact gt3 | exact gt4 | exact gt5 | exact gt6) (by rfl) ?_
    | refine iq_load1 hm (by rfl) (by rfl) (by rfl) (by assumption) (by rfl) ?_
    | refine mq_loadAll hm (by rfl) (by rfl) (by rfl) (by first | exact gt0 | exact gt1 | exact gt2 | exact gt3 | exact gt4 | exact gt5 | exact gt6) (by rfl) ?_
    | refine iq_loadN hm (by rfl) (by rfl) (by rfl) (by assumption) (by rfl) ?_
    | refine iq_load1z hm (by rfl) (by rfl) (by rfl) (by assumption) (by rfl) ?_
    | refine m_ret_agg hm (by rfl) (by rfl) (by first | exact gt0 | exact gt1 | exact gt2 | exact gt3 | exact gt4 | exact gt5 | exact gt6) (by rfl) ?_
    | refine m_ret2_agg hm (by rfl) (by rfl) (by rfl) (by first | exact gt0 | exact gt1 | exact gt2 | exact gt3 | exact gt4 | exact gt5 | exact gt6) (by rfl) ?_
    | refine op_move (by rfl) (by rfl) (by rfl) ?_
    | refine op_assign (by rfl) (by rfl) (by rfl) ?_
    | refine op_pick_true (by rfl) (by rfl) (by rfl) (by rfl) ?_
    | refine op_pick_false (by rfl) (by rfl) (by rfl) (by rfl) ?_
    | refine op_lss (by rfl) (by rfl) (by rfl) (by rfl) ?_
    | refine op_geq (by rfl) (by rfl) (by rfl) (by rfl) ?_
    | refine op_len_str (by rfl) (by rfl) (by rfl) ?_
    | refine op_len_slice (by rfl) (by rfl) (by rfl) ?_
    | refine op_nilCheck (by rfl) (by rfl) (by rfl) ?_
    | refine op_fieldAddr (by rfl) (by rfl) (by rfl) ?_
    | refine op_load1 (by rfl) (by rfl) (by rfl) (by assumption) (by rfl) ?_
    | refine wl_skip (by rfl) (by rfl) (by rfl) ?_
    | (refine wl_split_dec (by rfl) (by rfl) (by rfl) (fun _ => ?_) (fun _ => ?_) <;> (try first | contradiction | (exfalso; omega)))
    | (refine wl_split (by rfl) (by rfl) (by rfl) (fun _ => ?_) (fun _ => ?_) <;> (fail_if_success contradiction))
    | refine wl_nil ?_
    | refine at_then_normal ?_
    | refine at_then_ret ?_
    | refine wc_seq ?_
    | refine wc_region ?_
    | refine wc_skip ?_
    | refine wc_ret ?_
    | refine at_ret2 (by rfl) (by rfl) (by rfl) ?_
    | refine wc_quiet (by kernel_rfl) ?_
    | (refine wq_nil ?_; intro _ hkq; replace hm := hm.kept0 hkq; clear hkq)
    | (refine wq_nil_tail ?_; intro _ hkq; replace hm := hm.kept0 hkq; clear hkq)
    | refine wc_cond_true (by rfl) ?_
    | refine wc_cond_false (by rfl) ?_
    | (refine wc_cond_dec (by rfl) (fun _ => ?_) (fun _ => ?_) <;> (try first | contradiction | (exfalso; omega)))
    | refine wc_cond (by rfl) (fun _ => ?_) (fun _ => ?_)
    | refine q_move (by rfl) (by rfl) (by rfl) ?_
    | refine q_assign (by rfl) (by rfl) (by rfl) ?_
    | refine q_pick_true (by rfl) (by rfl) (by rfl) (by rfl) ?_
    | refine q_pick_false (by rfl) (by rfl) (by rfl) (by rfl) ?_
    | refine q_lss (by rfl) (by rfl) (by rfl) (by rfl) ?_
    | refine q_geq (by rfl) (by rfl) (by rfl) (by rfl) ?_
    | refine q_len_str (by rfl) (by rfl) (by rfl) ?_
    | refine q_len_slice (by rfl) (by rfl) (by rfl) ?_
    | refine q_nilCheck (by rfl) (by rfl) (by rfl) ?_
    | refine q_fieldAddr (by rfl) (by rfl) (by rfl) ?_
    | refine q_load1 (by rfl) (by rfl) (by rfl) (by assumption) (by rfl) ?_
    | refine wq_skip (by rfl) (by rfl) (by rfl) ?_
    | (refine wq_split_dec (by rfl) (by rfl) (by rfl) (fun _ => ?_) (fun _ => ?_) <;> (try first | contradiction | (exfalso; omega)))
    | (refine wq_split (by rfl) (by rfl) (by rfl) (fun _ => ?_) (fun _ => ?_) <;> (fail_if_success contradiction)))
  all_goals try (exfalso; omega)
  exact ⟨I3, [], ⟨rfl, rfl⟩, hm.left (H := [])⟩
theorem f_sound (I : Imm) (h : FE I its a cp xs) (hlab : Sp.itLab its) (hF : ∀ x ∈ its, Sp.ItF x) :
    CalM Tryd.prog 29 #[.agg [.slice a its.length cp].toArray] I [] (fun v _ H' => H' = [] ∧ ∃ b, v = .bool b ∧ (b = true ↔ Sp.soundF its)) := by
  refine CalM.of fun w E hm => enter (N := 16) Tryd.func29 rfl [(0, .agg [.slice a its.length cp].toArray)] args1 rfl ?_
  have hfew := h.few
  repeat' (first
    | (refine m_box (d := 1) hm (by rfl) (by rfl) (by rfl) (by rfl) ?_; clear hm; intro b1 _ hm)
    | refine m_load1 hm (by rfl) (by rfl) (by rfl) (by first | exact gt0 | exact gt1 | exact gt2 | exact gt3 | exact gt4 | exact gt5 | exact gt6) (by rfl) ?_
    | refine i_load1 hm (by rfl) (by rfl) (by rfl) (by assumption) (by rfl) ?_
    | refine m_loadAll hm (by rfl) (by rfl) (by rfl) (by first | exact gt0 | exact gt1 | exact gt2 | exact gt3 | exact gt4 | exact gt5 | exact gt6) (by rfl) ?_
    | refine i_loadN hm (by rfl) (by rfl) (by rfl) (by assumption) (by rfl) ?_
    | refine i_load1z hm (by rfl) (by rfl) (by rfl) (by assumption) (by rfl) ?_
    | refine m_ret_agg hm (by rfl) (by rfl) (by first | exact gt0 | exact gt1 | exact gt2 | exact gt3 | exact gt4 | exact gt5 | exact gt6) (by rfl) ?_
    | refine m_ret2_agg hm (by rfl) (by rfl) (by rfl) (by first | exact gt0 | exact gt1 | exact gt2 | exact gt3 | exact gt4 | exact gt5 | exact gt6) (by rfl) ?_
    | refine op_move (by rfl) (by rfl) (by rfl) ?_
    | refine op_assign (by rfl) (by rfl) (by rfl) ?_
    | refine op_lss (by rfl) (by rfl) (by rfl) (by rfl) ?_
    | refine op_gtr (by rfl) (by rfl) (by rfl) (by rfl) ?_
    | refine op_len_str (by rfl) (by rfl) (by rfl) ?_
    | refine op_len_slice (by rfl) (by rfl) (by rfl) ?_
    | refine op_add (by rfl) (by rfl) (by rfl) (by rfl) (by omega) ?_
    | refine op_add_u8 (by rfl) (by rfl) (by rfl) (by rfl) (by omega) ?_
    | refine op_fieldAddr (by rfl) (by rfl) (by rfl) ?_
    | refine op_load1 (by rfl) (by rfl) (by rfl) (by assumption) (by rfl) ?_
    | refine wl_nil ?_
    | refine at_then_normal ?_
    | refine at_then_ret ?_
    | refine at_then_exit ?_
    | refine at_block_normal ?_
    | refine at_block_ret ?_
    | refine at_block_exit ?_
    | refine at_block_other (by rfl) ?_
    | refine wc_seq ?_
    | refine wc_region ?_
    | refine wc_block ?_
    | refine wc_skip ?_
    | refine wc_exit ?_
    | refine wc_ret ?_
    | refine at_ret1 (by rfl) (by rfl) ?_
    | refine wc_cond_true (by rfl) ?_
    | refine wc_cond_false (by rfl) ?_
    | (refine wc_cond_dec (by rfl) (fun _ => ?_) (fun _ => ?_) <;> (try first | contradiction | (exfalso; omega)))
    | refine wc_cond (by rfl) (fun _ => ?_) (fun _ => ?_))
  refine wc_loop (fun x : NI => [(1, ptr b1), (6, nt its.length), (7, nt x.k)]) (fun x w' => Mem E x.I [.cell b1 [.slice a its.length cp] 24] w' ∧ Le I x.I ∧ x.k ≤ its.length ∧ ∀ j, j < x.k → (Sp.checkF its j (-1)).ds = []) (fun x => its.length - x.k) ⟨0, I⟩
    (by exact ⟨rfl, rfl, rfl, trivial⟩) ⟨hm, Le.refl _, Nat.zero_le _, fun j hj => absurd hj (Nat.not_lt_zero j)⟩ ?_
  clear hm
  rintro ⟨k, I1⟩ w1 ⟨hm, hle1, hk, hno⟩
  dsimp only at hm hle1 hk hno ⊢
  by_cases hlt : k < its.length
  · have hd := f_diags k hlt I1 (h.le hle1) hlab hF
    obtain ⟨n, hn⟩ : ∃ n, n = (Sp.checkF its k (-1)).ds.length := ⟨_, rfl⟩
    rw [← hn] at hd
    by_cases h0 : n = 0
    · subst h0
      have h0' := List.length_eq_zero_iff.1 hn.symm
      repeat' (first
        | (refine m_call (d := 12) hm (by rfl) (by rfl) (by rfl) (by first | exact pm0 | exact pm1_0 | exact pm1_1 | exact pm1_2 | exact pm1_3 | exact pm2_0 | exact pm2_1 | exact pm2_2 | exact pm2_3 | exact pm2_4 | exact pm3_0 | exact pm3_1 | exact pm3_2) (hd) ?_; clear hm; rintro _ I2 _ _ ⟨rfl, da, dp, rfl, _⟩ hle hm; have hleI2 := hle; try simp only [setn] at hm)
        | (refine m_box (d := 1) hm (by rfl) (by rfl) (by rfl) (by rfl) ?_; clear hm; intro b1 _ hm)
        | refine m_load1 hm (by rfl) (by rfl) (by rfl) (by first | exact gt0 | exact gt1 | exact gt2 | exact gt3 | exact gt4 | exact gt5 | exact gt6) (by rfl) ?_
        | refine i_load1 hm (by rfl) (by rfl) (by rfl) (by assumption) (by rfl) ?_
        | refine m_loadAll hm (by rfl) (by rfl) (by rfl) (by first | exact gt0 | exact gt1 | exact gt2 | exact gt3 | exact gt4 | exact gt5 | exact gt6) (by rfl) ?_
        | refine i_loadN hm (by rfl) (by rfl) (by rfl) (by assumption) (by rfl) ?_
        | refine i_load1z hm (by rfl) (by rfl) (by rfl) (by assumption) (by rfl) ?_
        | refine m_ret_agg hm (by rfl) (by rfl) (by first | exact gt0 | exact gt1 | exact gt2 | exact gt3 | exact gt4 | exact gt5 | exact gt6) (by rfl) ?_
        | refine m_ret2_agg hm (by rfl) (by rfl) (by rfl) (by first | exact gt0 | exact gt1 | exact gt2 | exact gt3 | exact gt4 | exact gt5 | exact gt6) (by rfl) ?_
        | refine op_move (by rfl) (by rfl) (by rfl) ?_
        | refine op_assign (by rfl) (by rfl) (by rfl) ?_
        | refine op_lss (by rfl) (by rfl) (by rfl) (by rfl) ?_
        | refine op_gtr (by rfl) (by rfl) (by rfl) (by rfl) ?_
        | refine op_len_str (by rfl) (by rfl) (by rfl) ?_
        | refine op_len_slice (by rfl) (by rfl) (by rfl) ?_
        | refine op_add (by rfl) (by rfl) (by rfl) (by rfl) (by omega) ?_
        | refine op_add_u8 (by rfl) (by rfl) (by rfl) (by rfl) (by omega) ?_
        | refine op_fieldAddr (by rfl) (by rfl) (by rfl) ?_
        | refine op_load1 (by rfl) (by rfl) (by rfl) (by assumption) (by rfl) ?_
        | refine wl_nil ?_
        | refine at_then_normal ?_
        | refine at_then_ret ?_
        | refine at_then_exit ?_
        | refine at_block_normal ?_
        | refine at_block_ret ?_
        | refine at_block_exit ?_
        | refine at_block_other (by rfl) ?_
        | refine wc_seq ?_
        | refine wc_region ?_
        | refine wc_block ?_
        | refine wc_skip ?_
        | refine wc_exit ?_
        | refine wc_ret ?_
        | refine at_ret1 (by rfl) (by rfl) ?_
        | refine wc_cond_true (by rfl) ?_
        | refine wc_cond_false (by rfl) ?_
        | (refine wc_cond_dec (by rfl) (fun _ => ?_) (fun _ => ?_) <;> (try first | contradiction | (exfalso; omega)))
        | refine wc_cond (by rfl) (fun _ => ?_) (fun _ => ?_))
      all_goals try (exfalso; omega)
      refine at_round (⟨k + 1, I2⟩ : NI) (by exact ⟨rfl, rfl, rfl, trivial⟩) ⟨hm, hle1.trans hleI2, by dsimp only; omega, fun j hj => ?_⟩ (by dsimp only; omega)
      rcases Nat.lt_or_ge j k with hjk | hjk
      · exact hno j hjk
      · obtain rfl : j = k := by dsimp only at hj; omega
        exact h0'
    · skip
      repeat' (first
        | (refine m_call (d := 12) hm (by rfl) (by rfl) (by rfl) (by first | exact pm0 | exact pm1_0 | exact pm1_1 | exact pm1_2 | exact pm1_3 | exact pm2_0 | exact pm2_1 | exact pm2_2 | exact pm2_3 | exact pm2_4 | exact pm3_0 | exact pm3_1 | exact pm3_2) (hd) ?_; clear hm; rintro _ I2 _ _ ⟨rfl, da, dp, rfl, _⟩ hle hm; have hleI2 := hle; try simp only [setn] at hm)
        | (refine m_box (d := 1) hm (by rfl) (by rfl) (by rfl) (by rfl) ?_; clear hm; intro b1 _ hm)
        | refine m_load1 hm (by rfl) (by rfl) (by rfl) (by first | exact gt0 | exact gt1 | exact gt2 | exact gt3 | exact gt4 | exact gt5 | exact gt6) (by rfl) ?_
        | refine i_load1 hm (by rfl) (by rfl) (by rfl) (by assumption) (by rfl) ?_
        | refine m_loadAll hm (by rfl) (by rfl) (by rfl) (by first | exact gt0 | exact gt1 | exact gt2 | exact gt3 | exact gt4 | exact gt5 | exact gt6) (by rfl) ?_
        | refine i_loadN hm (by rfl) (by rfl) (by rfl) (by assumption) (by rfl) ?_
        | refine i_load1z hm (by rfl) (by rfl) (by rfl) (by assumption) (by rfl) ?_
        | refine m_ret_agg hm (by rfl) (by rfl) (by first | exact gt0 | exact gt1 | exact gt2 | exact gt3 | exact gt4 | exact gt5 | exact gt6) (by rfl) ?_
        | refine m_ret2_agg hm (by rfl) (by rfl) (by rfl) (by first | exact gt0 | exact gt1 | exact gt2 | exact gt3 | exact gt4 | exact gt5 | exact gt6) (by rfl) ?_
        | refine op_move (by rfl) (by rfl) (by rfl) ?_
        | refine op_assign (by rfl) (by rfl) (by rfl) ?_
        | refine op_lss (by rfl) (by rfl) (by rfl) (by rfl) ?_
        | refine op_gtr (by rfl) (by rfl) (by rfl) (by rfl) ?_
        | refine op_len_str (by rfl) (by rfl) (by rfl) ?_
        | refine op_len_slice (by rfl) (by rfl) (by rfl) ?_
        | refine op_add (by rfl) (by rfl) (by rfl) (by rfl) (by omega) ?_
        | refine op_add_u8 (by rfl) (by rfl) (by rfl) (by rfl) (by omega) ?_
        | refine op_fieldAddr (by rfl) (by rfl) (by rfl) ?_
        | refine op_load1 (by rfl) (by rfl) (by rfl) (by assumption) (by rfl) ?_
        | refine wl_nil ?_
        | refine at_then_normal ?_
        | refine at_then_ret ?_
        | refine at_then_exit ?_
        | refine at_block_normal ?_
        | refine at_block_ret ?_
        | refine at_block_exit ?_
        | refine at_block_other (by rfl) ?_
        | refine wc_seq ?_
        | refine wc_region ?_
        | refine wc_block ?_
        | refine wc_skip ?_
        | refine wc_exit ?_
        | refine wc_ret ?_
        | refine at_ret1 (by rfl) (by rfl) ?_
        | refine wc_cond_true (by rfl) ?_
        | refine wc_cond_false (by rfl) ?_
        | (refine wc_cond_dec (by rfl) (fun _ => ?_) (fun _ => ?_) <;> (try first | contradiction | (exfalso; omega)))
        | refine wc_cond (by rfl) (fun _ => ?_) (fun _ => ?_))
      all_goals try (exfalso; omega)
      refine ⟨I2, [], ⟨rfl, false, rfl, fun hf => (by cases hf), fun hs => ?_⟩, hm.left (H := [])⟩
      exfalso
      have := hs k hlt
      rw [this] at hn
      exact h0 hn
  · obtain rfl : k = its.length := by omega
    repeat' (first
      | (refine m_box (d := 1) hm (by rfl) (by rfl) (by rfl) (by rfl) ?_; clear hm; intro b1 _ hm)
      | refine m_load1 hm (by rfl) (by rfl) (by rfl) (by first | exact gt0 | exact gt1 | exact gt2 | exact gt3 | exact gt4 | exact gt5 | exact gt6) (by rfl) ?_
      | refine i_load1 hm (by rfl) (by rfl) (by rfl) (by assumption) (by rfl) ?_
      | refine m_loadAll hm (by rfl) (by rfl) (by rfl) (by first | exact gt0 | exact gt1 | exact gt2 | exact gt3 | exact gt4 | exact gt5 | exact gt6) (by rfl) ?_
      | refine i_loadN hm (by rfl) (by rfl) (by rfl) (by assumption) (by rfl) ?_
      | refine i_load1z hm (by rfl) (by rfl) (by rfl) (by assumption) (by rfl) ?_
      | refine m_ret_agg hm (by rfl) (by rfl) (by first | exact gt0 | exact gt1 | exact gt2 | exact gt3 | exact gt4 | exact gt5 | exact gt6) (by rfl) ?_
      | refine m_ret2_agg hm (by rfl) (by rfl) (by rfl) (by first | exact gt0 | exact gt1 | exact gt2 | exact gt3 | exact gt4 | exact gt5 | exact gt6) (by rfl) ?_
      | refine op_move (by rfl) (by rfl) (by rfl) ?_
      | refine op_assign (by rfl) (by rfl) (by rfl) ?_
      | refine op_lss (by rfl) (by rfl) (by rfl) (by rfl) ?_
      | refine op_gtr (by rfl) (by rfl) (by rfl) (by rfl) ?_
      | refine op_len_str (by rfl) (by rfl) (by rfl) ?_
      | refine op_len_slice (by rfl) (by rfl) (by rfl) ?_
      | refine op_add (by rfl) (by rfl) (by rfl) (by rfl) (by omega) ?_
      | refine op_add_u8 (by rfl) (by rfl) (by rfl) (by rfl) (by omega) ?_
      | refine op_fieldAddr (by rfl) (by rfl) (by rfl) ?_
      | refine op_load1 (by rfl) (by rfl) (by rfl) (by assumption) (by rfl) ?_
      | refine wl_nil ?_
      | refine at_then_normal ?_
      | refine at_then_ret ?_
      | refine at_then_exit ?_
      | refine at_block_normal ?_
      | refine at_block_ret ?_
      | refine at_block_exit ?_
      | refine at_block_other (by rfl) ?_
      | refine wc_seq ?_
      | refine wc_region ?_
      | refine wc_block ?_
      | refine wc_skip ?_
      | refine wc_exit ?_
      | refine wc_ret ?_
      | refine at_ret1 (by rfl) (by rfl) ?_
      | refine wc_cond_true (by rfl) ?_
      | refine wc_cond_false (by rfl) ?_
      | (refine wc_cond_dec (by rfl) (fun _ => ?_) (fun _ => ?_) <;> (try first | contradiction | (exfalso; omega)))
      | refine wc_cond (by rfl) (fun _ => ?_) (fun _ => ?_))
    all_goals try (exfalso; omega)
    exact ⟨I1, [], ⟨rfl, true, rfl, fun _ => hno, fun _ => rfl⟩, hm.left (H := [])⟩
end
end Go.Proofs.YtkbiakajlfmakaaDoor
end
