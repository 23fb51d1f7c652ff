/- Own work: texts PsC, one behind the other. -/
import Derived.Test.YtjfkjpbkmpofkaaIt22
section
namespace Go.Proofs.Ytjfkjpbkmpofkaa
open Go.Fw
set_option maxHeartbeats 8000000 in
theorem p_sameItem (it : Sp.Itm) (hs : it.small) (I : Imm) (cs ds : List Value) (hi : ItAt I it cs) (hj : ItAt I it ds) : CalM Try.prog 19 #[.agg cs.toArray, .agg ds.toArray] I [] ToTrue := by
  obtain ⟨ap, cp, as_, cs', ab, cb, ad, cd, xb, rfl, r1, r2, r3, r4, r5⟩ := hi
  obtain ⟨bp, dp, bs_, ds', bb, db, bd, dd, yb, rfl, s1, s2, s3, s4, s5⟩ := hj
  have k1 := hs.params
  have k2 := hs.sends
  have k3 := hs.diags
  have k4 := hs.body
  refine CalM.of fun w E hm => enter (N := 113) Try.func19 rfl [(0, .agg (itCells it.kind it.name it.label (.slice ap it.params.length cp) (.slice as_ it.sends.length cs') (.slice ab it.body.length cb) it.at_ it.size it.mark (.slice ad it.diags.length cd)).toArray), (1, .agg (itCells it.kind it.name it.label (.slice bp it.params.length dp) (.slice bs_ it.sends.length ds') (.slice bb it.body.length db) it.at_ it.size it.mark (.slice bd it.diags.length dd)).toArray)] args2 rfl ?_
  have c4 := fun (I' : Imm) (m : Le I I') => p_sameStmts (SizeOf.sizeOf it.body) it.body (Nat.le_refl _) (by omega) hs.stms I' ab bb cb db xb yb (r3.le m) (StsAt.le m _ _ r4) (s3.le m) (StsAt.le m _ _ s4)
  have c5 := fun (I' : Imm) (m : Le I I') => p_sameDiags I' it.diags k3 ad bd cd dd (r5.le m) (s5.le m)
  repeat' (first
  | (refine m_box (d:=2) hm (k:=?_); clear hm; intro b2 _ hm)
  | (refine m_box (d:=3) hm (k:=?_); clear hm; intro b3 _ hm)
  | refine m_load1 hm (k:=?_)
  | refine i_load1 hm (k:=?_)
  | refine m_loadAll hm (k:=?_)
  | refine i_loadN hm (k:=?_)
  | refine i_load1z hm (k:=?_)
  | refine mq_load1 hm (k:=?_)
  | refine iq_load1 hm (k:=?_)
  | refine mq_loadAll hm (k:=?_)
  | refine iq_loadN hm (k:=?_)
  | refine iq_load1z hm (k:=?_)
  | refine m_ret_agg hm (h:=?_)
  | refine m_ret2_agg hm (h:=?_)
  | refine op_move (k:=?_)
  | refine op_assign (k:=?_)
  | refine op_pick_true (k:=?_)
  | refine op_pick_false (k:=?_)
  | refine op_lss (k:=?_)
  | refine op_neq (k:=?_)
  | refine op_neq_str (k:=?_)
  | refine op_neq_bool (k:=?_)
  | refine op_neq_flat (k:=?_)
  | refine op_len_str (k:=?_)
  | refine op_len_slice (k:=?_)
  | refine op_add (k:=?_)
  | refine op_add_u8 (k:=?_)
  | refine op_indexAddr_arr (k:=?_)
  | refine op_fieldAddr (k:=?_)
  | refine op_indexAddr (k:=?_)
  | refine op_load1 (k:=?_)
  | refine wl_skip (k:=?_)
  | (refine wl_split_dec (h1:=fun _ => ?_) (h0:=fun _ => ?_)<;> (try first | contradiction | (exfalso; omega)))
  | (refine wl_split (h1:=fun _ => ?_) (h0:=fun _ => ?_)<;> (fail_if_success contradiction))
  | refine wl_nil ?_
  | refine at_then_normal ?_
  | refine at_then_ret ?_
  | refine at_then_exit ?_
  | refine at_block_normal ?_
  | refine at_block_ret ?_
  | refine at_block_exit ?_
  | refine at_block_other (h:=?_)
  | refine wc_seq ?_
  | refine wc_region ?_
  | refine wc_block ?_
  | refine wc_skip ?_
  | refine wc_exit ?_
  | refine wc_ret ?_
  | refine at_ret1 (h:=?_)
  | refine wc_quiet (h:=?_)
  | (refine wq_nil ?_; intro _ hkq; replace hm := hm.kept0 hkq; clear hkq)
  | (refine wq_nil_tail ?_; intro _ hkq; replace hm := hm.kept0 hkq; clear hkq)
  | refine wc_cond_true (ht:=?_)
  | refine wc_cond_false (hf:=?_)
  | (refine wc_cond_dec (ht:=fun _ => ?_) (hf:=fun _ => ?_)<;> (try first | contradiction | (exfalso; omega)))
  | refine wc_cond (ht:=fun _ => ?_) (hf:=fun _ => ?_)
  | refine q_move (k:=?_)
  | refine q_assign (k:=?_)
  | refine q_pick_true (k:=?_)
  | refine q_pick_false (k:=?_)
  | refine q_lss (k:=?_)
  | refine q_neq (k:=?_)
  | refine q_neq_str (k:=?_)
  | refine q_neq_bool (k:=?_)
  | refine q_neq_flat (k:=?_)
  | refine q_len_str (k:=?_)
  | refine q_len_slice (k:=?_)
  | refine q_add (k:=?_)
  | refine q_add_u8 (k:=?_)
  | refine q_indexAddr_arr (k:=?_)
  | refine q_fieldAddr (k:=?_)
  | refine q_indexAddr (k:=?_)
  | refine q_load1 (k:=?_)
  | refine wq_skip (k:=?_)
  | (refine wq_split_dec (h1:=fun _ => ?_) (h0:=fun _ => ?_)<;> (try first | contradiction | (exfalso; omega)))
  | (refine wq_split (h1:=fun _ => ?_) (h0:=fun _ => ?_)<;> (fail_if_success contradiction)))
  all_goals try (exfalso; first | omega | contradiction)
  all_goals try (exfalso; simp_all; done)
  refine wc_loop (fun k : Nat => [(2, ptr b2), (3, ptr b3), (67, nt it.params.length), (68, nt k)])
    (fun k w' => Mem E I [.cell b3 (itCells it.kind it.name it.label (.slice bp it.params.length dp) (.slice bs_ it.sends.length ds') (.slice bb it.body.length db) it.at_ it.size it.mark (.slice bd it.diags.length dd)) 38, .cell b2 (itCells it.kind it.name it.label (.slice ap it.params.length cp) (.slice as_ it.sends.length cs') (.slice ab it.body.length cb) it.at_ it.size it.mark (.slice ad it.diags.length cd)) 38] w' ∧ k ≤ it.params.length)
    (fun k => it.params.length - k) 0 (by exact ⟨rfl, rfl, rfl, rfl, trivial⟩) ⟨hm, Nat.zero_le _⟩ ?_
  clear hm
  rintro k w2 ⟨hm, hk⟩
  try dsimp only at hm hk ⊢
  by_cases hlt : k < it.params.length
  · have hg : it.params[k]? = some it.params[k] := List.getElem?_eq_getElem hlt
    generalize it.params[k] = x at hg
    repeat' (first
    | (refine iq_indexFlat (d:=74) (enc:=encPar) (z:=x) (hr:=r1) (he:=fun _ => rfl) (hz:=by exact hg) (k:=?_); intro b1 o1 p1)
    | (refine iq_indexFlat (d:=79) (enc:=encPar) (z:=x) (hr:=s1) (he:=fun _ => rfl) (hz:=by exact hg) (k:=?_); intro b2 o2 p2)
    | (refine m_box (d:=2) hm (k:=?_); clear hm; intro b2 _ hm)
    | (refine m_box (d:=3) hm (k:=?_); clear hm; intro b3 _ hm)
    | refine m_load1 hm (k:=?_)
    | refine i_load1 hm (k:=?_)
    | refine m_loadAll hm (k:=?_)
    | refine i_loadN hm (k:=?_)
    | refine i_load1z hm (k:=?_)
    | refine mq_load1 hm (k:=?_)
    | refine iq_load1 hm (k:=?_)
    | refine mq_loadAll hm (k:=?_)
    | refine iq_loadN hm (k:=?_)
    | refine iq_load1z hm (k:=?_)
    | refine m_ret_agg hm (h:=?_)
    | refine m_ret2_agg hm (h:=?_)
    | refine op_move (k:=?_)
    | refine op_assign (k:=?_)
    | refine op_pick_true (k:=?_)
    | refine op_pick_false (k:=?_)
    | refine op_lss (k:=?_)
    | refine op_neq (k:=?_)
    | refine op_neq_str (k:=?_)
    | refine op_neq_bool (k:=?_)
    | refine op_neq_flat (k:=?_)
    | refine op_len_str (k:=?_)
    | refine op_len_slice (k:=?_)
    | refine op_add (k:=?_)
    | refine op_add_u8 (k:=?_)
    | refine op_indexAddr_arr (k:=?_)
    | refine op_fieldAddr (k:=?_)
    | refine op_indexAddr (k:=?_)
    | refine op_load1 (k:=?_)
    | refine wl_skip (k:=?_)
    | (refine wl_split_dec (h1:=fun _ => ?_) (h0:=fun _ => ?_)<;> (try first | contradiction | (exfalso; omega)))
    | (refine wl_split (h1:=fun _ => ?_) (h0:=fun _ => ?_)<;> (fail_if_success contradiction))
    | refine wl_nil ?_
    | refine at_then_normal ?_
    | refine at_then_ret ?_
    | refine at_then_exit ?_
    | refine at_block_normal ?_
    | refine at_block_ret ?_
    | refine at_block_exit ?_
    | refine at_block_other (h:=?_)
    | refine wc_seq ?_
    | refine wc_region ?_
    | refine wc_block ?_
    | refine wc_skip ?_
    | refine wc_exit ?_
    | refine wc_ret ?_
    | refine at_ret1 (h:=?_)
    | refine wc_quiet (h:=?_)
    | (refine wq_nil ?_; intro _ hkq; replace hm := hm.kept0 hkq; clear hkq)
    | (refine wq_nil_tail ?_; intro _ hkq; replace hm := hm.kept0 hkq; clear hkq)
    | refine wc_cond_true (ht:=?_)
    | refine wc_cond_false (hf:=?_)
    | (refine wc_cond_dec (ht:=fun _ => ?_) (hf:=fun _ => ?_)<;> (try first | contradiction | (exfalso; omega)))
    | refine wc_cond (ht:=fun _ => ?_) (hf:=fun _ => ?_)
    | refine q_move (k:=?_)
    | refine q_assign (k:=?_)
    | refine q_pick_true (k:=?_)
    | refine q_pick_false (k:=?_)
    | refine q_lss (k:=?_)
    | refine q_neq (k:=?_)
    | refine q_neq_str (k:=?_)
    | refine q_neq_bool (k:=?_)
    | refine q_neq_flat (k:=?_)
    | refine q_len_str (k:=?_)
    | refine q_len_slice (k:=?_)
    | refine q_add (k:=?_)
    | refine q_add_u8 (k:=?_)
    | refine q_indexAddr_arr (k:=?_)
    | refine q_fieldAddr (k:=?_)
    | refine q_indexAddr (k:=?_)
    | refine q_load1 (k:=?_)
    | refine wq_skip (k:=?_)
    | (refine wq_split_dec (h1:=fun _ => ?_) (h0:=fun _ => ?_)<;> (try first | contradiction | (exfalso; omega)))
    | (refine wq_split (h1:=fun _ => ?_) (h0:=fun _ => ?_)<;> (fail_if_success contradiction)))
    all_goals try (exfalso; omega)
    · have := par_same x
      simp_all
    · exact at_round (k + 1 : Nat) (by exact ⟨rfl, rfl, rfl, rfl, trivial⟩) ⟨hm, by omega⟩ (by omega)
  · skip
    repeat' (first
    | (refine m_box (d:=2) hm (k:=?_); clear hm; intro b2 _ hm)
    | (refine m_box (d:=3) hm (k:=?_); clear hm; intro b3 _ hm)
    | refine m_load1 hm (k:=?_)
    | refine i_load1 hm (k:=?_)
    | refine m_loadAll hm (k:=?_)
    | refine i_loadN hm (k:=?_)
    | refine i_load1z hm (k:=?_)
    | refine mq_load1 hm (k:=?_)
    | refine iq_load1 hm (k:=?_)
    | refine mq_loadAll hm (k:=?_)
    | refine iq_loadN hm (k:=?_)
    | refine iq_load1z hm (k:=?_)
    | refine m_ret_agg hm (h:=?_)
    | refine m_ret2_agg hm (h:=?_)
    | refine op_move (k:=?_)
    | refine op_assign (k:=?_)
    | refine op_pick_true (k:=?_)
    | refine op_pick_false (k:=?_)
    | refine op_lss (k:=?_)
    | refine op_neq (k:=?_)
    | refine op_neq_str (k:=?_)
    | refine op_neq_bool (k:=?_)
    | refine op_neq_flat (k:=?_)
    | refine op_len_str (k:=?_)
    | refine op_len_slice (k:=?_)
    | refine op_add (k:=?_)
    | refine op_add_u8 (k:=?_)
    | refine op_indexAddr_arr (k:=?_)
    | refine op_fieldAddr (k:=?_)
    | refine op_indexAddr (k:=?_)
    | refine op_load1 (k:=?_)
    | refine wl_skip (k:=?_)
    | (refine wl_split_dec (h1:=fun _ => ?_) (h0:=fun _ => ?_)<;> (try first | contradiction | (exfalso; omega)))
    | (refine wl_split (h1:=fun _ => ?_) (h0:=fun _ => ?_)<;> (fail_if_success contradiction))
    | refine wl_nil ?_
    | refine at_then_normal ?_
    | refine at_then_ret ?_
    | refine at_then_exit ?_
    | refine at_block_normal ?_
    | refine at_block_ret ?_
    | refine at_block_exit ?_
    | refine at_block_other (h:=?_)
    | refine wc_seq ?_
    | refine wc_region ?_
    | refine wc_block ?_
    | refine wc_skip ?_
    | refine wc_exit ?_
    | refine wc_ret ?_
    | refine at_ret1 (h:=?_)
    | refine wc_quiet (h:=?_)
    | (refine wq_nil ?_; intro _ hkq; replace hm := hm.kept0 hkq; clear hkq)
    | (refine wq_nil_tail ?_; intro _ hkq; replace hm := hm.kept0 hkq; clear hkq)
    | refine wc_cond_true (ht:=?_)
    | refine wc_cond_false (hf:=?_)
    | (refine wc_cond_dec (ht:=fun _ => ?_) (hf:=fun _ => ?_)<;> (try first | contradiction | (exfalso; omega)))
    | refine wc_cond (ht:=fun _ => ?_) (hf:=fun _ => ?_)
    | refine q_move (k:=?_)
    | refine q_assign (k:=?_)
    | refine q_pick_true (k:=?_)
    | refine q_pick_false (k:=?_)
    | refine q_lss (k:=?_)
    | refine q_neq (k:=?_)
    | refine q_neq_str (k:=?_)
    | refine q_neq_bool (k:=?_)
    | refine q_neq_flat (k:=?_)
    | refine q_len_str (k:=?_)
    | refine q_len_slice (k:=?_)
    | refine q_add (k:=?_)
    | refine q_add_u8 (k:=?_)
    | refine q_indexAddr_arr (k:=?_)
    | refine q_fieldAddr (k:=?_)
    | refine q_indexAddr (k:=?_)
    | refine q_load1 (k:=?_)
    | refine wq_skip (k:=?_)
    | (refine wq_split_dec (h1:=fun _ => ?_) (h0:=fun _ => ?_)<;> (try first | contradiction | (exfalso; omega)))
    | (refine wq_split (h1:=fun _ => ?_) (h0:=fun _ => ?_)<;> (fail_if_success contradiction)))
    all_goals try (exfalso; omega)
    refine wc_loop (fun k : Nat => [(2, ptr b2), (3, ptr b3), (85, nt it.sends.length), (86, nt k)])
      (fun k w' => Mem E I [.cell b3 (itCells it.kind it.name it.label (.slice bp it.params.length dp) (.slice bs_ it.sends.length ds') (.slice bb it.body.length db) it.at_ it.size it.mark (.slice bd it.diags.length dd)) 38, .cell b2 (itCells it.kind it.name it.label (.slice ap it.params.length cp) (.slice as_ it.sends.length cs') (.slice ab it.body.length cb) it.at_ it.size it.mark (.slice ad it.diags.length cd)) 38] w' ∧ k ≤ it.sends.length)
      (fun k => it.sends.length - k) 0 (by exact ⟨rfl, rfl, rfl, rfl, trivial⟩) ⟨hm, Nat.zero_le _⟩ ?_
    clear hm
    rintro j w3 ⟨hm, hj⟩
    try dsimp only at hm hj ⊢
    by_cases hlt2 : j < it.sends.length
    · have hg : it.sends[j]? = some it.sends[j] := List.getElem?_eq_getElem hlt2
      generalize it.sends[j] = x at hg
      repeat' (first
      | (refine iq_indexFlat (d:=92) (enc:=encRf) (z:=x) (hr:=r2) (he:=fun _ => rfl) (hz:=by exact hg) (k:=?_); intro b1 o1 p1)
      | (refine iq_indexFlat (d:=97) (enc:=encRf) (z:=x) (hr:=s2) (he:=fun _ => rfl) (hz:=by exact hg) (k:=?_); intro b2 o2 p2)
      | (refine m_box (d:=2) hm (k:=?_); clear hm; intro b2 _ hm)
      | (refine m_box (d:=3) hm (k:=?_); clear hm; intro b3 _ hm)
      | refine m_load1 hm (k:=?_)
      | refine i_load1 hm (k:=?_)
      | refine m_loadAll hm (k:=?_)
      | refine i_loadN hm (k:=?_)
      | refine i_load1z hm (k:=?_)
      | refine mq_load1 hm (k:=?_)
      | refine iq_load1 hm (k:=?_)
      | refine mq_loadAll hm (k:=?_)
      | refine iq_loadN hm (k:=?_)
      | refine iq_load1z hm (k:=?_)
      | refine m_ret_agg hm (h:=?_)
      | refine m_ret2_agg hm (h:=?_)
      | refine op_move (k:=?_)
      | refine op_assign (k:=?_)
      | refine op_pick_true (k:=?_)
      | refine op_pick_false (k:=?_)
      | refine op_lss (k:=?_)
      | refine op_neq (k:=?_)
      | refine op_neq_str (k:=?_)
      | refine op_neq_bool (k:=?_)
      | refine op_neq_flat (k:=?_)
      | refine op_len_str (k:=?_)
      | refine op_len_slice (k:=?_)
      | refine op_add (k:=?_)
      | refine op_add_u8 (k:=?_)
      | refine op_indexAddr_arr (k:=?_)
      | refine op_fieldAddr (k:=?_)
      | refine op_indexAddr (k:=?_)
      | refine op_load1 (k:=?_)
      | refine wl_skip (k:=?_)
      | (refine wl_split_dec (h1:=fun _ => ?_) (h0:=fun _ => ?_)<;> (try first | contradiction | (exfalso; omega)))
      | (refine wl_split (h1:=fun _ => ?_) (h0:=fun _ => ?_)<;> (fail_if_success contradiction))
      | refine wl_nil ?_
      | refine at_then_normal ?_
      | refine at_then_ret ?_
      | refine at_then_exit ?_
      | refine at_block_normal ?_
      | refine at_block_ret ?_
      | refine at_block_exit ?_
      | refine at_block_other (h:=?_)
      | refine wc_seq ?_
      | refine wc_region ?_
      | refine wc_block ?_
      | refine wc_skip ?_
      | refine wc_exit ?_
      | refine wc_ret ?_
      | refine at_ret1 (h:=?_)
      | refine wc_quiet (h:=?_)
      | (refine wq_nil ?_; intro _ hkq; replace hm := hm.kept0 hkq; clear hkq)
      | (refine wq_nil_tail ?_; intro _ hkq; replace hm := hm.kept0 hkq; clear hkq)
      | refine wc_cond_true (ht:=?_)
      | refine wc_cond_false (hf:=?_)
      | (refine wc_cond_dec (ht:=fun _ => ?_) (hf:=fun _ => ?_)<;> (try first | contradiction | (exfalso; omega)))
      | refine wc_cond (ht:=fun _ => ?_) (hf:=fun _ => ?_)
      | refine q_move (k:=?_)
      | refine q_assign (k:=?_)
      | refine q_pick_true (k:=?_)
      | refine q_pick_false (k:=?_)
      | refine q_lss (k:=?_)
      | refine q_neq (k:=?_)
      | refine q_neq_str (k:=?_)
      | refine q_neq_bool (k:=?_)
      | refine q_neq_flat (k:=?_)
      | refine q_len_str (k:=?_)
      | refine q_len_slice (k:=?_)
      | refine q_add (k:=?_)
      | refine q_add_u8 (k:=?_)
      | refine q_indexAddr_arr (k:=?_)
      | refine q_fieldAddr (k:=?_)
      | refine q_indexAddr (k:=?_)
      | refine q_load1 (k:=?_)
      | refine wq_skip (k:=?_)
      | (refine wq_split_dec (h1:=fun _ => ?_) (h0:=fun _ => ?_)<;> (try first | contradiction | (exfalso; omega)))
      | (refine wq_split (h1:=fun _ => ?_) (h0:=fun _ => ?_)<;> (fail_if_success contradiction)))
      all_goals try (exfalso; omega)
      · have := rf_same x
        simp_all
      · exact at_round (j + 1 : Nat) (by exact ⟨rfl, rfl, rfl, rfl, trivial⟩) ⟨hm, by omega⟩ (by omega)
    · skip
      repeat' (first
      | (refine m_call (d:=105) hm (hc:=c4 _ (Le.refl _)) (k:=?_); clear hm; rintro _ I2 _ _ ⟨rfl, rfl⟩ hle hm; have hleI2 := hle; try simp only [setn] at hm)
      | (refine m_call (d:=111) hm (hc:=c5 _ hleI2) (k:=?_); clear hm; rintro _ I3 _ _ ⟨rfl, rfl⟩ hle hm; have hleI3 := hle; try simp only [setn] at hm)
      | (refine m_box (d:=2) hm (k:=?_); clear hm; intro b2 _ hm)
      | (refine m_box (d:=3) hm (k:=?_); clear hm; intro b3 _ hm)
      | refine m_load1 hm (k:=?_)
      | refine i_load1 hm (k:=?_)
      | refine m_loadAll hm (k:=?_)
      | refine i_loadN hm (k:=?_)
      | refine i_load1z hm (k:=?_)
      | refine mq_load1 hm (k:=?_)
      | refine iq_load1 hm (k:=?_)
      | refine mq_loadAll hm (k:=?_)
      | refine iq_loadN hm (k:=?_)
      | refine iq_load1z hm (k:=?_)
      | refine m_ret_agg hm (h:=?_)
      | refine m_ret2_agg hm (h:=?_)
      | refine op_move (k:=?_)
      | refine op_assign (k:=?_)
      | refine op_pick_true (k:=?_)
      | refine op_pick_false (k:=?_)
      | refine op_lss (k:=?_)
      | refine op_neq (k:=?_)
      | refine op_neq_str (k:=?_)
      | refine op_neq_bool (k:=?_)
      | refine op_neq_flat (k:=?_)
      | refine op_len_str (k:=?_)
      | refine op_len_slice (k:=?_)
      | refine op_add (k:=?_)
      | refine op_add_u8 (k:=?_)
      | refine op_indexAddr_arr (k:=?_)
      | refine op_fieldAddr (k:=?_)
      | refine op_indexAddr (k:=?_)
      | refine op_load1 (k:=?_)
      | refine wl_skip (k:=?_)
      | (refine wl_split_dec (h1:=fun _ => ?_) (h0:=fun _ => ?_)<;> (try first | contradiction | (exfalso; omega)))
      | (refine wl_split (h1:=fun _ => ?_) (h0:=fun _ => ?_)<;> (fail_if_success contradiction))
      | refine wl_nil ?_
      | refine at_then_normal ?_
      | refine at_then_ret ?_
      | refine at_then_exit ?_
      | refine at_block_normal ?_
      | refine at_block_ret ?_
      | refine at_block_exit ?_
      | refine at_block_other (h:=?_)
      | refine wc_seq ?_
      | refine wc_region ?_
      | refine wc_block ?_
      | refine wc_skip ?_
      | refine wc_exit ?_
      | refine wc_ret ?_
      | refine at_ret1 (h:=?_)
      | refine wc_quiet (h:=?_)
      | (refine wq_nil ?_; intro _ hkq; replace hm := hm.kept0 hkq; clear hkq)
      | (refine wq_nil_tail ?_; intro _ hkq; replace hm := hm.kept0 hkq; clear hkq)
      | refine wc_cond_true (ht:=?_)
      | refine wc_cond_false (hf:=?_)
      | (refine wc_cond_dec (ht:=fun _ => ?_) (hf:=fun _ => ?_)<;> (try first | contradiction | (exfalso; omega)))
      | refine wc_cond (ht:=fun _ => ?_) (hf:=fun _ => ?_)
      | refine q_move (k:=?_)
      | refine q_assign (k:=?_)
      | refine q_pick_true (k:=?_)
      | refine q_pick_false (k:=?_)
      | refine q_lss (k:=?_)
      | refine q_neq (k:=?_)
      | refine q_neq_str (k:=?_)
      | refine q_neq_bool (k:=?_)
      | refine q_neq_flat (k:=?_)
      | refine q_len_str (k:=?_)
      | refine q_len_slice (k:=?_)
      | refine q_add (k:=?_)
      | refine q_add_u8 (k:=?_)
      | refine q_indexAddr_arr (k:=?_)
      | refine q_fieldAddr (k:=?_)
      | refine q_indexAddr (k:=?_)
      | refine q_load1 (k:=?_)
      | refine wq_skip (k:=?_)
      | (refine wq_split_dec (h1:=fun _ => ?_) (h0:=fun _ => ?_)<;> (try first | contradiction | (exfalso; omega)))
      | (refine wq_split (h1:=fun _ => ?_) (h0:=fun _ => ?_)<;> (fail_if_success contradiction)))
      all_goals try (exfalso; omega)
      exact ⟨I3, [], ⟨rfl, rfl⟩, hm.left (H := [])⟩
theorem p_sameFile (its : List Sp.Itm) (hl : its.length ≤ 64) (hsm : ∀ it ∈ its, it.small) (I : Imm) (a b : Option Addr) (c d : Nat) (xs ys : List Value) (hr : RowI I 38 10 (.slice a its.length c) its.length xs) (hx : ItsAt I its xs)
    (hr2 : RowI I 38 10 (.slice b its.length d) its.length ys) (hy : ItsAt I its ys) :
    CalM Try.prog 6 #[.agg [.slice a its.length c].toArray, .agg [.slice b its.length d].toArray] I [] ToTrue := by
  refine CalM.of fun w E hm => enter (N := 32) Try.func6 rfl [(0, .agg [.slice a its.length c].toArray), (1, .agg [.slice b its.length d].toArray)] args2 rfl ?_
  repeat' (first
  | (refine m_box (d:=2) hm (k:=?_); clear hm; intro b2 _ hm)
  | (refine m_box (d:=3) hm (k:=?_); clear hm; intro b3 _ hm)
  | refine m_load1 hm (k:=?_)
  | refine i_load1 hm (k:=?_)
  | refine m_loadAll hm (k:=?_)
  | refine i_loadN hm (k:=?_)
  | refine i_load1z hm (k:=?_)
  | refine mq_load1 hm (k:=?_)
  | refine iq_load1 hm (k:=?_)
  | refine mq_loadAll hm (k:=?_)
  | refine iq_loadN hm (k:=?_)
  | refine iq_load1z hm (k:=?_)
  | refine m_ret_agg hm (h:=?_)
  | refine m_ret2_agg hm (h:=?_)
  | refine op_move (k:=?_)
  | refine op_assign (k:=?_)
  | refine op_lss (k:=?_)
  | refine op_neq (k:=?_)
  | refine op_neq_str (k:=?_)
  | refine op_neq_bool (k:=?_)
  | refine op_neq_flat (k:=?_)
  | refine op_len_str (k:=?_)
  | refine op_len_slice (k:=?_)
  | refine op_not (k:=?_)
  | refine op_add (k:=?_)
  | refine op_add_u8 (k:=?_)
  | refine op_indexAddr_arr (k:=?_)
  | refine op_fieldAddr (k:=?_)
  | refine op_indexAddr (k:=?_)
  | refine op_load1 (k:=?_)
  | refine wl_nil ?_
  | refine at_then_normal ?_
  | refine at_then_ret ?_
  | refine at_then_exit ?_
  | refine at_block_normal ?_
  | refine at_block_ret ?_
  | refine at_block_exit ?_
  | refine at_block_other (h:=?_)
  | refine wc_seq ?_
  | refine wc_region ?_
  | refine wc_block ?_
  | refine wc_skip ?_
  | refine wc_exit ?_
  | refine wc_ret ?_
  | refine at_ret1 (h:=?_)
  | refine wc_quiet (h:=?_)
  | (refine wq_nil ?_; intro _ hkq; replace hm := hm.kept0 hkq; clear hkq)
  | (refine wq_nil_tail ?_; intro _ hkq; replace hm := hm.kept0 hkq; clear hkq)
  | refine wc_cond_true (ht:=?_)
  | refine wc_cond_false (hf:=?_)
  | (refine wc_cond_dec (ht:=fun _ => ?_) (hf:=fun _ => ?_)<;> (try first | contradiction | (exfalso; omega)))
  | refine wc_cond (ht:=fun _ => ?_) (hf:=fun _ => ?_)
  | refine q_move (k:=?_)
  | refine q_assign (k:=?_)
  | refine q_lss (k:=?_)
  | refine q_neq (k:=?_)
  | refine q_neq_str (k:=?_)
  | refine q_neq_bool (k:=?_)
  | refine q_neq_flat (k:=?_)
  | refine q_len_str (k:=?_)
  | refine q_len_slice (k:=?_)
  | refine q_not (k:=?_)
  | refine q_add (k:=?_)
  | refine q_add_u8 (k:=?_)
  | refine q_indexAddr_arr (k:=?_)
  | refine q_fieldAddr (k:=?_)
  | refine q_indexAddr (k:=?_)
  | refine q_load1 (k:=?_))
  all_goals try (exfalso; omega)
  refine wc_loop (fun x : KI => [(2, ptr b2), (3, ptr b3), (15, nt its.length), (16, nt x.k)])
    (fun x w' => Mem E x.I [.cell b3 [.slice b its.length d] 24, .cell b2 [.slice a its.length c] 24] w' ∧ Le I x.I ∧ x.k ≤ its.length)
    (fun x => its.length - x.k) ⟨0, I⟩ (by exact ⟨rfl, rfl, rfl, rfl, trivial⟩) ⟨hm, Le.refl _, Nat.zero_le _⟩ ?_
  clear hm
  rintro ⟨k, I1⟩ w2 ⟨hm, hle1, hk⟩
  dsimp only at hm hle1 hk ⊢
  by_cases hlt : k < its.length
  · have hg : its[k]? = some its[k] := List.getElem?_eq_getElem hlt
    have hs := hsm _ (List.getElem_mem hlt)
    obtain ⟨cs, hcs⟩ : ∃ cs, cs = (xs.drop (k * 10)).take 10 := ⟨_, rfl⟩
    obtain ⟨ds, hds⟩ : ∃ ds, ds = (ys.drop (k * 10)).take 10 := ⟨_, rfl⟩
    have g1 := hx.get hg
    have g2 := hy.get hg
    rw [← hcs] at g1
    rw [← hds] at g2
    have l1 := g1.len
    have l2 := g2.len
    have hcall := fun (I' : Imm) (m : Le I I') => p_sameItem _ hs I' cs ds (g1.le m) (g2.le m)
    have hri := hr.le hle1
    have hri2 := hr2.le hle1
    repeat' (first
    | (refine wc_semi_mem (id:=6) (hm.perm pm0) 10 11 (h:=?_); clear hm; intro wd hR hm)
    | (refine iw_indexAddr (d:=22) (hr:=hri) (k:=?_); intro bt ot hpt; rw [show ((k : Int).toNat * 10) = k * 10 from rfl, ← hcs] at hpt)
    | (refine iw_indexAddr (d:=27) (hr:=hri2) (k:=?_); intro bu ou hpu; rw [show ((k : Int).toNat * 10) = k * 10 from rfl, ← hds] at hpu)
    | (refine iw_loadN (d:=23) hR (hp:=hpt) (hc:=by exact l1) (k:=?_))
    | (refine iw_loadN (d:=28) hR (hp:=hpu) (hc:=by exact l2) (k:=?_))
    | (refine mt_call (d:=29) hm (hc:=hcall _ hle1) (k:=?_); clear hm; rintro _ I2 _ _ ⟨rfl, rfl⟩ hle hm; have hleI2 := hle; try simp only [setn] at hm)
    | refine mw_loadAll hR (k:=?_)
    | refine mw_load1 hR (k:=?_)
    | refine iw_load1 hR (k:=?_)
    | refine mt_struct hm (k:=?_)
    | refine iw_loadN hR (k:=?_)
    | (refine ws_nil ?_; replace hm := hR.back hm; clear hR; try simp only [setn] at hm)
    | (refine m_box (d:=2) hm (k:=?_); clear hm; intro b2 _ hm)
    | (refine m_box (d:=3) hm (k:=?_); clear hm; intro b3 _ hm)
    | refine m_load1 hm (k:=?_)
    | refine i_load1 hm (k:=?_)
    | refine m_loadAll hm (k:=?_)
    | refine i_loadN hm (k:=?_)
    | refine i_load1z hm (k:=?_)
    | refine mq_load1 hm (k:=?_)
    | refine iq_load1 hm (k:=?_)
    | refine mq_loadAll hm (k:=?_)
    | refine iq_loadN hm (k:=?_)
    | refine iq_load1z hm (k:=?_)
    | refine m_ret_agg hm (h:=?_)
    | refine m_ret2_agg hm (h:=?_)
    | refine op_move (k:=?_)
    | refine op_assign (k:=?_)
    | refine op_lss (k:=?_)
    | refine op_neq (k:=?_)
    | refine op_neq_str (k:=?_)
    | refine op_neq_bool (k:=?_)
    | refine op_neq_flat (k:=?_)
    | refine op_len_str (k:=?_)
    | refine op_len_slice (k:=?_)
    | refine op_not (k:=?_)
    | refine op_add (k:=?_)
    | refine op_add_u8 (k:=?_)
    | refine op_indexAddr_arr (k:=?_)
    | refine op_fieldAddr (k:=?_)
    | refine op_indexAddr (k:=?_)
    | refine op_load1 (k:=?_)
    | refine wl_nil ?_
    | refine at_then_normal ?_
    | refine at_then_ret ?_
    | refine at_then_exit ?_
    | refine at_block_normal ?_
    | refine at_block_ret ?_
    | refine at_block_exit ?_
    | refine at_block_other (h:=?_)
    | refine wc_seq ?_
    | refine wc_region ?_
    | refine wc_block ?_
    | refine wc_skip ?_
    | refine wc_exit ?_
    | refine wc_ret ?_
    | refine at_ret1 (h:=?_)
    | refine wc_quiet (h:=?_)
    | (refine wq_nil ?_; intro _ hkq; replace hm := hm.kept0 hkq; clear hkq)
    | (refine wq_nil_tail ?_; intro _ hkq; replace hm := hm.kept0 hkq; clear hkq)
    | refine wc_cond_true (ht:=?_)
    | refine wc_cond_false (hf:=?_)
    | (refine wc_cond_dec (ht:=fun _ => ?_) (hf:=fun _ => ?_)<;> (try first | contradiction | (exfalso; omega)))
    | refine wc_cond (ht:=fun _ => ?_) (hf:=fun _ => ?_)
    | refine q_move (k:=?_)
    | refine q_assign (k:=?_)
    | refine q_lss (k:=?_)
    | refine q_neq (k:=?_)
    | refine q_neq_str (k:=?_)
    | refine q_neq_bool (k:=?_)
    | refine q_neq_flat (k:=?_)
    | refine q_len_str (k:=?_)
    | refine q_len_slice (k:=?_)
    | refine q_not (k:=?_)
    | refine q_add (k:=?_)
    | refine q_add_u8 (k:=?_)
    | refine q_indexAddr_arr (k:=?_)
    | refine q_fieldAddr (k:=?_)
    | refine q_indexAddr (k:=?_)
    | refine q_load1 (k:=?_)
    | refine v_move (k:=?_)
    | refine v_assign (k:=?_)
    | refine v_lss (k:=?_)
    | refine v_neq (k:=?_)
    | refine v_neq_str (k:=?_)
    | refine v_neq_bool (k:=?_)
    | refine v_neq_flat (k:=?_)
    | refine v_len_str (k:=?_)
    | refine v_len_slice (k:=?_)
    | refine v_not (k:=?_)
    | refine v_add (k:=?_)
    | refine v_add_u8 (k:=?_)
    | refine v_indexAddr_arr (k:=?_)
    | refine v_fieldAddr (k:=?_)
    | refine v_indexAddr (k:=?_)
    | refine v_load1 (by rfl) (by rfl) (by rfl) (by assumption) (by rfl) ?_
    | refine wv_nil ?_
    | refine ws_nil ?_)
    all_goals try (exfalso; first | omega | contradiction)
    exact at_round (⟨k + 1, I2⟩ : KI) (by exact ⟨rfl, rfl, rfl, rfl, trivial⟩) ⟨hm, hle1.trans hleI2, by dsimp only; omega⟩ (by dsimp only; omega)
  · obtain rfl : k = its.length := by omega
    repeat' (first
    | (refine m_box (d:=2) hm (k:=?_); clear hm; intro b2 _ hm)
    | (refine m_box (d:=3) hm (k:=?_); clear hm; intro b3 _ hm)
    | refine m_load1 hm (k:=?_)
    | refine i_load1 hm (k:=?_)
    | refine m_loadAll hm (k:=?_)
    | refine i_loadN hm (k:=?_)
    | refine i_load1z hm (k:=?_)
    | refine mq_load1 hm (k:=?_)
    | refine iq_load1 hm (k:=?_)
    | refine mq_loadAll hm (k:=?_)
    | refine iq_loadN hm (k:=?_)
    | refine iq_load1z hm (k:=?_)
    | refine m_ret_agg hm (h:=?_)
    | refine m_ret2_agg hm (h:=?_)
    | refine op_move (k:=?_)
    | refine op_assign (k:=?_)
    | refine op_lss (k:=?_)
    | refine op_neq (k:=?_)
    | refine op_neq_str (k:=?_)
    | refine op_neq_bool (k:=?_)
    | refine op_neq_flat (k:=?_)
    | refine op_len_str (k:=?_)
    | refine op_len_slice (k:=?_)
    | refine op_not (k:=?_)
    | refine op_add (k:=?_)
    | refine op_add_u8 (k:=?_)
    | refine op_indexAddr_arr (k:=?_)
    | refine op_fieldAddr (k:=?_)
    | refine op_indexAddr (k:=?_)
    | refine op_load1 (k:=?_)
    | refine wl_nil ?_
    | refine at_then_normal ?_
    | refine at_then_ret ?_
    | refine at_then_exit ?_
    | refine at_block_normal ?_
    | refine at_block_ret ?_
    | refine at_block_exit ?_
    | refine at_block_other (h:=?_)
    | refine wc_seq ?_
    | refine wc_region ?_
    | refine wc_block ?_
    | refine wc_skip ?_
    | refine wc_exit ?_
    | refine wc_ret ?_
    | refine at_ret1 (h:=?_)
    | refine wc_quiet (h:=?_)
    | (refine wq_nil ?_; intro _ hkq; replace hm := hm.kept0 hkq; clear hkq)
    | (refine wq_nil_tail ?_; intro _ hkq; replace hm := hm.kept0 hkq; clear hkq)
    | refine wc_cond_true (ht:=?_)
    | refine wc_cond_false (hf:=?_)
    | (refine wc_cond_dec (ht:=fun _ => ?_) (hf:=fun _ => ?_)<;> (try first | contradiction | (exfalso; omega)))
    | refine wc_cond (ht:=fun _ => ?_) (hf:=fun _ => ?_)
    | refine q_move (k:=?_)
    | refine q_assign (k:=?_)
    | refine q_lss (k:=?_)
    | refine q_neq (k:=?_)
    | refine q_neq_str (k:=?_)
    | refine q_neq_bool (k:=?_)
    | refine q_neq_flat (k:=?_)
    | refine q_len_str (k:=?_)
    | refine q_len_slice (k:=?_)
    | refine q_not (k:=?_)
    | refine q_add (k:=?_)
    | refine q_add_u8 (k:=?_)
    | refine q_indexAddr_arr (k:=?_)
    | refine q_fieldAddr (k:=?_)
    | refine q_indexAddr (k:=?_)
    | refine q_load1 (k:=?_))
    all_goals try (exfalso; omega)
    exact ⟨I1, [], ⟨rfl, rfl⟩, hm.left (H := [])⟩
end Go.Proofs.Ytjfkjpbkmpofkaa
end
