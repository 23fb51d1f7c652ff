/- Own work: texts PpK, one behind the other. -/
import Derived.Test.YtkbiakajlfmakaaDoorNm12
section
namespace Go.Proofs.YtkbiakajlfmakaaDoor
open Go.Fw
section
variable {T : Sp.Src} {pb f : Nat} {I : Imm} {la : Option Addr} {lc deep : Nat} {da : Option Addr} {dc : Nat} {s : Sp.St}
set_option maxHeartbeats 4000000 in
theorem ps_let1 (hT : Ok T) (hC : Conv I) (hr : TokR I T la lc) (hi : s.i ≤ T.l.length) (hf : 5 * (T.l.length - s.i) + 5 ≤ f + 1) (hd : s.ds.length + 8 * (T.l.length - s.i) + 32 ≤ 1099511627776) (hdp : deep ≤ 12) (h5 : (T.tok s.i).text = [108, 101, 116]) (h6 : T.is (s.next.named T).2.i [58] = true) :
    CalM Tryd.prog 186 #[ptr pb] I (QSt pb la lc T s deep da dc) (ToQS pb la lc T deep (Sp.stm T (f + 1) deep s)) := by
  have h2 := hT.size
  have h3 := hT.len
  have h1 := hT.at_ s.i
  have hlt : s.i < T.l.length := Sp.tok_lt (by rw [h5]; simp)
  have het0 := fun da dc => p_eat (pb := pb) (deep := deep) (da := da) (dc := dc) s [108, 101, 116] (by simp) hr hT hi
  rw [Sp.is_of h5 (by simp), if_pos (by rfl)] at het0
  have hnm := fun da dc => p_name (pb := pb) (deep := deep) (da := da) (dc := dc) s.next hr hT (by rw [Sp.next_ds]; omega) (by rw [Sp.next_i]; omega)
  have hgn := Sp.goes_named T s.next
  rw [Sp.stm]
  dsimp only
  rw [h5, if_pos rfl]
  generalize s.next.named T = q at hnm hgn h6 ⊢
  have hq1 := hgn.le
  have hq2 := hgn.top (by rw [Sp.next_i]; omega)
  have hq3 := hgn.ds
  rw [Sp.next_i] at hq1 hq3
  rw [Sp.next_ds] at hq3
  have hec := fun da dc => p_eat (pb := pb) (deep := deep) (da := da) (dc := dc) q.2 [58] (by simp) hr hT hq2
  rw [h6] at hec
  have hlc := Sp.is_lt h6
  rw [if_pos (by rfl)] at hec
  rw [h6, if_neg (by simp)]
  have hlab := fun da dc => p_label (pb := pb) (deep := deep) (da := da) (dc := dc) q.2.next hr hT (by rw [Sp.next_i]; omega) (by rw [Sp.next_i, Sp.next_ds]; omega)
  have hgl := Sp.goes_lab T q.2.next
  generalize Sp.lab T q.2.next = lb at hlab hgl ⊢
  have hl1 := hgl.le
  have hl2 := hgl.top (by rw [Sp.next_i]; omega)
  have hl3 := hgl.ds
  rw [Sp.next_i] at hl1 hl3
  rw [Sp.next_ds] at hl3
  have hnd := fun da dc => p_must (pb := pb) (deep := deep) (da := da) (dc := dc) lb.2 [61] (by simp) hr hT (by omega) (by omega)
  have hge := Sp.goes_need T lb.2 [61]
  generalize lb.2.need T [61] = e at hnd hge ⊢
  have he1 := hge.le
  have he2 := hge.top (by omega)
  have he3 := hge.ds
  have hex := fun da dc => (p_atomexpr T pb hT f).2 I la lc deep da dc e.2 1 hC hr (by omega) (by omega) (by omega) hdp
  have hg := (Sp.goes_expr T f).2.2.1 deep 1 e.2
  generalize Sp.expr T f deep 1 e.2 = r at hex hg ⊢
  have hg1 := hg.le
  have hg2 := hg.top (by omega)
  have hg3 := hg.ds
  have hg4 := (Sp.goes_need T r.2 [59]).top hg2
  refine CalM.of fun w E hm => enter (N := 154) Tryd.func186 rfl [(0, ptr pb)] args1 rfl ?_
  repeat' (first
    | (refine m_readC hm (by rfl) (by rfl) (by rfl) (by first | exact sub_nil | exact sub1_0 | exact sub1_1 | exact sub1_2 | exact sub1_3 | exact sub2_0 | exact sub2_1 | exact sub2_2 | exact sub2_3 | exact sub2_4) (p_here s hr) ?_; clear hm; intro _ hm)
    | (refine wc_quiet_tail (id := 38) 5 (by kernel_rfl) ?_)
    | (refine q_max (by rfl) (by rfl) (by rfl) (by rfl) ?_)
    | (refine m_call hm (by rfl) (by rfl) (by rfl) (by first | exact pm0 | exact pm1_0 | exact pm1_1 | exact pm1_2 | exact pm1_3 | exact pm2_0 | exact pm2_1 | exact pm2_2 | exact pm2_3 | exact pm2_4 | exact pm3_0 | exact pm3_1 | exact pm3_2) (het0 _ _) ?_; clear hm; rintro _ _ _ _ ⟨rfl, rfl, dk0, ck0, rfl⟩ hle hm; try simp only [setn] at hm)
    | (refine m_readC hm (by rfl) (by rfl) (by rfl) (by first | exact sub_nil | exact sub1_0 | exact sub1_1 | exact sub1_2 | exact sub1_3 | exact sub2_0 | exact sub2_1 | exact sub2_2 | exact sub2_3 | exact sub2_4) (p_here s.next hr) ?_; clear hm; intro _ hm)
    | (refine m_call hm (by rfl) (by rfl) (by rfl) (by first | exact pm0 | exact pm1_0 | exact pm1_1 | exact pm1_2 | exact pm1_3 | exact pm2_0 | exact pm2_1 | exact pm2_2 | exact pm2_3 | exact pm2_4 | exact pm3_0 | exact pm3_1 | exact pm3_2) (hnm _ _) ?_; clear hm; rintro _ _ _ _ ⟨rfl, rfl, da1, dc1, rfl⟩ hle hm; try simp only [setn] at hm)
    | (refine m_call hm (by rfl) (by rfl) (by rfl) (by first | exact pm0 | exact pm1_0 | exact pm1_1 | exact pm1_2 | exact pm1_3 | exact pm2_0 | exact pm2_1 | exact pm2_2 | exact pm2_3 | exact pm2_4 | exact pm3_0 | exact pm3_1 | exact pm3_2) (hec _ _) ?_; clear hm; rintro _ _ _ _ ⟨rfl, rfl, da5, dc5, rfl⟩ hle hm; try simp only [setn] at hm)
    | (refine m_call hm (by rfl) (by rfl) (by rfl) (by first | exact pm0 | exact pm1_0 | exact pm1_1 | exact pm1_2 | exact pm1_3 | exact pm2_0 | exact pm2_1 | exact pm2_2 | exact pm2_3 | exact pm2_4 | exact pm3_0 | exact pm3_1 | exact pm3_2) (hlab _ _) ?_; clear hm; rintro _ _ _ _ ⟨rfl, rfl, da3, dc3, rfl⟩ hle hm; try simp only [setn] at hm)
    | (refine m_call hm (by rfl) (by rfl) (by rfl) (by first | exact pm0 | exact pm1_0 | exact pm1_1 | exact pm1_2 | exact pm1_3 | exact pm2_0 | exact pm2_1 | exact pm2_2 | exact pm2_3 | exact pm2_4 | exact pm3_0 | exact pm3_1 | exact pm3_2) (hnd _ _) ?_; clear hm; rintro _ _ _ _ ⟨rfl, rfl, da4, dc4, rfl⟩ hle hm; try simp only [setn] at hm)
    | (refine m_call hm (by rfl) (by rfl) (by rfl) (by first | exact pm0 | exact pm1_0 | exact pm1_1 | exact pm1_2 | exact pm1_3 | exact pm2_0 | exact pm2_1 | exact pm2_2 | exact pm2_3 | exact pm2_4 | exact pm3_0 | exact pm3_1 | exact pm3_2) (hex _ _) ?_; clear hm; rintro _ I2 _ _ ⟨⟨ea, ec, xs, rfl, hrow, hexs⟩, da', dc', rfl⟩ hle hm; have hleI2 := hle; try simp only [setn] at hm)
    | (refine m_call hm (by rfl) (by rfl) (by rfl) (by first | exact pm0 | exact pm1_0 | exact pm1_1 | exact pm1_2 | exact pm1_3 | exact pm2_0 | exact pm2_1 | exact pm2_2 | exact pm2_3 | exact pm2_4 | exact pm3_0 | exact pm3_1 | exact pm3_2) (p_must r.2 [59] (by simp) (hr.le hleI2) hT (by omega) hg2) ?_; clear hm; rintro _ _ _ _ ⟨rfl, rfl, da2, dc2, rfl⟩ hle hm; try simp only [setn] at hm)
    | (refine mq_readC hm (by rfl) (by rfl) (by rfl) (by first | exact sub_nil | exact sub1_0 | exact sub1_1 | exact sub1_2 | exact sub1_3 | exact sub2_0 | exact sub2_1 | exact sub2_2 | exact sub2_3 | exact sub2_4) (p_last (r.2.need T [59]).2 (hr.le hleI2) hT hg4) ?_)
    | (refine m_allocS (d := 2) hm (by rfl) (by rfl) ?_; clear hm; intro b2 _ hm)
    | (refine m_varS (d := 3) hm (by rfl) (by rfl) (by rfl) (by rfl) (by rfl) ?_; clear hm; intro b3 _ hm)
    | refine m_load1 hm (by rfl) (by rfl) (by rfl) (by first | exact gt0 | exact gt1 | exact gt2 | exact gt3 | exact gt4 | exact gt5 | exact gt6) (by rfl) ?_
    | refine m_loadAll hm (by rfl) (by rfl) (by rfl) (by first | exact gt0 | exact gt1 | exact gt2 | exact gt3 | exact gt4 | exact gt5 | exact gt6) (by rfl) ?_
    | refine mq_load1 hm (by rfl) (by rfl) (by rfl) (by first | exact gt0 | exact gt1 | exact gt2 | exact gt3 | exact gt4 | exact gt5 | exact gt6) (by rfl) ?_
    | (refine m_storeAll hm (by rfl) (by rfl) (by rfl) (by rfl) (by first | exact gt0 | exact gt1 | exact gt2 | exact gt3 | exact gt4 | exact gt5 | exact gt6) (by rfl) (by rfl) (by rfl) ?_; clear hm; intro _ hm; try simp only [setn] at hm)
    | (refine m_store1 hm (by rfl) (by rfl) (by rfl) (by rfl) (by first | exact gt0 | exact gt1 | exact gt2 | exact gt3 | exact gt4 | exact gt5 | exact gt6) (by rfl) (by rfl) (by rfl) ?_; clear hm; intro _ hm; try simp only [setn] at hm)
    | (refine m_storeN hm (by rfl) (by rfl) (by rfl) (by rfl) (by first | exact gt0 | exact gt1 | exact gt2 | exact gt3 | exact gt4 | exact gt5 | exact gt6) (by rfl) (by rfl) (by rfl) ?_; clear hm; intro _ hm; try simp only [setn] at hm)
    | refine m_ret_agg hm (by rfl) (by rfl) (by first | exact gt0 | exact gt1 | exact gt2 | exact gt3 | exact gt4 | exact gt5 | exact gt6) (by rfl) ?_
    | refine op_move (by rfl) (by rfl) (by rfl) ?_
    | refine op_assign (by rfl) (by rfl) (by rfl) ?_
    | refine op_not (by rfl) (by rfl) (by rfl) ?_
    | refine op_fieldAddr (by rfl) (by rfl) (by rfl) ?_
    | refine op_struct (by rfl) (by rfl) (by rfl) (by rfl) ?_
    | refine wl_nil ?_
    | refine at_then_normal ?_
    | refine at_block_normal ?_
    | refine wc_seq ?_
    | refine wc_region ?_
    | refine wc_block ?_
    | refine wc_ret ?_
    | (refine wq_nil_tail ?_; intro _ hkq; replace hm := hm.kept0 hkq; clear hkq)
    | refine wc_cond_true (by rfl) ?_
    | refine q_move (by rfl) (by rfl) (by rfl) ?_
    | refine q_fieldAddr (by rfl) (by rfl) (by rfl) ?_)
  all_goals try (exfalso; first | omega | contradiction)
  exact ⟨I2, _, ⟨⟨ea, ec, xs, none, 0, [], none, 0, [], rfl, hrow, hexs, st_row0 _, .nil, st_row0 _, .nil⟩, da2, dc2, rfl⟩, hm.left (H := [_, _])⟩
set_option maxHeartbeats 4000000 in
theorem ps_let0 (hT : Ok T) (hC : Conv I) (hr : TokR I T la lc) (hi : s.i ≤ T.l.length) (hf : 5 * (T.l.length - s.i) + 5 ≤ f + 1) (hd : s.ds.length + 8 * (T.l.length - s.i) + 32 ≤ 1099511627776) (hdp : deep ≤ 12) (h5 : (T.tok s.i).text = [108, 101, 116]) (h6 : T.is (s.next.named T).2.i [58] = false) :
    CalM Tryd.prog 186 #[ptr pb] I (QSt pb la lc T s deep da dc) (ToQS pb la lc T deep (Sp.stm T (f + 1) deep s)) := by
  have h2 := hT.size
  have h3 := hT.len
  have h1 := hT.at_ s.i
  have hlt : s.i < T.l.length := Sp.tok_lt (by rw [h5]; simp)
  have het0 := fun da dc => p_eat (pb := pb) (deep := deep) (da := da) (dc := dc) s [108, 101, 116] (by simp) hr hT hi
  rw [Sp.is_of h5 (by simp), if_pos (by rfl)] at het0
  have hnm := fun da dc => p_name (pb := pb) (deep := deep) (da := da) (dc := dc) s.next hr hT (by rw [Sp.next_ds]; omega) (by rw [Sp.next_i]; omega)
  have hgn := Sp.goes_named T s.next
  rw [Sp.stm]
  dsimp only
  rw [h5, if_pos rfl]
  generalize s.next.named T = q at hnm hgn h6 ⊢
  have hq1 := hgn.le
  have hq2 := hgn.top (by rw [Sp.next_i]; omega)
  have hq3 := hgn.ds
  rw [Sp.next_i] at hq1 hq3
  rw [Sp.next_ds] at hq3
  have hec := fun da dc => p_eat (pb := pb) (deep := deep) (da := da) (dc := dc) q.2 [58] (by simp) hr hT hq2
  rw [h6] at hec
  rw [if_neg (by simp)] at hec
  rw [h6, if_pos (by rfl)]
  have hnd := fun da dc => p_must (pb := pb) (deep := deep) (da := da) (dc := dc) q.2 [61] (by simp) hr hT (by omega) (by omega)
  have hge := Sp.goes_need T q.2 [61]
  generalize q.2.need T [61] = e at hnd hge ⊢
  have he1 := hge.le
  have he2 := hge.top (by omega)
  have he3 := hge.ds
  have hex := fun da dc => (p_atomexpr T pb hT f).2 I la lc deep da dc e.2 1 hC hr (by omega) (by omega) (by omega) hdp
  have hg := (Sp.goes_expr T f).2.2.1 deep 1 e.2
  generalize Sp.expr T f deep 1 e.2 = r at hex hg ⊢
  have hg1 := hg.le
  have hg2 := hg.top (by omega)
  have hg3 := hg.ds
  have hg4 := (Sp.goes_need T r.2 [59]).top hg2
  refine CalM.of fun w E hm => enter (N := 154) Tryd.func186 rfl [(0, ptr pb)] args1 rfl ?_
  repeat' (first
    | (refine m_readC hm (by rfl) (by rfl) (by rfl) (by first | exact sub_nil | exact sub1_0 | exact sub1_1 | exact sub1_2 | exact sub1_3 | exact sub2_0 | exact sub2_1 | exact sub2_2 | exact sub2_3 | exact sub2_4) (p_here s hr) ?_; clear hm; intro _ hm)
    | (refine wc_quiet_tail (id := 38) 5 (by kernel_rfl) ?_)
    | (refine q_max (by rfl) (by rfl) (by rfl) (by rfl) ?_)
    | (refine m_call hm (by rfl) (by rfl) (by rfl) (by first | exact pm0 | exact pm1_0 | exact pm1_1 | exact pm1_2 | exact pm1_3 | exact pm2_0 | exact pm2_1 | exact pm2_2 | exact pm2_3 | exact pm2_4 | exact pm3_0 | exact pm3_1 | exact pm3_2) (het0 _ _) ?_; clear hm; rintro _ _ _ _ ⟨rfl, rfl, dk0, ck0, rfl⟩ hle hm; try simp only [setn] at hm)
    | (refine m_readC hm (by rfl) (by rfl) (by rfl) (by first | exact sub_nil | exact sub1_0 | exact sub1_1 | exact sub1_2 | exact sub1_3 | exact sub2_0 | exact sub2_1 | exact sub2_2 | exact sub2_3 | exact sub2_4) (p_here s.next hr) ?_; clear hm; intro _ hm)
    | (refine m_call hm (by rfl) (by rfl) (by rfl) (by first | exact pm0 | exact pm1_0 | exact pm1_1 | exact pm1_2 | exact pm1_3 | exact pm2_0 | exact pm2_1 | exact pm2_2 | exact pm2_3 | exact pm2_4 | exact pm3_0 | exact pm3_1 | exact pm3_2) (hnm _ _) ?_; clear hm; rintro _ _ _ _ ⟨rfl, rfl, da1, dc1, rfl⟩ hle hm; try simp only [setn] at hm)
    | (refine m_call hm (by rfl) (by rfl) (by rfl) (by first | exact pm0 | exact pm1_0 | exact pm1_1 | exact pm1_2 | exact pm1_3 | exact pm2_0 | exact pm2_1 | exact pm2_2 | exact pm2_3 | exact pm2_4 | exact pm3_0 | exact pm3_1 | exact pm3_2) (hec _ _) ?_; clear hm; rintro _ _ _ _ ⟨rfl, rfl, da5, dc5, rfl⟩ hle hm; try simp only [setn] at hm)
    | (refine m_call hm (by rfl) (by rfl) (by rfl) (by first | exact pm0 | exact pm1_0 | exact pm1_1 | exact pm1_2 | exact pm1_3 | exact pm2_0 | exact pm2_1 | exact pm2_2 | exact pm2_3 | exact pm2_4 | exact pm3_0 | exact pm3_1 | exact pm3_2) (hnd _ _) ?_; clear hm; rintro _ _ _ _ ⟨rfl, rfl, da4, dc4, rfl⟩ hle hm; try simp only [setn] at hm)
    | (refine m_call hm (by rfl) (by rfl) (by rfl) (by first | exact pm0 | exact pm1_0 | exact pm1_1 | exact pm1_2 | exact pm1_3 | exact pm2_0 | exact pm2_1 | exact pm2_2 | exact pm2_3 | exact pm2_4 | exact pm3_0 | exact pm3_1 | exact pm3_2) (hex _ _) ?_; clear hm; rintro _ I2 _ _ ⟨⟨ea, ec, xs, rfl, hrow, hexs⟩, da', dc', rfl⟩ hle hm; have hleI2 := hle; try simp only [setn] at hm)
    | (refine m_call hm (by rfl) (by rfl) (by rfl) (by first | exact pm0 | exact pm1_0 | exact pm1_1 | exact pm1_2 | exact pm1_3 | exact pm2_0 | exact pm2_1 | exact pm2_2 | exact pm2_3 | exact pm2_4 | exact pm3_0 | exact pm3_1 | exact pm3_2) (p_must r.2 [59] (by simp) (hr.le hleI2) hT (by omega) hg2) ?_; clear hm; rintro _ _ _ _ ⟨rfl, rfl, da2, dc2, rfl⟩ hle hm; try simp only [setn] at hm)
    | (refine mq_readC hm (by rfl) (by rfl) (by rfl) (by first | exact sub_nil | exact sub1_0 | exact sub1_1 | exact sub1_2 | exact sub1_3 | exact sub2_0 | exact sub2_1 | exact sub2_2 | exact sub2_3 | exact sub2_4) (p_last (r.2.need T [59]).2 (hr.le hleI2) hT hg4) ?_)
    | (refine m_allocS (d := 2) hm (by rfl) (by rfl) ?_; clear hm; intro b2 _ hm)
    | (refine m_varS (d := 3) hm (by rfl) (by rfl) (by rfl) (by rfl) (by rfl) ?_; clear hm; intro b3 _ hm)
    | refine m_load1 hm (by rfl) (by rfl) (by rfl) (by first | exact gt0 | exact gt1 | exact gt2 | exact gt3 | exact gt4 | exact gt5 | exact gt6) (by rfl) ?_
    | refine m_loadAll hm (by rfl) (by rfl) (by rfl) (by first | exact gt0 | exact gt1 | exact gt2 | exact gt3 | exact gt4 | exact gt5 | exact gt6) (by rfl) ?_
    | refine mq_load1 hm (by rfl) (by rfl) (by rfl) (by first | exact gt0 | exact gt1 | exact gt2 | exact gt3 | exact gt4 | exact gt5 | exact gt6) (by rfl) ?_
    | (refine m_storeAll hm (by rfl) (by rfl) (by rfl) (by rfl) (by first | exact gt0 | exact gt1 | exact gt2 | exact gt3 | exact gt4 | exact gt5 | exact gt6) (by rfl) (by rfl) (by rfl) ?_; clear hm; intro _ hm; try simp only [setn] at hm)
    | (refine m_store1 hm (by rfl) (by rfl) (by rfl) (by rfl) (by first | exact gt0 | exact gt1 | exact gt2 | exact gt3 | exact gt4 | exact gt5 | exact gt6) (by rfl) (by rfl) (by rfl) ?_; clear hm; intro _ hm; try simp only [setn] at hm)
    | (refine m_storeN hm (by rfl) (by rfl) (by rfl) (by rfl) (by first | exact gt0 | exact gt1 | exact gt2 | exact gt3 | exact gt4 | exact gt5 | exact gt6) (by rfl) (by rfl) (by rfl) ?_; clear hm; intro _ hm; try simp only [setn] at hm)
    | refine m_ret_agg hm (by rfl) (by rfl) (by first | exact gt0 | exact gt1 | exact gt2 | exact gt3 | exact gt4 | exact gt5 | exact gt6) (by rfl) ?_
    | refine op_move (by rfl) (by rfl) (by rfl) ?_
    | refine op_assign (by rfl) (by rfl) (by rfl) ?_
    | refine op_not (by rfl) (by rfl) (by rfl) ?_
    | refine op_fieldAddr (by rfl) (by rfl) (by rfl) ?_
    | refine op_struct (by rfl) (by rfl) (by rfl) (by rfl) ?_
    | refine wl_nil ?_
    | refine at_then_normal ?_
    | refine at_block_normal ?_
    | refine wc_seq ?_
    | refine wc_region ?_
    | refine wc_block ?_
    | refine wc_skip ?_
    | refine wc_ret ?_
    | (refine wq_nil_tail ?_; intro _ hkq; replace hm := hm.kept0 hkq; clear hkq)
    | refine wc_cond_true (by rfl) ?_
    | refine wc_cond_false (by rfl) ?_
    | refine q_move (by rfl) (by rfl) (by rfl) ?_
    | refine q_fieldAddr (by rfl) (by rfl) (by rfl) ?_)
  all_goals try (exfalso; first | omega | contradiction)
  exact ⟨I2, _, ⟨⟨ea, ec, xs, none, 0, [], none, 0, [], rfl, hrow, hexs, st_row0 _, .nil, st_row0 _, .nil⟩, da2, dc2, rfl⟩, hm.left (H := [_, _])⟩
set_option maxHeartbeats 4000000 in
theorem ps_if1 (hT : Ok T) (hC : Conv I) (hr : TokR I T la lc) (hi : s.i ≤ T.l.length) (hf : 5 * (T.l.length - s.i) + 5 ≤ f + 1) (hd : s.ds.length + 8 * (T.l.length - s.i) + 32 ≤ 1099511627776) (hdp : deep ≤ 12) (ihb : ∀ g, g ≤ f → BlockQ T pb g) (h5 : (T.tok s.i).text = [105, 102]) (h6 : T.is (Sp.block T f deep (Sp.expr T f deep 1 s.next).2).2.i [101, 108, 115, 101] = true) :
    CalM Tryd.prog 186 #[ptr pb] I (QSt pb la lc T s deep da dc) (ToQS pb la lc T deep (Sp.stm T (f + 1) deep s)) := by
  have h2 := hT.size
  have h3 := hT.len
  have h1 := hT.at_ s.i
  have hlt : s.i < T.l.length := Sp.tok_lt (by rw [h5]; simp)
  have het0 := fun da dc => p_eat (pb := pb) (deep := deep) (da := da) (dc := dc) s [108, 101, 116] (by simp) hr hT hi
  rw [Sp.is_no (by rw [h5]; simp : (T.tok s.i).text ≠ [108, 101, 116]), if_neg (by simp)] at het0
  have het1 := fun da dc => p_eat (pb := pb) (deep := deep) (da := da) (dc := dc) s [105, 102] (by simp) hr hT hi
  rw [Sp.is_of h5 (by simp), if_pos (by rfl)] at het1
  have hex := fun da dc => (p_atomexpr T pb hT f).2 I la lc deep da dc s.next 1 hC hr (by rw [Sp.next_i]; omega) (by rw [Sp.next_i]; omega) (by rw [Sp.next_i, Sp.next_ds]; omega) hdp
  have hg := (Sp.goes_expr T f).2.2.1 deep 1 s.next
  rw [Sp.stm]
  dsimp only
  rw [h5, if_neg (by decide), if_pos rfl]
  generalize Sp.expr T f deep 1 s.next = r at hex hg h6 ⊢
  have hg1 := hg.le
  have hg2 := hg.top (by rw [Sp.next_i]; omega)
  have hg3 := hg.ds
  rw [Sp.next_i] at hg1 hg3
  rw [Sp.next_ds] at hg3
  have hbl := fun I (hC : Conv I) (hr : TokR I T la lc) da dc => ihb f (Nat.le_refl _) I la lc deep da dc r.2 hC hr hg2 (by omega) (by omega) hdp
  have hgb := (Sp.goes_block T f).1 deep r.2
  generalize Sp.block T f deep r.2 = b at hbl hgb h6 ⊢
  have hb1 := hgb.le
  have hb2 := hgb.top hg2
  have hb3 := hgb.ds
  have his := fun I (hr : TokR I T la lc) da dc => p_eat (I := I) (pb := pb) (deep := deep) (da := da) (dc := dc) b.2 [101, 108, 115, 101] (by simp) hr hT hb2
  rw [h6] at his ⊢
  have hle' := Sp.is_lt h6
  rw [if_pos rfl] at his ⊢
  have hel := fun I (hC : Conv I) (hr : TokR I T la lc) da dc => ihb f (Nat.le_refl _) I la lc deep da dc b.2.next hC hr (by rw [Sp.next_i]; omega) (by rw [Sp.next_i]; omega) (by rw [Sp.next_i, Sp.next_ds]; omega) hdp
  have hge := (Sp.goes_block T f).1 deep b.2.next
  generalize Sp.block T f deep b.2.next = c at hel hge ⊢
  have he1 := hge.le
  have he2 := hge.top (by rw [Sp.next_i]; omega)
  have he3 := hge.ds
  refine CalM.of fun w E hm => enter (N := 154) Tryd.func186 rfl [(0, ptr pb)] args1 rfl ?_
  repeat' (first
    | (refine m_readC hm (by rfl) (by rfl) (by rfl) (by first | exact sub_nil | exact sub1_0 | exact sub1_1 | exact sub1_2 | exact sub1_3 | exact sub2_0 | exact sub2_1 | exact sub2_2 | exact sub2_3 | exact sub2_4) (p_here s hr) ?_; clear hm; intro _ hm)
    | (refine wc_quiet_tail (id := 38) 5 (by kernel_rfl) ?_)
    | (refine q_max (by rfl) (by rfl) (by rfl) (by rfl) ?_)
    | (refine m_call hm (by rfl) (by rfl) (by rfl) (by first | exact pm0 | exact pm1_0 | exact pm1_1 | exact pm1_2 | exact pm1_3 | exact pm2_0 | exact pm2_1 | exact pm2_2 | exact pm2_3 | exact pm2_4 | exact pm3_0 | exact pm3_1 | exact pm3_2) (het0 _ _) ?_; clear hm; rintro _ _ _ _ ⟨rfl, rfl, dk0, ck0, rfl⟩ hle hm; try simp only [setn] at hm)
    | (refine m_call hm (by rfl) (by rfl) (by rfl) (by first | exact pm0 | exact pm1_0 | exact pm1_1 | exact pm1_2 | exact pm1_3 | exact pm2_0 | exact pm2_1 | exact pm2_2 | exact pm2_3 | exact pm2_4 | exact pm3_0 | exact pm3_1 | exact pm3_2) (het1 _ _) ?_; clear hm; rintro _ _ _ _ ⟨rfl, rfl, dk1, ck1, rfl⟩ hle hm; try simp only [setn] at hm)
    | (refine m_call hm (by rfl) (by rfl) (by rfl) (by first | exact pm0 | exact pm1_0 | exact pm1_1 | exact pm1_2 | exact pm1_3 | exact pm2_0 | exact pm2_1 | exact pm2_2 | exact pm2_3 | exact pm2_4 | exact pm3_0 | exact pm3_1 | exact pm3_2) (hex _ _) ?_; clear hm; rintro _ I2 _ _ ⟨⟨ea, ec, xs, rfl, hrow, hexs⟩, da', dc', rfl⟩ hle hm; have hleI2 := hle; try simp only [setn] at hm)
    | (refine m_call (d := 50) hm (by rfl) (by rfl) (by rfl) (by first | exact pm0 | exact pm1_0 | exact pm1_1 | exact pm1_2 | exact pm1_3 | exact pm2_0 | exact pm2_1 | exact pm2_2 | exact pm2_3 | exact pm2_4 | exact pm3_0 | exact pm3_1 | exact pm3_2) (hel I3 (hC.le (hleI2.trans hleI3)) (hr.le (hleI2.trans hleI3)) _ _) ?_; clear hm; rintro _ I4 _ _ ⟨⟨a4, c4, xs4, rfl, hrow4, hsts4⟩, da4, dc4, rfl⟩ hle hm; have hleI4 := hle; try simp only [setn] at hm)
    | (refine m_call (d := 45) hm (by rfl) (by rfl) (by rfl) (by first | exact pm0 | exact pm1_0 | exact pm1_1 | exact pm1_2 | exact pm1_3 | exact pm2_0 | exact pm2_1 | exact pm2_2 | exact pm2_3 | exact pm2_4 | exact pm3_0 | exact pm3_1 | exact pm3_2) (hbl I2 (hC.le hleI2) (hr.le hleI2) _ _) ?_; clear hm; rintro _ I3 _ _ ⟨⟨a3, c3, xs3, rfl, hrow3, hsts3⟩, da3, dc3, rfl⟩ hle hm; have hleI3 := hle; try simp only [setn] at hm)
    | (refine m_call hm (by rfl) (by rfl) (by rfl) (by first | exact pm0 | exact pm1_0 | exact pm1_1 | exact pm1_2 | exact pm1_3 | exact pm2_0 | exact pm2_1 | exact pm2_2 | exact pm2_3 | exact pm2_4 | exact pm3_0 | exact pm3_1 | exact pm3_2) (his I3 (hr.le (hleI2.trans hleI3)) _ _) ?_; clear hm; rintro _ _ _ _ ⟨rfl, rfl, da6, dc6, rfl⟩ hle hm; try simp only [setn] at hm)
    | (refine mq_readC hm (by rfl) (by rfl) (by rfl) (by first | exact sub_nil | exact sub1_0 | exact sub1_1 | exact sub1_2 | exact sub1_3 | exact sub2_0 | exact sub2_1 | exact sub2_2 | exact sub2_3 | exact sub2_4) (p_last c.2 (hr.le ((hleI2.trans hleI3).trans hleI4)) hT he2) ?_)
    | (refine m_allocS (d := 2) hm (by rfl) (by rfl) ?_; clear hm; intro b2 _ hm)
    | (refine m_varS (d := 3) hm (by rfl) (by rfl) (by rfl) (by rfl) (by rfl) ?_; clear hm; intro b3 _ hm)
    | refine m_loadAll hm (by rfl) (by rfl) (by rfl) (by first | exact gt0 | exact gt1 | exact gt2 | exact gt3 | exact gt4 | exact gt5 | exact gt6) (by rfl) ?_
    | refine mq_load1 hm (by rfl) (by rfl) (by rfl) (by first | exact gt0 | exact gt1 | exact gt2 | exact gt3 | exact gt4 | exact gt5 | exact gt6) (by rfl) ?_
    | (refine m_storeAll hm (by rfl) (by rfl) (by rfl) (by rfl) (by first | exact gt0 | exact gt1 | exact gt2 | exact gt3 | exact gt4 | exact gt5 | exact gt6) (by rfl) (by rfl) (by rfl) ?_; clear hm; intro _ hm; try simp only [setn] at hm)
    | (refine m_store1 hm (by rfl) (by rfl) (by rfl) (by rfl) (by first | exact gt0 | exact gt1 | exact gt2 | exact gt3 | exact gt4 | exact gt5 | exact gt6) (by rfl) (by rfl) (by rfl) ?_; clear hm; intro _ hm; try simp only [setn] at hm)
    | (refine m_storeN hm (by rfl) (by rfl) (by rfl) (by rfl) (by first | exact gt0 | exact gt1 | exact gt2 | exact gt3 | exact gt4 | exact gt5 | exact gt6) (by rfl) (by rfl) (by rfl) ?_; clear hm; intro _ hm; try simp only [setn] at hm)
    | refine m_ret_agg hm (by rfl) (by rfl) (by first | exact gt0 | exact gt1 | exact gt2 | exact gt3 | exact gt4 | exact gt5 | exact gt6) (by rfl) ?_
    | refine op_move (by rfl) (by rfl) (by rfl) ?_
    | refine op_assign (by rfl) (by rfl) (by rfl) ?_
    | refine op_fieldAddr (by rfl) (by rfl) (by rfl) ?_
    | refine op_struct (by rfl) (by rfl) (by rfl) (by rfl) ?_
    | refine wl_nil ?_
    | refine at_then_normal ?_
    | refine at_block_normal ?_
    | refine wc_seq ?_
    | refine wc_region ?_
    | refine wc_block ?_
    | refine wc_ret ?_
    | (refine wq_nil_tail ?_; intro _ hkq; replace hm := hm.kept0 hkq; clear hkq)
    | refine wc_cond_true (by rfl) ?_
    | refine wc_cond_false (by rfl) ?_
    | refine q_move (by rfl) (by rfl) (by rfl) ?_
    | refine q_fieldAddr (by rfl) (by rfl) (by rfl) ?_)
  all_goals try (exfalso; first | omega | contradiction)
  exact ⟨I4, _, ⟨⟨ea, ec, xs, a3, c3, xs3, a4, c4, xs4, rfl, hrow.le (hleI3.trans hleI4), ExsAt.le (hleI3.trans hleI4) _ _ hexs, hrow3.le hleI4, StsAt.le hleI4 _ _ hsts3, hrow4, hsts4⟩, da4, dc4, rfl⟩, hm.left (H := [_, _])⟩
set_option maxHeartbeats 4000000 in
theorem ps_if0 (hT : Ok T) (hC : Conv I) (hr : TokR I T la lc) (hi : s.i ≤ T.l.length) (hf : 5 * (T.l.length - s.i) + 5 ≤ f + 1) (hd : s.ds.length + 8 * (T.l.length - s.i) + 32 ≤ 1099511627776) (hdp : deep ≤ 12) (ihb : ∀ g, g ≤ f → BlockQ T pb g) (h5 : (T.tok s.i).text = [105, 102]) (h6 : T.is (Sp.block T f deep (Sp.expr T f deep 1 s.next).2).2.i [101, 108, 115, 101] = false) :
    CalM Tryd.prog 186 #[ptr pb] I (QSt pb la lc T s deep da dc) (ToQS pb la lc T deep (Sp.stm T (f + 1) deep s)) := by
  have h2 := hT.size
  have h3 := hT.len
  have h1 := hT.at_ s.i
  have hlt : s.i < T.l.length := Sp.tok_lt (by rw [h5]; simp)
  have het0 := fun da dc => p_eat (pb := pb) (deep := deep) (da := da) (dc := dc) s [108, 101, 116] (by simp) hr hT hi
  rw [Sp.is_no (by rw [h5]; simp : (T.tok s.i).text ≠ [108, 101, 116]), if_neg (by simp)] at het0
  have het1 := fun da dc => p_eat (pb := pb) (deep := deep) (da := da) (dc := dc) s [105, 102] (by simp) hr hT hi
  rw [Sp.is_of h5 (by simp), if_pos (by rfl)] at het1
  have hex := fun da dc => (p_atomexpr T pb hT f).2 I la lc deep da dc s.next 1 hC hr (by rw [Sp.next_i]; omega) (by rw [Sp.next_i]; omega) (by rw [Sp.next_i, Sp.next_ds]; omega) hdp
  have hg := (Sp.goes_expr T f).2.2.1 deep 1 s.next
  rw [Sp.stm]
  dsimp only
  rw [h5, if_neg (by decide), if_pos rfl]
  generalize Sp.expr T f deep 1 s.next = r at hex hg h6 ⊢
  have hg1 := hg.le
  have hg2 := hg.top (by rw [Sp.next_i]; omega)
  have hg3 := hg.ds
  rw [Sp.next_i] at hg1 hg3
  rw [Sp.next_ds] at hg3
  have hbl := fun I (hC : Conv I) (hr : TokR I T la lc) da dc => ihb f (Nat.le_refl _) I la lc deep da dc r.2 hC hr hg2 (by omega) (by omega) hdp
  have hgb := (Sp.goes_block T f).1 deep r.2
  generalize Sp.block T f deep r.2 = b at hbl hgb h6 ⊢
  have hb1 := hgb.le
  have hb2 := hgb.top hg2
  have hb3 := hgb.ds
  have his := fun I (hr : TokR I T la lc) da dc => p_eat (I := I) (pb := pb) (deep := deep) (da := da) (dc := dc) b.2 [101, 108, 115, 101] (by simp) hr hT hb2
  rw [h6] at his ⊢
  rw [if_neg (by simp)] at his ⊢
  refine CalM.of fun w E hm => enter (N := 154) Tryd.func186 rfl [(0, ptr pb)] args1 rfl ?_
  repeat' (first
    | (refine m_readC hm (by rfl) (by rfl) (by rfl) (by first | exact sub_nil | exact sub1_0 | exact sub1_1 | exact sub1_2 | exact sub1_3 | exact sub2_0 | exact sub2_1 | exact sub2_2 | exact sub2_3 | exact sub2_4) (p_here s hr) ?_; clear hm; intro _ hm)
    | (refine wc_quiet_tail (id := 38) 5 (by kernel_rfl) ?_)
    | (refine q_max (by rfl) (by rfl) (by rfl) (by rfl) ?_)
    | (refine m_call hm (by rfl) (by rfl) (by rfl) (by first | exact pm0 | exact pm1_0 | exact pm1_1 | exact pm1_2 | exact pm1_3 | exact pm2_0 | exact pm2_1 | exact pm2_2 | exact pm2_3 | exact pm2_4 | exact pm3_0 | exact pm3_1 | exact pm3_2) (het0 _ _) ?_; clear hm; rintro _ _ _ _ ⟨rfl, rfl, dk0, ck0, rfl⟩ hle hm; try simp only [setn] at hm)
    | (refine m_call hm (by rfl) (by rfl) (by rfl) (by first | exact pm0 | exact pm1_0 | exact pm1_1 | exact pm1_2 | exact pm1_3 | exact pm2_0 | exact pm2_1 | exact pm2_2 | exact pm2_3 | exact pm2_4 | exact pm3_0 | exact pm3_1 | exact pm3_2) (het1 _ _) ?_; clear hm; rintro _ _ _ _ ⟨rfl, rfl, dk1, ck1, rfl⟩ hle hm; try simp only [setn] at hm)
    | (refine m_call hm (by rfl) (by rfl) (by rfl) (by first | exact pm0 | exact pm1_0 | exact pm1_1 | exact pm1_2 | exact pm1_3 | exact pm2_0 | exact pm2_1 | exact pm2_2 | exact pm2_3 | exact pm2_4 | exact pm3_0 | exact pm3_1 | exact pm3_2) (hex _ _) ?_; clear hm; rintro _ I2 _ _ ⟨⟨ea, ec, xs, rfl, hrow, hexs⟩, da', dc', rfl⟩ hle hm; have hleI2 := hle; try simp only [setn] at hm)
    | (refine m_call (d := 45) hm (by rfl) (by rfl) (by rfl) (by first | exact pm0 | exact pm1_0 | exact pm1_1 | exact pm1_2 | exact pm1_3 | exact pm2_0 | exact pm2_1 | exact pm2_2 | exact pm2_3 | exact pm2_4 | exact pm3_0 | exact pm3_1 | exact pm3_2) (hbl I2 (hC.le hleI2) (hr.le hleI2) _ _) ?_; clear hm; rintro _ I3 _ _ ⟨⟨a3, c3, xs3, rfl, hrow3, hsts3⟩, da3, dc3, rfl⟩ hle hm; have hleI3 := hle; try simp only [setn] at hm)
    | (refine m_call hm (by rfl) (by rfl) (by rfl) (by first | exact pm0 | exact pm1_0 | exact pm1_1 | exact pm1_2 | exact pm1_3 | exact pm2_0 | exact pm2_1 | exact pm2_2 | exact pm2_3 | exact pm2_4 | exact pm3_0 | exact pm3_1 | exact pm3_2) (his I3 (hr.le (hleI2.trans hleI3)) _ _) ?_; clear hm; rintro _ _ _ _ ⟨rfl, rfl, da6, dc6, rfl⟩ hle hm; try simp only [setn] at hm)
    | (refine mq_readC hm (by rfl) (by rfl) (by rfl) (by first | exact sub_nil | exact sub1_0 | exact sub1_1 | exact sub1_2 | exact sub1_3 | exact sub2_0 | exact sub2_1 | exact sub2_2 | exact sub2_3 | exact sub2_4) (p_last b.2 (hr.le (hleI2.trans hleI3)) hT hb2) ?_)
    | (refine m_allocS (d := 2) hm (by rfl) (by rfl) ?_; clear hm; intro b2 _ hm)
    | (refine m_varS (d := 3) hm (by rfl) (by rfl) (by rfl) (by rfl) (by rfl) ?_; clear hm; intro b3 _ hm)
    | refine m_loadAll hm (by rfl) (by rfl) (by rfl) (by first | exact gt0 | exact gt1 | exact gt2 | exact gt3 | exact gt4 | exact gt5 | exact gt6) (by rfl) ?_
    | refine mq_load1 hm (by rfl) (by rfl) (by rfl) (by first | exact gt0 | exact gt1 | exact gt2 | exact gt3 | exact gt4 | exact gt5 | exact gt6) (by rfl) ?_
    | (refine m_storeAll hm (by rfl) (by rfl) (by rfl) (by rfl) (by first | exact gt0 | exact gt1 | exact gt2 | exact gt3 | exact gt4 | exact gt5 | exact gt6) (by rfl) (by rfl) (by rfl) ?_; clear hm; intro _ hm; try simp only [setn] at hm)
    | (refine m_store1 hm (by rfl) (by rfl) (by rfl) (by rfl) (by first | exact gt0 | exact gt1 | exact gt2 | exact gt3 | exact gt4 | exact gt5 | exact gt6) (by rfl) (by rfl) (by rfl) ?_; clear hm; intro _ hm; try simp only [setn] at hm)
    | (refine m_storeN hm (by rfl) (by rfl) (by rfl) (by rfl) (by first | exact gt0 | exact gt1 | exact gt2 | exact gt3 | exact gt4 | exact gt5 | exact gt6) (by rfl) (by rfl) (by rfl) ?_; clear hm; intro _ hm; try simp only [setn] at hm)
    | refine m_ret_agg hm (by rfl) (by rfl) (by first | exact gt0 | exact gt1 | exact gt2 | exact gt3 | exact gt4 | exact gt5 | exact gt6) (by rfl) ?_
    | refine op_move (by rfl) (by rfl) (by rfl) ?_
    | refine op_assign (by rfl) (by rfl) (by rfl) ?_
    | refine op_fieldAddr (by rfl) (by rfl) (by rfl) ?_
    | refine op_struct (by rfl) (by rfl) (by rfl) (by rfl) ?_
    | refine wl_nil ?_
    | refine at_then_normal ?_
    | refine at_block_normal ?_
    | refine wc_seq ?_
    | refine wc_region ?_
    | refine wc_block ?_
    | refine wc_skip ?_
    | refine wc_ret ?_
    | (refine wq_nil_tail ?_; intro _ hkq; replace hm := hm.kept0 hkq; clear hkq)
    | refine wc_cond_true (by rfl) ?_
    | refine wc_cond_false (by rfl) ?_
    | refine q_move (by rfl) (by rfl) (by rfl) ?_
    | refine q_fieldAddr (by rfl) (by rfl) (by rfl) ?_)
  all_goals try (exfalso; first | omega | contradiction)
  exact ⟨I3, _, ⟨⟨ea, ec, xs, a3, c3, xs3, none, 0, [], rfl, hrow.le hleI3, ExsAt.le hleI3 _ _ hexs, hrow3, hsts3, st_row0 _, .nil⟩, da6, dc6, rfl⟩, hm.left (H := [_, _])⟩
set_option maxHeartbeats 4000000 in
theorem ps_while (hT : Ok T) (hC : Conv I) (hr : TokR I T la lc) (hi : s.i ≤ T.l.length) (hf : 5 * (T.l.length - s.i) + 5 ≤ f + 1) (hd : s.ds.length + 8 * (T.l.length - s.i) + 32 ≤ 1099511627776) (hdp : deep ≤ 12) (ihb : ∀ g, g ≤ f → BlockQ T pb g) (h5 : (T.tok s.i).text = [119, 104, 105, 108, 101]) :
    CalM Tryd.prog 186 #[ptr pb] I (QSt pb la lc T s deep da dc) (ToQS pb la lc T deep (Sp.stm T (f + 1) deep s)) := by
  have h2 := hT.size
  have h3 := hT.len
  have h1 := hT.at_ s.i
  have hlt : s.i < T.l.length := Sp.tok_lt (by rw [h5]; simp)
  have het0 := fun da dc => p_eat (pb := pb) (deep := deep) (da := da) (dc := dc) s [108, 101, 116] (by simp) hr hT hi
  rw [Sp.is_no (by rw [h5]; simp : (T.tok s.i).text ≠ [108, 101, 116]), if_neg (by simp)] at het0
  have het1 := fun da dc => p_eat (pb := pb) (deep := deep) (da := da) (dc := dc) s [105, 102] (by simp) hr hT hi
  rw [Sp.is_no (by rw [h5]; simp : (T.tok s.i).text ≠ [105, 102]), if_neg (by simp)] at het1
  have het2 := fun da dc => p_eat (pb := pb) (deep := deep) (da := da) (dc := dc) s [119, 104, 105, 108, 101] (by simp) hr hT hi
  rw [Sp.is_of h5 (by simp), if_pos (by rfl)] at het2
  have hex := fun da dc => (p_atomexpr T pb hT f).2 I la lc deep da dc s.next 1 hC hr (by rw [Sp.next_i]; omega) (by rw [Sp.next_i]; omega) (by rw [Sp.next_i, Sp.next_ds]; omega) hdp
  have hg := (Sp.goes_expr T f).2.2.1 deep 1 s.next
  rw [Sp.stm]
  dsimp only
  rw [h5, if_neg (by decide), if_neg (by decide), if_pos rfl]
  generalize Sp.expr T f deep 1 s.next = r at hex hg ⊢
  have hg1 := hg.le
  have hg2 := hg.top (by rw [Sp.next_i]; omega)
  have hg3 := hg.ds
  rw [Sp.next_i] at hg1 hg3
  rw [Sp.next_ds] at hg3
  have hbl := fun I (hC : Conv I) (hr : TokR I T la lc) da dc => ihb f (Nat.le_refl _) I la lc deep da dc r.2 hC hr hg2 (by omega) (by omega) hdp
  have hgb := (Sp.goes_block T f).1 deep r.2
  generalize Sp.block T f deep r.2 = b at hbl hgb ⊢
  have hb1 := hgb.le
  have hb2 := hgb.top hg2
  have hb3 := hgb.ds
  refine CalM.of fun w E hm => enter (N := 154) Tryd.func186 rfl [(0, ptr pb)] args1 rfl ?_
  repeat' (first
    | (refine m_readC hm (by rfl) (by rfl) (by rfl) (by first | exact sub_nil | exact sub1_0 | exact sub1_1 | exact sub1_2 | exact sub1_3 | exact sub2_0 | exact sub2_1 | exact sub2_2 | exact sub2_3 | exact sub2_4) (p_here s hr) ?_; clear hm; intro _ hm)
    | (refine wc_quiet_tail (id := 38) 5 (by kernel_rfl) ?_)
    | (refine q_max (by rfl) (by rfl) (by rfl) (by rfl) ?_)
    | (refine m_call hm (by rfl) (by rfl) (by rfl) (by first | exact pm0 | exact pm1_0 | exact pm1_1 | exact pm1_2 | exact pm1_3 | exact pm2_0 | exact pm2_1 | exact pm2_2 | exact pm2_3 | exact pm2_4 | exact pm3_0 | exact pm3_1 | exact pm3_2) (het0 _ _) ?_; clear hm; rintro _ _ _ _ ⟨rfl, rfl, dk0, ck0, rfl⟩ hle hm; try simp only [setn] at hm)
    | (refine m_call hm (by rfl) (by rfl) (by rfl) (by first | exact pm0 | exact pm1_0 | exact pm1_1 | exact pm1_2 | exact pm1_3 | exact pm2_0 | exact pm2_1 | exact pm2_2 | exact pm2_3 | exact pm2_4 | exact pm3_0 | exact pm3_1 | exact pm3_2) (het1 _ _) ?_; clear hm; rintro _ _ _ _ ⟨rfl, rfl, dk1, ck1, rfl⟩ hle hm; try simp only [setn] at hm)
    | (refine m_call hm (by rfl) (by rfl) (by rfl) (by first | exact pm0 | exact pm1_0 | exact pm1_1 | exact pm1_2 | exact pm1_3 | exact pm2_0 | exact pm2_1 | exact pm2_2 | exact pm2_3 | exact pm2_4 | exact pm3_0 | exact pm3_1 | exact pm3_2) (het2 _ _) ?_; clear hm; rintro _ _ _ _ ⟨rfl, rfl, dk2, ck2, rfl⟩ hle hm; try simp only [setn] at hm)
    | (refine m_call hm (by rfl) (by rfl) (by rfl) (by first | exact pm0 | exact pm1_0 | exact pm1_1 | exact pm1_2 | exact pm1_3 | exact pm2_0 | exact pm2_1 | exact pm2_2 | exact pm2_3 | exact pm2_4 | exact pm3_0 | exact pm3_1 | exact pm3_2) (hex _ _) ?_; clear hm; rintro _ I2 _ _ ⟨⟨ea, ec, xs, rfl, hrow, hexs⟩, da', dc', rfl⟩ hle hm; have hleI2 := hle; try simp only [setn] at hm)
    | (refine m_call (d := 60) hm (by rfl) (by rfl) (by rfl) (by first | exact pm0 | exact pm1_0 | exact pm1_1 | exact pm1_2 | exact pm1_3 | exact pm2_0 | exact pm2_1 | exact pm2_2 | exact pm2_3 | exact pm2_4 | exact pm3_0 | exact pm3_1 | exact pm3_2) (hbl I2 (hC.le hleI2) (hr.le hleI2) _ _) ?_; clear hm; rintro _ I3 _ _ ⟨⟨a3, c3, xs3, rfl, hrow3, hsts3⟩, da3, dc3, rfl⟩ hle hm; have hleI3 := hle; try simp only [setn] at hm)
    | (refine mq_readC hm (by rfl) (by rfl) (by rfl) (by first | exact sub_nil | exact sub1_0 | exact sub1_1 | exact sub1_2 | exact sub1_3 | exact sub2_0 | exact sub2_1 | exact sub2_2 | exact sub2_3 | exact sub2_4) (p_last b.2 (hr.le (hleI2.trans hleI3)) hT hb2) ?_)
    | (refine m_allocS (d := 2) hm (by rfl) (by rfl) ?_; clear hm; intro b2 _ hm)
    | (refine m_varS (d := 3) hm (by rfl) (by rfl) (by rfl) (by rfl) (by rfl) ?_; clear hm; intro b3 _ hm)
    | refine m_loadAll hm (by rfl) (by rfl) (by rfl) (by first | exact gt0 | exact gt1 | exact gt2 | exact gt3 | exact gt4 | exact gt5 | exact gt6) (by rfl) ?_
    | refine mq_load1 hm (by rfl) (by rfl) (by rfl) (by first | exact gt0 | exact gt1 | exact gt2 | exact gt3 | exact gt4 | exact gt5 | exact gt6) (by rfl) ?_
    | (refine m_storeAll hm (by rfl) (by rfl) (by rfl) (by rfl) (by first | exact gt0 | exact gt1 | exact gt2 | exact gt3 | exact gt4 | exact gt5 | exact gt6) (by rfl) (by rfl) (by rfl) ?_; clear hm; intro _ hm; try simp only [setn] at hm)
    | (refine m_store1 hm (by rfl) (by rfl) (by rfl) (by rfl) (by first | exact gt0 | exact gt1 | exact gt2 | exact gt3 | exact gt4 | exact gt5 | exact gt6) (by rfl) (by rfl) (by rfl) ?_; clear hm; intro _ hm; try simp only [setn] at hm)
    | (refine m_storeN hm (by rfl) (by rfl) (by rfl) (by rfl) (by first | exact gt0 | exact gt1 | exact gt2 | exact gt3 | exact gt4 | exact gt5 | exact gt6) (by rfl) (by rfl) (by rfl) ?_; clear hm; intro _ hm; try simp only [setn] at hm)
    | refine m_ret_agg hm (by rfl) (by rfl) (by first | exact gt0 | exact gt1 | exact gt2 | exact gt3 | exact gt4 | exact gt5 | exact gt6) (by rfl) ?_
    | refine op_move (by rfl) (by rfl) (by rfl) ?_
    | refine op_assign (by rfl) (by rfl) (by rfl) ?_
    | refine op_fieldAddr (by rfl) (by rfl) (by rfl) ?_
    | refine op_struct (by rfl) (by rfl) (by rfl) (by rfl) ?_
    | refine wl_nil ?_
    | refine at_then_normal ?_
    | refine at_block_normal ?_
    | refine wc_seq ?_
    | refine wc_region ?_
    | refine wc_block ?_
    | refine wc_ret ?_
    | (refine wq_nil_tail ?_; intro _ hkq; replace hm := hm.kept0 hkq; clear hkq)
    | refine wc_cond_true (by rfl) ?_
    | refine wc_cond_false (by rfl) ?_
    | refine q_move (by rfl) (by rfl) (by rfl) ?_
    | refine q_fieldAddr (by rfl) (by rfl) (by rfl) ?_)
  all_goals try (exfalso; first | omega | contradiction)
  exact ⟨I3, _, ⟨⟨ea, ec, xs, a3, c3, xs3, none, 0, [], rfl, hrow.le hleI3, ExsAt.le hleI3 _ _ hexs, hrow3, hsts3, st_row0 _, .nil⟩, da3, dc3, rfl⟩, hm.left (H := [_, _])⟩
end
end Go.Proofs.YtkbiakajlfmakaaDoor
end
