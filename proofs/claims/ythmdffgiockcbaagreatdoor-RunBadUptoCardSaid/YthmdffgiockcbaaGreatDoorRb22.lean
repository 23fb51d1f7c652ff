/- Own work: texts PpK, PpL, one behind the other. -/
import Derived.Test.YthmdffgiockcbaaGreatDoorRb21
section
namespace Go.Proofs.YthmdffgiockcbaaGreatDoor
open Go.Fw
section
variable {T : Sp.Src} {pb f : Nat} {I : Imm} {la : Option Addr} {lc deep : Nat} {da : Option Addr} {dc : Nat} {s : Sp.St}
set_option maxHeartbeats 4000000 in
theorem ps_let1 (hT : Ok T) (hC : Conv I) (hr : TokR I T la lc) (hi : s.i ≤ T.l.length) (hf : 5 * (T.l.length - s.i) + 5 ≤ f + 1) (hd : s.ds.length + 8 * (T.l.length - s.i) + 32 ≤ 1099511627776) (hdp : deep ≤ 12) (h5 : (T.tok s.i).text = [108, 101, 116]) (h6 : T.is (s.next.named T).2.i [58] = true) :
    CalM Tryz.prog 165 #[ptr pb] I (QSt pb la lc T s deep da dc) (ToQS pb la lc T deep (Sp.stm T (f + 1) deep s)) := by
  have h2 := hT.size
  have h3 := hT.len
  have h1 := hT.at_ s.i
  have hlt : s.i < T.l.length := Sp.tok_lt (by rw [h5]; simp)
  have het0 := fun da dc => p_eat (pb := pb) (deep := deep) (da := da) (dc := dc) s [108, 101, 116] (by simp) hr hT hi
  rw [Sp.is_of h5 (by simp), if_pos (by rfl)] at het0
  have hnm := fun da dc => p_name (pb := pb) (deep := deep) (da := da) (dc := dc) s.next hr hT (by rw [Sp.next_ds]; omega) (by rw [Sp.next_i]; omega)
  have hgn := Sp.goes_named T s.next
  rw [Sp.stm]
  dsimp only
  rw [h5, if_pos rfl]
  generalize s.next.named T = q at hnm hgn h6 ⊢
  have hq1 := hgn.le
  have hq2 := hgn.top (by rw [Sp.next_i]; omega)
  have hq3 := hgn.ds
  rw [Sp.next_i] at hq1 hq3
  rw [Sp.next_ds] at hq3
  have hec := fun da dc => p_eat (pb := pb) (deep := deep) (da := da) (dc := dc) q.2 [58] (by simp) hr hT hq2
  rw [h6] at hec
  have hlc := Sp.is_lt h6
  rw [if_pos (by rfl)] at hec
  rw [h6, if_neg (by simp)]
  have hlab := fun da dc => p_label (pb := pb) (deep := deep) (da := da) (dc := dc) q.2.next hr hT (by rw [Sp.next_i]; omega) (by rw [Sp.next_i, Sp.next_ds]; omega)
  have hgl := Sp.goes_lab T q.2.next
  generalize Sp.lab T q.2.next = lb at hlab hgl ⊢
  have hl1 := hgl.le
  have hl2 := hgl.top (by rw [Sp.next_i]; omega)
  have hl3 := hgl.ds
  rw [Sp.next_i] at hl1 hl3
  rw [Sp.next_ds] at hl3
  have hnd := fun da dc => p_must (pb := pb) (deep := deep) (da := da) (dc := dc) lb.2 [61] (by simp) hr hT (by omega) (by omega)
  have hge := Sp.goes_need T lb.2 [61]
  generalize lb.2.need T [61] = e at hnd hge ⊢
  have he1 := hge.le
  have he2 := hge.top (by omega)
  have he3 := hge.ds
  have hex := fun da dc => (p_atomexpr T pb hT f).2 I la lc deep da dc e.2 1 hC hr (by omega) (by omega) (by omega) hdp
  have hg := (Sp.goes_expr T f).2.2.1 deep 1 e.2
  generalize Sp.expr T f deep 1 e.2 = r at hex hg ⊢
  have hg1 := hg.le
  have hg2 := hg.top (by omega)
  have hg3 := hg.ds
  have hg4 := (Sp.goes_need T r.2 [59]).top hg2
  refine CalM.of fun w E hm => enter (N := 154) Tryz.func165 rfl [(0, ptr pb)] args1 rfl ?_
  repeat' (first|(refine m_readC hm (hc:=p_here s hr) (k:=?_); clear hm; intro _ hm)|(refine wc_quiet_tail (id:=38) 5 (h:=?_))|(refine q_max (by rfl) (by rfl) (by rfl) (by rfl) ?_)|(refine m_call hm (hc:=het0 _ _) (k:=?_); clear hm; rintro _ _ _ _ ⟨rfl, rfl, dk0, ck0, rfl⟩ hle hm; try simp only [setn] at hm)|(refine m_readC hm (hc:=p_here s.next hr) (k:=?_); clear hm; intro _ hm)|(refine m_call hm (hc:=hnm _ _) (k:=?_); clear hm; rintro _ _ _ _ ⟨rfl, rfl, da1, dc1, rfl⟩ hle hm; try simp only [setn] at hm)|(refine m_call hm (hc:=hec _ _) (k:=?_); clear hm; rintro _ _ _ _ ⟨rfl, rfl, da5, dc5, rfl⟩ hle hm; try simp only [setn] at hm)|(refine m_call hm (hc:=hlab _ _) (k:=?_); clear hm; rintro _ _ _ _ ⟨rfl, rfl, da3, dc3, rfl⟩ hle hm; try simp only [setn] at hm)|(refine m_call hm (hc:=hnd _ _) (k:=?_); clear hm; rintro _ _ _ _ ⟨rfl, rfl, da4, dc4, rfl⟩ hle hm; try simp only [setn] at hm)|(refine m_call hm (hc:=hex _ _) (k:=?_); clear hm; rintro _ I2 _ _ ⟨⟨ea, ec, xs, rfl, hrow, hexs⟩, da', dc', rfl⟩ hle hm; have hleI2 := hle; try simp only [setn] at hm)|(refine m_call hm (hc:=p_must r.2 [59] (by simp) (hr.le hleI2) hT (by omega) hg2) (k:=?_); clear hm; rintro _ _ _ _ ⟨rfl, rfl, da2, dc2, rfl⟩ hle hm; try simp only [setn] at hm)|(refine mq_readC hm (hc:=p_last (r.2.need T [59]).2 (hr.le hleI2) hT hg4) (k:=?_))|(refine m_allocS (d:=2) hm (k:=?_); clear hm; intro b2 _ hm)|(refine m_varS (d:=3) hm (k:=?_); clear hm; intro b3 _ hm)|refine m_load1 hm (k:=?_)|refine m_loadAll hm (k:=?_)|refine mq_load1 hm (k:=?_)|(refine m_storeAll hm (k:=?_); clear hm; intro _ hm; try simp only [setn] at hm)|(refine m_store1 hm (k:=?_); clear hm; intro _ hm; try simp only [setn] at hm)|(refine m_storeN hm (k:=?_); clear hm; intro _ hm; try simp only [setn] at hm)|refine m_ret_agg hm (h:=?_)|refine op_move (k:=?_)|refine op_assign (k:=?_)|refine op_not (k:=?_)|refine op_fieldAddr (k:=?_)|refine op_struct (k:=?_)|refine wl_nil ?_|refine at_then_normal ?_|refine at_block_normal ?_|refine wc_seq ?_|refine wc_region ?_|refine wc_block ?_|refine wc_ret ?_|(refine wq_nil_tail ?_; intro _ hkq; replace hm := hm.kept0 hkq; clear hkq)|refine wc_cond_true (ht:=?_)|refine q_move (k:=?_)|refine q_fieldAddr (k:=?_))
  all_goals try (exfalso; first | omega | contradiction)
  exact ⟨I2, _, ⟨⟨ea, ec, xs, none, 0, [], none, 0, [], rfl, hrow, hexs, st_row0 _, .nil, st_row0 _, .nil⟩, da2, dc2, rfl⟩, hm.left (H := [_, _])⟩
set_option maxHeartbeats 4000000 in
theorem ps_let0 (hT : Ok T) (hC : Conv I) (hr : TokR I T la lc) (hi : s.i ≤ T.l.length) (hf : 5 * (T.l.length - s.i) + 5 ≤ f + 1) (hd : s.ds.length + 8 * (T.l.length - s.i) + 32 ≤ 1099511627776) (hdp : deep ≤ 12) (h5 : (T.tok s.i).text = [108, 101, 116]) (h6 : T.is (s.next.named T).2.i [58] = false) :
    CalM Tryz.prog 165 #[ptr pb] I (QSt pb la lc T s deep da dc) (ToQS pb la lc T deep (Sp.stm T (f + 1) deep s)) := by
  have h2 := hT.size
  have h3 := hT.len
  have h1 := hT.at_ s.i
  have hlt : s.i < T.l.length := Sp.tok_lt (by rw [h5]; simp)
  have het0 := fun da dc => p_eat (pb := pb) (deep := deep) (da := da) (dc := dc) s [108, 101, 116] (by simp) hr hT hi
  rw [Sp.is_of h5 (by simp), if_pos (by rfl)] at het0
  have hnm := fun da dc => p_name (pb := pb) (deep := deep) (da := da) (dc := dc) s.next hr hT (by rw [Sp.next_ds]; omega) (by rw [Sp.next_i]; omega)
  have hgn := Sp.goes_named T s.next
  rw [Sp.stm]
  dsimp only
  rw [h5, if_pos rfl]
  generalize s.next.named T = q at hnm hgn h6 ⊢
  have hq1 := hgn.le
  have hq2 := hgn.top (by rw [Sp.next_i]; omega)
  have hq3 := hgn.ds
  rw [Sp.next_i] at hq1 hq3
  rw [Sp.next_ds] at hq3
  have hec := fun da dc => p_eat (pb := pb) (deep := deep) (da := da) (dc := dc) q.2 [58] (by simp) hr hT hq2
  rw [h6] at hec
  rw [if_neg (by simp)] at hec
  rw [h6, if_pos (by rfl)]
  have hnd := fun da dc => p_must (pb := pb) (deep := deep) (da := da) (dc := dc) q.2 [61] (by simp) hr hT (by omega) (by omega)
  have hge := Sp.goes_need T q.2 [61]
  generalize q.2.need T [61] = e at hnd hge ⊢
  have he1 := hge.le
  have he2 := hge.top (by omega)
  have he3 := hge.ds
  have hex := fun da dc => (p_atomexpr T pb hT f).2 I la lc deep da dc e.2 1 hC hr (by omega) (by omega) (by omega) hdp
  have hg := (Sp.goes_expr T f).2.2.1 deep 1 e.2
  generalize Sp.expr T f deep 1 e.2 = r at hex hg ⊢
  have hg1 := hg.le
  have hg2 := hg.top (by omega)
  have hg3 := hg.ds
  have hg4 := (Sp.goes_need T r.2 [59]).top hg2
  refine CalM.of fun w E hm => enter (N := 154) Tryz.func165 rfl [(0, ptr pb)] args1 rfl ?_
  repeat' (first|(refine m_readC hm (hc:=p_here s hr) (k:=?_); clear hm; intro _ hm)|(refine wc_quiet_tail (id:=38) 5 (h:=?_))|(refine q_max (by rfl) (by rfl) (by rfl) (by rfl) ?_)|(refine m_call hm (hc:=het0 _ _) (k:=?_); clear hm; rintro _ _ _ _ ⟨rfl, rfl, dk0, ck0, rfl⟩ hle hm; try simp only [setn] at hm)|(refine m_readC hm (hc:=p_here s.next hr) (k:=?_); clear hm; intro _ hm)|(refine m_call hm (hc:=hnm _ _) (k:=?_); clear hm; rintro _ _ _ _ ⟨rfl, rfl, da1, dc1, rfl⟩ hle hm; try simp only [setn] at hm)|(refine m_call hm (hc:=hec _ _) (k:=?_); clear hm; rintro _ _ _ _ ⟨rfl, rfl, da5, dc5, rfl⟩ hle hm; try simp only [setn] at hm)|(refine m_call hm (hc:=hnd _ _) (k:=?_); clear hm; rintro _ _ _ _ ⟨rfl, rfl, da4, dc4, rfl⟩ hle hm; try simp only [setn] at hm)|(refine m_call hm (hc:=hex _ _) (k:=?_); clear hm; rintro _ I2 _ _ ⟨⟨ea, ec, xs, rfl, hrow, hexs⟩, da', dc', rfl⟩ hle hm; have hleI2 := hle; try simp only [setn] at hm)|(refine m_call hm (hc:=p_must r.2 [59] (by simp) (hr.le hleI2) hT (by omega) hg2) (k:=?_); clear hm; rintro _ _ _ _ ⟨rfl, rfl, da2, dc2, rfl⟩ hle hm; try simp only [setn] at hm)|(refine mq_readC hm (hc:=p_last (r.2.need T [59]).2 (hr.le hleI2) hT hg4) (k:=?_))|(refine m_allocS (d:=2) hm (k:=?_); clear hm; intro b2 _ hm)|(refine m_varS (d:=3) hm (k:=?_); clear hm; intro b3 _ hm)|refine m_load1 hm (k:=?_)|refine m_loadAll hm (k:=?_)|refine mq_load1 hm (k:=?_)|(refine m_storeAll hm (k:=?_); clear hm; intro _ hm; try simp only [setn] at hm)|(refine m_store1 hm (k:=?_); clear hm; intro _ hm; try simp only [setn] at hm)|(refine m_storeN hm (k:=?_); clear hm; intro _ hm; try simp only [setn] at hm)|refine m_ret_agg hm (h:=?_)|refine op_move (k:=?_)|refine op_assign (k:=?_)|refine op_not (k:=?_)|refine op_fieldAddr (k:=?_)|refine op_struct (k:=?_)|refine wl_nil ?_|refine at_then_normal ?_|refine at_block_normal ?_|refine wc_seq ?_|refine wc_region ?_|refine wc_block ?_|refine wc_skip ?_|refine wc_ret ?_|(refine wq_nil_tail ?_; intro _ hkq; replace hm := hm.kept0 hkq; clear hkq)|refine wc_cond_true (ht:=?_)|refine wc_cond_false (hf:=?_)|refine q_move (k:=?_)|refine q_fieldAddr (k:=?_))
  all_goals try (exfalso; first | omega | contradiction)
  exact ⟨I2, _, ⟨⟨ea, ec, xs, none, 0, [], none, 0, [], rfl, hrow, hexs, st_row0 _, .nil, st_row0 _, .nil⟩, da2, dc2, rfl⟩, hm.left (H := [_, _])⟩
set_option maxHeartbeats 4000000 in
theorem ps_if1 (hT : Ok T) (hC : Conv I) (hr : TokR I T la lc) (hi : s.i ≤ T.l.length) (hf : 5 * (T.l.length - s.i) + 5 ≤ f + 1) (hd : s.ds.length + 8 * (T.l.length - s.i) + 32 ≤ 1099511627776) (hdp : deep ≤ 12) (ihb : ∀ g, g ≤ f → BlockQ T pb g) (h5 : (T.tok s.i).text = [105, 102]) (h6 : T.is (Sp.block T f deep (Sp.expr T f deep 1 s.next).2).2.i [101, 108, 115, 101] = true) :
    CalM Tryz.prog 165 #[ptr pb] I (QSt pb la lc T s deep da dc) (ToQS pb la lc T deep (Sp.stm T (f + 1) deep s)) := by
  have h2 := hT.size
  have h3 := hT.len
  have h1 := hT.at_ s.i
  have hlt : s.i < T.l.length := Sp.tok_lt (by rw [h5]; simp)
  have het0 := fun da dc => p_eat (pb := pb) (deep := deep) (da := da) (dc := dc) s [108, 101, 116] (by simp) hr hT hi
  rw [Sp.is_no (by rw [h5]; simp : (T.tok s.i).text ≠ [108, 101, 116]), if_neg (by simp)] at het0
  have het1 := fun da dc => p_eat (pb := pb) (deep := deep) (da := da) (dc := dc) s [105, 102] (by simp) hr hT hi
  rw [Sp.is_of h5 (by simp), if_pos (by rfl)] at het1
  have hex := fun da dc => (p_atomexpr T pb hT f).2 I la lc deep da dc s.next 1 hC hr (by rw [Sp.next_i]; omega) (by rw [Sp.next_i]; omega) (by rw [Sp.next_i, Sp.next_ds]; omega) hdp
  have hg := (Sp.goes_expr T f).2.2.1 deep 1 s.next
  rw [Sp.stm]
  dsimp only
  rw [h5, if_neg (by decide), if_pos rfl]
  generalize Sp.expr T f deep 1 s.next = r at hex hg h6 ⊢
  have hg1 := hg.le
  have hg2 := hg.top (by rw [Sp.next_i]; omega)
  have hg3 := hg.ds
  rw [Sp.next_i] at hg1 hg3
  rw [Sp.next_ds] at hg3
  have hbl := fun I (hC : Conv I) (hr : TokR I T la lc) da dc => ihb f (Nat.le_refl _) I la lc deep da dc r.2 hC hr hg2 (by omega) (by omega) hdp
  have hgb := (Sp.goes_block T f).1 deep r.2
  generalize Sp.block T f deep r.2 = b at hbl hgb h6 ⊢
  have hb1 := hgb.le
  have hb2 := hgb.top hg2
  have hb3 := hgb.ds
  have his := fun I (hr : TokR I T la lc) da dc => p_eat (I := I) (pb := pb) (deep := deep) (da := da) (dc := dc) b.2 [101, 108, 115, 101] (by simp) hr hT hb2
  rw [h6] at his ⊢
  have hle' := Sp.is_lt h6
  rw [if_pos rfl] at his ⊢
  have hel := fun I (hC : Conv I) (hr : TokR I T la lc) da dc => ihb f (Nat.le_refl _) I la lc deep da dc b.2.next hC hr (by rw [Sp.next_i]; omega) (by rw [Sp.next_i]; omega) (by rw [Sp.next_i, Sp.next_ds]; omega) hdp
  have hge := (Sp.goes_block T f).1 deep b.2.next
  generalize Sp.block T f deep b.2.next = c at hel hge ⊢
  have he1 := hge.le
  have he2 := hge.top (by rw [Sp.next_i]; omega)
  have he3 := hge.ds
  refine CalM.of fun w E hm => enter (N := 154) Tryz.func165 rfl [(0, ptr pb)] args1 rfl ?_
  repeat' (first|(refine m_readC hm (hc:=p_here s hr) (k:=?_); clear hm; intro _ hm)|(refine wc_quiet_tail (id:=38) 5 (h:=?_))|(refine q_max (by rfl) (by rfl) (by rfl) (by rfl) ?_)|(refine m_call hm (hc:=het0 _ _) (k:=?_); clear hm; rintro _ _ _ _ ⟨rfl, rfl, dk0, ck0, rfl⟩ hle hm; try simp only [setn] at hm)|(refine m_call hm (hc:=het1 _ _) (k:=?_); clear hm; rintro _ _ _ _ ⟨rfl, rfl, dk1, ck1, rfl⟩ hle hm; try simp only [setn] at hm)|(refine m_call hm (hc:=hex _ _) (k:=?_); clear hm; rintro _ I2 _ _ ⟨⟨ea, ec, xs, rfl, hrow, hexs⟩, da', dc', rfl⟩ hle hm; have hleI2 := hle; try simp only [setn] at hm)|(refine m_call (d:=50) hm (hc:=hel I3 (hC.le (hleI2.trans hleI3)) (hr.le (hleI2.trans hleI3)) _ _) (k:=?_); clear hm; rintro _ I4 _ _ ⟨⟨a4, c4, xs4, rfl, hrow4, hsts4⟩, da4, dc4, rfl⟩ hle hm; have hleI4 := hle; try simp only [setn] at hm)|(refine m_call (d:=45) hm (hc:=hbl I2 (hC.le hleI2) (hr.le hleI2) _ _) (k:=?_); clear hm; rintro _ I3 _ _ ⟨⟨a3, c3, xs3, rfl, hrow3, hsts3⟩, da3, dc3, rfl⟩ hle hm; have hleI3 := hle; try simp only [setn] at hm)|(refine m_call hm (hc:=his I3 (hr.le (hleI2.trans hleI3)) _ _) (k:=?_); clear hm; rintro _ _ _ _ ⟨rfl, rfl, da6, dc6, rfl⟩ hle hm; try simp only [setn] at hm)|(refine mq_readC hm (hc:=p_last c.2 (hr.le ((hleI2.trans hleI3).trans hleI4)) hT he2) (k:=?_))|(refine m_allocS (d:=2) hm (k:=?_); clear hm; intro b2 _ hm)|(refine m_varS (d:=3) hm (k:=?_); clear hm; intro b3 _ hm)|refine m_loadAll hm (k:=?_)|refine mq_load1 hm (k:=?_)|(refine m_storeAll hm (k:=?_); clear hm; intro _ hm; try simp only [setn] at hm)|(refine m_store1 hm (k:=?_); clear hm; intro _ hm; try simp only [setn] at hm)|(refine m_storeN hm (k:=?_); clear hm; intro _ hm; try simp only [setn] at hm)|refine m_ret_agg hm (h:=?_)|refine op_move (k:=?_)|refine op_assign (k:=?_)|refine op_fieldAddr (k:=?_)|refine op_struct (k:=?_)|refine wl_nil ?_|refine at_then_normal ?_|refine at_block_normal ?_|refine wc_seq ?_|refine wc_region ?_|refine wc_block ?_|refine wc_ret ?_|(refine wq_nil_tail ?_; intro _ hkq; replace hm := hm.kept0 hkq; clear hkq)|refine wc_cond_true (ht:=?_)|refine wc_cond_false (hf:=?_)|refine q_move (k:=?_)|refine q_fieldAddr (k:=?_))
  all_goals try (exfalso; first | omega | contradiction)
  exact ⟨I4, _, ⟨⟨ea, ec, xs, a3, c3, xs3, a4, c4, xs4, rfl, hrow.le (hleI3.trans hleI4), ExsAt.le (hleI3.trans hleI4) _ _ hexs, hrow3.le hleI4, StsAt.le hleI4 _ _ hsts3, hrow4, hsts4⟩, da4, dc4, rfl⟩, hm.left (H := [_, _])⟩
set_option maxHeartbeats 4000000 in
theorem ps_if0 (hT : Ok T) (hC : Conv I) (hr : TokR I T la lc) (hi : s.i ≤ T.l.length) (hf : 5 * (T.l.length - s.i) + 5 ≤ f + 1) (hd : s.ds.length + 8 * (T.l.length - s.i) + 32 ≤ 1099511627776) (hdp : deep ≤ 12) (ihb : ∀ g, g ≤ f → BlockQ T pb g) (h5 : (T.tok s.i).text = [105, 102]) (h6 : T.is (Sp.block T f deep (Sp.expr T f deep 1 s.next).2).2.i [101, 108, 115, 101] = false) :
    CalM Tryz.prog 165 #[ptr pb] I (QSt pb la lc T s deep da dc) (ToQS pb la lc T deep (Sp.stm T (f + 1) deep s)) := by
  have h2 := hT.size
  have h3 := hT.len
  have h1 := hT.at_ s.i
  have hlt : s.i < T.l.length := Sp.tok_lt (by rw [h5]; simp)
  have het0 := fun da dc => p_eat (pb := pb) (deep := deep) (da := da) (dc := dc) s [108, 101, 116] (by simp) hr hT hi
  rw [Sp.is_no (by rw [h5]; simp : (T.tok s.i).text ≠ [108, 101, 116]), if_neg (by simp)] at het0
  have het1 := fun da dc => p_eat (pb := pb) (deep := deep) (da := da) (dc := dc) s [105, 102] (by simp) hr hT hi
  rw [Sp.is_of h5 (by simp), if_pos (by rfl)] at het1
  have hex := fun da dc => (p_atomexpr T pb hT f).2 I la lc deep da dc s.next 1 hC hr (by rw [Sp.next_i]; omega) (by rw [Sp.next_i]; omega) (by rw [Sp.next_i, Sp.next_ds]; omega) hdp
  have hg := (Sp.goes_expr T f).2.2.1 deep 1 s.next
  rw [Sp.stm]
  dsimp only
  rw [h5, if_neg (by decide), if_pos rfl]
  generalize Sp.expr T f deep 1 s.next = r at hex hg h6 ⊢
  have hg1 := hg.le
  have hg2 := hg.top (by rw [Sp.next_i]; omega)
  have hg3 := hg.ds
  rw [Sp.next_i] at hg1 hg3
  rw [Sp.next_ds] at hg3
  have hbl := fun I (hC : Conv I) (hr : TokR I T la lc) da dc => ihb f (Nat.le_refl _) I la lc deep da dc r.2 hC hr hg2 (by omega) (by omega) hdp
  have hgb := (Sp.goes_block T f).1 deep r.2
  generalize Sp.block T f deep r.2 = b at hbl hgb h6 ⊢
  have hb1 := hgb.le
  have hb2 := hgb.top hg2
  have hb3 := hgb.ds
  have his := fun I (hr : TokR I T la lc) da dc => p_eat (I := I) (pb := pb) (deep := deep) (da := da) (dc := dc) b.2 [101, 108, 115, 101] (by simp) hr hT hb2
  rw [h6] at his ⊢
  rw [if_neg (by simp)] at his ⊢
  refine CalM.of fun w E hm => enter (N := 154) Tryz.func165 rfl [(0, ptr pb)] args1 rfl ?_
  repeat' (first|(refine m_readC hm (hc:=p_here s hr) (k:=?_); clear hm; intro _ hm)|(refine wc_quiet_tail (id:=38) 5 (h:=?_))|(refine q_max (by rfl) (by rfl) (by rfl) (by rfl) ?_)|(refine m_call hm (hc:=het0 _ _) (k:=?_); clear hm; rintro _ _ _ _ ⟨rfl, rfl, dk0, ck0, rfl⟩ hle hm; try simp only [setn] at hm)|(refine m_call hm (hc:=het1 _ _) (k:=?_); clear hm; rintro _ _ _ _ ⟨rfl, rfl, dk1, ck1, rfl⟩ hle hm; try simp only [setn] at hm)|(refine m_call hm (hc:=hex _ _) (k:=?_); clear hm; rintro _ I2 _ _ ⟨⟨ea, ec, xs, rfl, hrow, hexs⟩, da', dc', rfl⟩ hle hm; have hleI2 := hle; try simp only [setn] at hm)|(refine m_call (d:=45) hm (hc:=hbl I2 (hC.le hleI2) (hr.le hleI2) _ _) (k:=?_); clear hm; rintro _ I3 _ _ ⟨⟨a3, c3, xs3, rfl, hrow3, hsts3⟩, da3, dc3, rfl⟩ hle hm; have hleI3 := hle; try simp only [setn] at hm)|(refine m_call hm (hc:=his I3 (hr.le (hleI2.trans hleI3)) _ _) (k:=?_); clear hm; rintro _ _ _ _ ⟨rfl, rfl, da6, dc6, rfl⟩ hle hm; try simp only [setn] at hm)|(refine mq_readC hm (hc:=p_last b.2 (hr.le (hleI2.trans hleI3)) hT hb2) (k:=?_))|(refine m_allocS (d:=2) hm (k:=?_); clear hm; intro b2 _ hm)|(refine m_varS (d:=3) hm (k:=?_); clear hm; intro b3 _ hm)|refine m_loadAll hm (k:=?_)|refine mq_load1 hm (k:=?_)|(refine m_storeAll hm (k:=?_); clear hm; intro _ hm; try simp only [setn] at hm)|(refine m_store1 hm (k:=?_); clear hm; intro _ hm; try simp only [setn] at hm)|(refine m_storeN hm (k:=?_); clear hm; intro _ hm; try simp only [setn] at hm)|refine m_ret_agg hm (h:=?_)|refine op_move (k:=?_)|refine op_assign (k:=?_)|refine op_fieldAddr (k:=?_)|refine op_struct (k:=?_)|refine wl_nil ?_|refine at_then_normal ?_|refine at_block_normal ?_|refine wc_seq ?_|refine wc_region ?_|refine wc_block ?_|refine wc_skip ?_|refine wc_ret ?_|(refine wq_nil_tail ?_; intro _ hkq; replace hm := hm.kept0 hkq; clear hkq)|refine wc_cond_true (ht:=?_)|refine wc_cond_false (hf:=?_)|refine q_move (k:=?_)|refine q_fieldAddr (k:=?_))
  all_goals try (exfalso; first | omega | contradiction)
  exact ⟨I3, _, ⟨⟨ea, ec, xs, a3, c3, xs3, none, 0, [], rfl, hrow.le hleI3, ExsAt.le hleI3 _ _ hexs, hrow3, hsts3, st_row0 _, .nil⟩, da6, dc6, rfl⟩, hm.left (H := [_, _])⟩
set_option maxHeartbeats 4000000 in
theorem ps_while (hT : Ok T) (hC : Conv I) (hr : TokR I T la lc) (hi : s.i ≤ T.l.length) (hf : 5 * (T.l.length - s.i) + 5 ≤ f + 1) (hd : s.ds.length + 8 * (T.l.length - s.i) + 32 ≤ 1099511627776) (hdp : deep ≤ 12) (ihb : ∀ g, g ≤ f → BlockQ T pb g) (h5 : (T.tok s.i).text = [119, 104, 105, 108, 101]) :
    CalM Tryz.prog 165 #[ptr pb] I (QSt pb la lc T s deep da dc) (ToQS pb la lc T deep (Sp.stm T (f + 1) deep s)) := by
  have h2 := hT.size
  have h3 := hT.len
  have h1 := hT.at_ s.i
  have hlt : s.i < T.l.length := Sp.tok_lt (by rw [h5]; simp)
  have het0 := fun da dc => p_eat (pb := pb) (deep := deep) (da := da) (dc := dc) s [108, 101, 116] (by simp) hr hT hi
  rw [Sp.is_no (by rw [h5]; simp : (T.tok s.i).text ≠ [108, 101, 116]), if_neg (by simp)] at het0
  have het1 := fun da dc => p_eat (pb := pb) (deep := deep) (da := da) (dc := dc) s [105, 102] (by simp) hr hT hi
  rw [Sp.is_no (by rw [h5]; simp : (T.tok s.i).text ≠ [105, 102]), if_neg (by simp)] at het1
  have het2 := fun da dc => p_eat (pb := pb) (deep := deep) (da := da) (dc := dc) s [119, 104, 105, 108, 101] (by simp) hr hT hi
  rw [Sp.is_of h5 (by simp), if_pos (by rfl)] at het2
  have hex := fun da dc => (p_atomexpr T pb hT f).2 I la lc deep da dc s.next 1 hC hr (by rw [Sp.next_i]; omega) (by rw [Sp.next_i]; omega) (by rw [Sp.next_i, Sp.next_ds]; omega) hdp
  have hg := (Sp.goes_expr T f).2.2.1 deep 1 s.next
  rw [Sp.stm]
  dsimp only
  rw [h5, if_neg (by decide), if_neg (by decide), if_pos rfl]
  generalize Sp.expr T f deep 1 s.next = r at hex hg ⊢
  have hg1 := hg.le
  have hg2 := hg.top (by rw [Sp.next_i]; omega)
  have hg3 := hg.ds
  rw [Sp.next_i] at hg1 hg3
  rw [Sp.next_ds] at hg3
  have hbl := fun I (hC : Conv I) (hr : TokR I T la lc) da dc => ihb f (Nat.le_refl _) I la lc deep da dc r.2 hC hr hg2 (by omega) (by omega) hdp
  have hgb := (Sp.goes_block T f).1 deep r.2
  generalize Sp.block T f deep r.2 = b at hbl hgb ⊢
  have hb1 := hgb.le
  have hb2 := hgb.top hg2
  have hb3 := hgb.ds
  refine CalM.of fun w E hm => enter (N := 154) Tryz.func165 rfl [(0, ptr pb)] args1 rfl ?_
  repeat' (first|(refine m_readC hm (hc:=p_here s hr) (k:=?_); clear hm; intro _ hm)|(refine wc_quiet_tail (id:=38) 5 (h:=?_))|(refine q_max (by rfl) (by rfl) (by rfl) (by rfl) ?_)|(refine m_call hm (hc:=het0 _ _) (k:=?_); clear hm; rintro _ _ _ _ ⟨rfl, rfl, dk0, ck0, rfl⟩ hle hm; try simp only [setn] at hm)|(refine m_call hm (hc:=het1 _ _) (k:=?_); clear hm; rintro _ _ _ _ ⟨rfl, rfl, dk1, ck1, rfl⟩ hle hm; try simp only [setn] at hm)|(refine m_call hm (hc:=het2 _ _) (k:=?_); clear hm; rintro _ _ _ _ ⟨rfl, rfl, dk2, ck2, rfl⟩ hle hm; try simp only [setn] at hm)|(refine m_call hm (hc:=hex _ _) (k:=?_); clear hm; rintro _ I2 _ _ ⟨⟨ea, ec, xs, rfl, hrow, hexs⟩, da', dc', rfl⟩ hle hm; have hleI2 := hle; try simp only [setn] at hm)|(refine m_call (d:=60) hm (hc:=hbl I2 (hC.le hleI2) (hr.le hleI2) _ _) (k:=?_); clear hm; rintro _ I3 _ _ ⟨⟨a3, c3, xs3, rfl, hrow3, hsts3⟩, da3, dc3, rfl⟩ hle hm; have hleI3 := hle; try simp only [setn] at hm)|(refine mq_readC hm (hc:=p_last b.2 (hr.le (hleI2.trans hleI3)) hT hb2) (k:=?_))|(refine m_allocS (d:=2) hm (k:=?_); clear hm; intro b2 _ hm)|(refine m_varS (d:=3) hm (k:=?_); clear hm; intro b3 _ hm)|refine m_loadAll hm (k:=?_)|refine mq_load1 hm (k:=?_)|(refine m_storeAll hm (k:=?_); clear hm; intro _ hm; try simp only [setn] at hm)|(refine m_store1 hm (k:=?_); clear hm; intro _ hm; try simp only [setn] at hm)|(refine m_storeN hm (k:=?_); clear hm; intro _ hm; try simp only [setn] at hm)|refine m_ret_agg hm (h:=?_)|refine op_move (k:=?_)|refine op_assign (k:=?_)|refine op_fieldAddr (k:=?_)|refine op_struct (k:=?_)|refine wl_nil ?_|refine at_then_normal ?_|refine at_block_normal ?_|refine wc_seq ?_|refine wc_region ?_|refine wc_block ?_|refine wc_ret ?_|(refine wq_nil_tail ?_; intro _ hkq; replace hm := hm.kept0 hkq; clear hkq)|refine wc_cond_true (ht:=?_)|refine wc_cond_false (hf:=?_)|refine q_move (k:=?_)|refine q_fieldAddr (k:=?_))
  all_goals try (exfalso; first | omega | contradiction)
  exact ⟨I3, _, ⟨⟨ea, ec, xs, a3, c3, xs3, none, 0, [], rfl, hrow.le hleI3, ExsAt.le hleI3 _ _ hexs, hrow3, hsts3, st_row0 _, .nil⟩, da3, dc3, rfl⟩, hm.left (H := [_, _])⟩
end
end Go.Proofs.YthmdffgiockcbaaGreatDoor
end
section
namespace Go.Proofs.YthmdffgiockcbaaGreatDoor
open Go.Fw
structure QBl where
  f : Nat
  l : List Sp.Stm
  n : Nat
  s : Sp.St
  I : Imm
  a : Option Addr
  cp : Nat
  xs : List Value
  da : Option Addr
  dc : Nat
theorem p_retB {E : Ent} {N b1 cp lc deep dc pb : Nat} {I : Imm} {T : Sp.Src} {la da a : Option Addr} {xs : List Value} {R : List HItem} {l : Log} {w : World} {b : List Sp.Stm} {s' : Sp.St} (hdp : deep ≤ 12) (hx : lk l 2 = some (.slice a b.length cp))
    (hm : Mem E I (.cell b1 [ptr pb] 180 :: qObj pb la lc T s' (deep + 1) da dc :: dgRow s'.ds da dc :: R) w)
    (hrow : RowI I 104 15 (.slice a b.length cp) b.length xs) (hsts : StsAt I b xs) :
    At N [⟨.fn (.func 164) #[ptr b1], #[]⟩] (bodyPostD Tryz.prog Tryz.f130 (Ret (fun v w' => ∃ I' H', ToQB pb la lc T deep (b, s') v I' H' ∧ Mem E I' H' w'))) .ret l w :=
  at_retD_tmp rfl hx (p_decB hdp hm) (fun _w' hm' => ⟨I, _, ⟨⟨a, cp, xs, rfl, hrow, hsts⟩, da, dc, rfl⟩, hm'.tl.left (H := [_, _])⟩)
set_option maxHeartbeats 4000000 in
theorem p_block_step (T : Sp.Src) (pb : Nat) (hT : Ok T) (n : Nat) (ih : ∀ g, g < n → StmQ T pb g) : BlockQ T pb n := by
  intro I la lc deep da dc s hC hr hi hf hd hdp
  obtain ⟨f, rfl⟩ : ∃ f, n = f + 1 := ⟨n - 1, by omega⟩
  have h2 := hT.size
  have h3 := hT.len
  have hn := fun da dc => p_must (pb := pb) (deep := deep) (da := da) (dc := dc) s [123] (by simp) hr hT (by omega) hi
  rw [Sp.St.need] at hn
  rw [Sp.block]
  refine CalM.of fun w E hm => enter_defers (N := 68) Tryz.func130 rfl [(0, ptr pb)] args1 rfl ?_
  by_cases hq : T.is s.i [123] = true
  case neg =>
    rw [if_neg hq] at hn
    rw [show T.is s.i [123] = false by simpa using hq, if_pos (by rfl)]
    repeat' (first|(refine m_call hm (hc:=hn _ _) (k:=?_); clear hm; rintro _ _ _ _ ⟨rfl, rfl, da', dc', rfl⟩ hle hm; try simp only [setn] at hm)|(refine at_retD0_tmp (h:=?_))|(refine m_box (d:=1) hm (k:=?_); clear hm; intro b1 _ hm)|refine m_load1 hm (k:=?_)|refine op_assign (k:=?_)|refine op_not (k:=?_)|refine wl_nil ?_|refine at_then_normal ?_|refine at_then_ret ?_|refine wc_seq ?_|refine wc_region ?_|refine wc_ret ?_|refine wc_cond_true (ht:=?_))
    exact ⟨I, _, ⟨⟨none, 0, [], rfl, st_row0 _, .nil⟩, da', dc', rfl⟩, hm.left (H := [_, _])⟩
  rw [if_pos hq] at hn
  rw [hq, if_neg (by simp)]
  have hlt := Sp.is_lt hq
  have hni : s.next.i = s.i + 1 := rfl
  have hnd : s.next.ds.length = s.ds.length := rfl
  by_cases hdeep : 12 ≤ deep
  · rw [if_pos hdeep]
    have hd12 : deep = 12 := by omega
    repeat' (first|(refine m_call hm (hc:=hn _ _) (k:=?_); clear hm; rintro _ _ _ _ ⟨rfl, rfl, da', dc', rfl⟩ hle hm; try simp only [setn] at hm)|(refine m_call hm (hc:=p_tell s.next 12 hr hT (by omega) (by omega)) (k:=?_); clear hm; rintro _ _ _ _ ⟨rfl, rfl, da2, dc2, rfl⟩ hle hm; try simp only [setn] at hm)|(refine at_retD0_tmp (h:=?_))|(refine m_box (d:=1) hm (k:=?_); clear hm; intro b1 _ hm)|refine m_load1 hm (k:=?_)|refine op_assign (k:=?_)|refine op_eql (k:=?_)|refine op_not (k:=?_)|refine op_nilCheck (k:=?_)|refine op_fieldAddr (k:=?_)|refine wl_nil ?_|refine at_then_normal ?_|refine at_then_ret ?_|refine wc_seq ?_|refine wc_region ?_|refine wc_skip ?_|refine wc_ret ?_|refine wc_cond_false (hf:=?_)|(refine wc_cond_dec (ht:=fun _ => ?_) (hf:=fun _ => ?_)<;> (try first | contradiction | (exfalso; omega))))
    all_goals try (exfalso; omega)
    exact ⟨I, _, ⟨⟨none, 0, [], rfl, st_row0 _, .nil⟩, da2, dc2, rfl⟩, hm.left (H := [_, _])⟩
  rw [if_neg hdeep]
  dsimp only
  have hg := (Sp.goes_block T f).2.1 (deep + 1) [] s.next
  have hg1 := hg.le
  have hg2 := hg.top (by omega)
  have hg3 := hg.ds
  obtain ⟨R, hR⟩ : ∃ R, R = Sp.stmL T f (deep + 1) [] s.next := ⟨_, rfl⟩
  rw [← hR] at hg hg1 hg2 hg3 ⊢
  repeat' (first|(refine wc_midb 0 (fun x : QBl => [(1, ptr b1), (3, .slice x.a x.n x.cp)]) (fun x w' => Mem E x.I [qObj pb la lc T R.2 (deep + 1) x.da x.dc, dgRow R.2.ds x.da x.dc, stRow x.n x.a x.cp x.xs, .cell b1 [ptr pb] 180] w' ∧ Le I x.I ∧ StsAt x.I R.1 x.xs ∧ R.1.length = x.n) ?_ ?_)|(refine m_call hm (hc:=hn _ _) (k:=?_); clear hm; rintro _ _ _ _ ⟨rfl, rfl, da', dc', rfl⟩ hle hm; try simp only [setn] at hm)|(refine m_box (d:=1) hm (k:=?_); clear hm; intro b1 _ hm)|refine m_load1 hm (k:=?_)|(refine m_store1 hm (k:=?_); clear hm; intro _ hm; try simp only [setn] at hm)|refine op_assign (k:=?_)|refine op_eql (k:=?_)|refine op_not (k:=?_)|refine op_nilCheck (k:=?_)|refine op_makeFunc (k:=?_)|refine op_add (k:=?_)|refine op_fieldAddr (k:=?_)|refine wl_nil ?_|refine at_then_normal ?_|refine wc_seq ?_|refine wc_region ?_|refine wc_skip ?_|refine op_defer (k:=?_)|refine wc_cond_false (hf:=?_)|(refine wc_cond_dec (ht:=fun _ => ?_) (hf:=fun _ => ?_)<;> (try first | contradiction | (exfalso; omega))))
  all_goals try (exfalso; omega)
  · have hm2 := hm.nil 104 15
    clear hm
    refine wc_loop (fun x : QBl => [(1, ptr b1), (3, .slice x.a x.n x.cp)])
      (fun x w' => Mem E x.I [qObj pb la lc T x.s (deep + 1) x.da x.dc, dgRow x.s.ds x.da x.dc, stRow x.n x.a x.cp x.xs, .cell b1 [ptr pb] 180] w' ∧
        Le I x.I ∧ StsAt x.I x.l x.xs ∧ x.l.length = x.n ∧ x.n ≤ 40 ∧ x.f ≤ f ∧ x.s.i ≤ T.l.length ∧ x.s.ds.length + 8 * (T.l.length - x.s.i) ≤ s.ds.length + 8 * (T.l.length - s.i) ∧
        Sp.stmL T x.f (deep + 1) x.l x.s = R ∧ 5 * (T.l.length - x.s.i) + 6 ≤ x.f)
      (fun x => T.l.length - x.s.i) ⟨f, [], 0, s.next, I, none, 0, [], da', dc'⟩ (by exact ⟨rfl, rfl, trivial⟩)
      ⟨hm2.perm pm2_1, Le.refl _, .nil, rfl, by dsimp only; omega, Nat.le_refl _, by dsimp only; omega, by dsimp only; omega, hR.symm, by dsimp only; omega⟩ ?_
    clear hm2 hn
    rintro ⟨f1, l1, n1, s1, I1, a1, cp1, xs1, da1, dc1⟩ w2 ⟨hm, hle0, hsts, hn1, hn40, hff, hi1, hd1, hL, hf1⟩
    dsimp only at hm hle0 hsts hn1 hn40 hff hi1 hd1 hL hf1 ⊢
    have hr1 := hr.le hle0
    have hC1 := hC.le hle0
    obtain ⟨f1, rfl⟩ : ∃ f', f1 = f' + 1 := ⟨f1 - 1, by omega⟩
    rw [Sp.stmL] at hL
    have hpk := p_peek (pb := pb) (deep := deep + 1) (da := da1) (dc := dc1) s1 hr1
    by_cases hend : T.l.length ≤ s1.i ∨ T.is s1.i [125] = true
    · rw [if_pos hend] at hL
      subst hL
      by_cases hl1 : T.l.length ≤ s1.i
      · skip
        repeat' (first|refine mq_load1 hm (k:=?_)|refine at_then_normal ?_|refine at_then_exit ?_|refine at_block_exit ?_|refine wc_seq ?_|refine wc_exit ?_|refine wc_quiet (h:=?_)|(refine wq_nil ?_; intro _ hkq; replace hm := hm.kept0 hkq; clear hkq)|refine wc_cond_false (hf:=?_)|refine q_move (k:=?_)|refine q_pick_false (k:=?_)|refine q_lss (k:=?_)|refine q_len_slice (k:=?_)|refine q_nilCheck (k:=?_)|refine q_fieldAddr (k:=?_)|refine wq_skip (k:=?_)|(refine wq_split_dec (h1:=fun _ => ?_) (h0:=fun _ => ?_)<;> (try first | contradiction | (exfalso; omega))))
        all_goals try (exfalso; first | omega | contradiction)
        exact at_cut (⟨0, [], n1, s1, I1, a1, cp1, xs1, da1, dc1⟩ : QBl) (by exact ⟨rfl, rfl, trivial⟩) ⟨hm, hle0, hsts, hn1⟩
      · rw [Sp.is_text (hend.resolve_left hl1)] at hpk
        repeat' (first|(refine mq_readC hm (hc:=hpk) (k:=?_))|refine mq_load1 hm (k:=?_)|refine at_then_normal ?_|refine at_then_exit ?_|refine at_block_exit ?_|refine wc_seq ?_|refine wc_exit ?_|refine wc_quiet (h:=?_)|(refine wq_nil ?_; intro _ hkq; replace hm := hm.kept0 hkq; clear hkq)|refine wc_cond_false (hf:=?_)|refine q_move (k:=?_)|refine q_pick_true (k:=?_)|refine q_lss (k:=?_)|refine q_neq_str (k:=?_)|refine q_len_slice (k:=?_)|refine q_nilCheck (k:=?_)|refine q_fieldAddr (k:=?_)|(refine wq_split_dec (h1:=fun _ => ?_) (h0:=fun _ => ?_)<;> (try first | contradiction | (exfalso; omega))))
        all_goals try (exfalso; first | omega | contradiction)
        exact at_cut (⟨0, [], n1, s1, I1, a1, cp1, xs1, da1, dc1⟩ : QBl) (by exact ⟨rfl, rfl, trivial⟩) ⟨hm, hle0, hsts, hn1⟩
    rw [if_neg hend] at hL
    have hlt1 : s1.i < T.l.length := by omega
    have htt : (T.tok s1.i).text ≠ [125] := fun e => hend (.inr (Sp.is_of e (by simp)))
    by_cases h40 : 40 ≤ l1.length
    · rw [if_pos h40] at hL
      subst hL
      repeat' (first|(refine mq_readC hm (hc:=hpk) (k:=?_))|(refine m_call hm (hc:=p_tell s1 5 hr1 hT hi1 (by omega)) (k:=?_); clear hm; rintro _ _ _ _ ⟨rfl, rfl, da2, dc2, rfl⟩ hle hm; try simp only [setn] at hm)|refine m_load1 hm (k:=?_)|refine mq_load1 hm (k:=?_)|refine op_move (k:=?_)|refine op_eql (k:=?_)|refine op_len_slice (k:=?_)|refine wl_nil ?_|refine at_then_normal ?_|refine at_then_exit ?_|refine at_block_exit ?_|refine at_block_other (h:=?_)|refine wc_seq ?_|refine wc_region ?_|refine wc_block ?_|refine wc_skip ?_|refine wc_exit ?_|refine wc_quiet (h:=?_)|(refine wq_nil ?_; intro _ hkq; replace hm := hm.kept0 hkq; clear hkq)|(refine wc_cond_dec (ht:=fun _ => ?_) (hf:=fun _ => ?_)<;> (try first | contradiction | (exfalso; omega)))|refine q_move (k:=?_)|refine q_pick_true (k:=?_)|refine q_lss (k:=?_)|refine q_neq_str (k:=?_)|refine q_len_slice (k:=?_)|refine q_nilCheck (k:=?_)|refine q_fieldAddr (k:=?_)|(refine wq_split_dec (h1:=fun _ => ?_) (h0:=fun _ => ?_)<;> (try first | contradiction | (exfalso; omega))))
      all_goals try (exfalso; first | omega | contradiction)
      exact at_cut (⟨0, [], n1, s1, I1, a1, cp1, xs1, da2, dc2⟩ : QBl) (by exact ⟨rfl, rfl, trivial⟩) ⟨hm, hle0, hsts, hn1⟩
    rw [if_neg h40] at hL
    dsimp only at hL
    have hst := fun da dc => ih f1 (by omega) I1 la lc (deep + 1) da dc s1 hC1 hr1 hi1 (by omega) (by omega) (by omega)
    have hgr := (Sp.goes_block T f1).2.2 (deep + 1) s1
    generalize Sp.stm T f1 (deep + 1) s1 = r at hL hst hgr
    have hgr1 := hgr.le
    have hgr2 := hgr.top hi1
    have hgr3 := hgr.ds0
    have hgr4 := hgr.ds1
    have hnl : (l1 ++ [r.1]).length = n1 + 1 := by simp [hn1]
    have hni : r.2.next.i = r.2.i + 1 := rfl
    have hnd : r.2.next.ds.length = r.2.ds.length := rfl
    repeat' (first|(refine mq_readC hm (hc:=hpk) (k:=?_))|(refine m_call hm (hc:=hst _ _) (k:=?_); clear hm; rintro _ I2 _ _ ⟨⟨ea, ec, ex, a3, c3, xs3, a4, c4, xs4, rfl, hrow, hexs, hrow3, hsts3, hrow4, hsts4⟩, da', dc', rfl⟩ hle hm; have hleI2 := hle; try simp only [setn] at hm)|(refine m_push (d:=51) hm (k:=?_); clear hm; intro a51 cp51 _ _ hm; try simp only [setn] at hm)|refine m_load1 hm (k:=?_)|refine mq_load1 hm (k:=?_)|(refine m_store1 hm (k:=?_); clear hm; intro _ hm; try simp only [setn] at hm)|refine op_move (k:=?_)|refine op_assign (k:=?_)|refine op_eql (k:=?_)|refine op_len_slice (k:=?_)|refine op_nilCheck (k:=?_)|refine op_add (k:=?_)|refine op_fieldAddr (k:=?_)|refine wl_nil ?_|refine at_then_normal ?_|refine at_block_normal ?_|refine wc_seq ?_|refine wc_region ?_|refine wc_block ?_|refine wc_skip ?_|refine wc_quiet (h:=?_)|(refine wq_nil ?_; intro _ hkq; replace hm := hm.kept0 hkq; clear hkq)|(refine wc_cond_dec (ht:=fun _ => ?_) (hf:=fun _ => ?_)<;> (try first | contradiction | (exfalso; omega)))|refine q_move (k:=?_)|refine q_pick_true (k:=?_)|refine q_lss (k:=?_)|refine q_neq_str (k:=?_)|refine q_len_slice (k:=?_)|refine q_nilCheck (k:=?_)|refine q_fieldAddr (k:=?_)|(refine wq_split_dec (h1:=fun _ => ?_) (h0:=fun _ => ?_)<;> (try first | contradiction | (exfalso; omega))))
    all_goals try (exfalso; first | omega | contradiction)
    · rename_i hsame
      have hsame : r.2.i = s1.i := by omega
      rw [if_pos hsame] at hL
      have := hgr3 hsame
      exact at_round (⟨f1, l1 ++ [r.1], n1 + 1, r.2.next, I2, _, _, _, da', dc'⟩ : QBl) (by exact ⟨rfl, rfl, trivial⟩) ⟨hm, hle0.trans hleI2, (StsAt.le hleI2 _ _ hsts).snoc (stAt_cells hrow hexs hrow3 hsts3 hrow4 hsts4), hnl, by dsimp only; omega, by dsimp only; omega, by dsimp only; omega, by dsimp only; omega, hL, by dsimp only; omega⟩ (by dsimp only; omega)
    · rename_i hsame
      have hsame : ¬ r.2.i = s1.i := by omega
      rw [if_neg hsame] at hL
      have := hgr4 (by omega)
      exact at_round (⟨f1, l1 ++ [r.1], n1 + 1, r.2, I2, _, _, _, da', dc'⟩ : QBl) (by exact ⟨rfl, rfl, trivial⟩) ⟨hm, hle0.trans hleI2, (StsAt.le hleI2 _ _ hsts).snoc (stAt_cells hrow hexs hrow3 hsts3 hrow4 hsts4), hnl, by dsimp only; omega, by dsimp only; omega, hgr2, by dsimp only; omega, hL, by dsimp only; omega⟩ (by dsimp only; omega)
  · clear hm hn
    rintro ⟨_, _, n1, _, I1, a1, cp1, xs1, da1, dc1⟩ w2 ⟨hm, hle0, hsts, hn1⟩
    dsimp only at hm hle0 hsts hn1 ⊢
    have hr1 := hr.le hle0
    subst hn1
    repeat' (first|(refine m_call hm (hc:=p_must R.2 [125] (by simp) hr1 hT (by omega) hg2) (k:=?_); clear hm; rintro _ _ _ _ ⟨rfl, rfl, da2, dc2, rfl⟩ hle hm; try simp only [setn] at hm)|refine m_load1 hm (k:=?_)|refine op_move (k:=?_)|refine op_assign (k:=?_)|refine wl_nil ?_|refine at_then_normal ?_|refine wc_seq ?_|refine wc_region ?_|refine wc_ret ?_)
    all_goals try (exfalso; first | omega | contradiction)
    obtain ⟨I3, hle3, hm3, hrow3⟩ := (hm.front 2 rfl).freeze
    exact p_retB (b := R.1) (s' := (R.2.need T [125]).2) (by omega) rfl (hm3.front 2 rfl) hrow3 (StsAt.le hle3 _ _ hsts)
theorem p_stm_step (T : Sp.Src) (pb : Nat) (hT : Ok T) (n : Nat) (ih : ∀ g, g < n → BlockQ T pb g) : StmQ T pb n := by
  intro I la lc deep da dc s hC hr hi hf hd hdp
  obtain ⟨f, rfl⟩ : ∃ f, n = f + 1 := ⟨n - 1, by omega⟩
  have ihb : ∀ g, g ≤ f → BlockQ T pb g := fun g hg => ih g (by omega)
  by_cases h1 : (T.tok s.i).text = [108, 101, 116]
  · cases h6 : T.is (s.next.named T).2.i [58] with
    | true => exact ps_let1 hT hC hr hi hf hd hdp h1 h6
    | false => exact ps_let0 hT hC hr hi hf hd hdp h1 h6
  by_cases h2 : (T.tok s.i).text = [105, 102]
  · cases h6 : T.is (Sp.block T f deep (Sp.expr T f deep 1 s.next).2).2.i [101, 108, 115, 101] with
    | true => exact ps_if1 hT hC hr hi hf hd hdp ihb h2 h6
    | false => exact ps_if0 hT hC hr hi hf hd hdp ihb h2 h6
  by_cases h3 : (T.tok s.i).text = [119, 104, 105, 108, 101]
  · exact ps_while hT hC hr hi hf hd hdp ihb h3
  by_cases h4 : (T.tok s.i).text = [115, 101, 110, 100]
  · exact ps_send hT hC hr hi hf hd hdp h4
  by_cases h5 : (T.tok s.i).text = [114, 101, 116, 117, 114, 110]
  · exact ps_back hT hC hr hi hf hd hdp h5
  cases h6 : Sp.name (T.tok s.i).text with
  | false => exact ps_bad hT hC hr hi hf hd hdp h1 h2 h3 h4 h5 h6
  | true =>
    cases h7 : T.is (s.i + 1) [61] with
    | true => exact ps_set hT hC hr hi hf hd hdp h1 h2 h3 h4 h5 h6 h7
    | false => exact ps_do hT hC hr hi hf hd hdp h1 h2 h3 h4 h5 h6 h7
theorem p_stmblock (T : Sp.Src) (pb : Nat) (hT : Ok T) (n : Nat) : StmQ T pb n ∧ BlockQ T pb n := by
  induction n using Nat.strongRecOn with
  | _ n ih => exact ⟨p_stm_step T pb hT n (fun g hg => (ih g hg).2), p_block_step T pb hT n (fun g hg => (ih g hg).1)⟩
end Go.Proofs.YthmdffgiockcbaaGreatDoor
end
