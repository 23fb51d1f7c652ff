/- Own work: texts RpF2, RpF3, one behind the other. -/
import Derived.Test.YtjfkjpbkmpofkaaIt26
section
namespace Go.Proofs.Ytjfkjpbkmpofkaa
open Go.Fw
section
variable {T : Sp.Src} {pb f : Nat} {I : Imm} {la : Option Addr} {lc deep : Nat} {da : Option Addr} {dc : Nat} {s : Sp.St}
set_option maxHeartbeats 4000000 in
theorem st_bad (hT : Ok T) (hr : TokR I T la lc) (hi : s.i ≤ T.l.length) (hf : 5 * (T.l.length - s.i) + 5 ≤ f + 1) (hd : s.ds.length + 8 * (T.l.length - s.i) + 32 ≤ 1099511627776) (hdp : deep ≤ 12) (n1 : (T.tok s.i).text ≠ [108, 101, 116]) (n2 : (T.tok s.i).text ≠ [105, 102]) (n3 : (T.tok s.i).text ≠ [119, 104, 105, 108, 101]) (n4 : (T.tok s.i).text ≠ [115, 101, 110, 100]) (n5 : (T.tok s.i).text ≠ [114, 101, 116, 117, 114, 110]) (h5 : Sp.name (T.tok s.i).text = false) :
    CalM Try.prog 73 #[ptr pb, nt s.i] I (PSt pb la lc T s.ds deep da dc) (ToSt pb la lc T deep (Sp.stm T (f + 1) deep s)) := by
  have h2 := hT.size
  have h3 := hT.len
  have h1 := hT.at_ s.i
  have hn := c_rname (T.tok s.i).text (by omega)
  rw [h5] at hn
  rw [Sp.stm]
  dsimp only
  rw [if_neg n1, if_neg n2, if_neg n3, if_neg n4, if_neg n5, if_neg (by rw [h5]; simp)]
  refine CalM.of fun w E hm => enter (N := 205) Try.func73 rfl [(0, ptr pb), (1, nt s.i)] args2 rfl ?_
  repeat' (first
  | (refine m_readC hm (hc:=c_T s.i hr) (k:=?_); clear hm; intro _ hm)
  | (refine op_call (hc:=by exact hn _) (k:=?_); rintro _ _ ⟨rfl, hk⟩; replace hm := hm.kept0 hk)
  | (refine m_call hm (hc:=c_bad s.i 2 hr hT (by omega)) (k:=?_); clear hm; rintro _ _ _ _ ⟨rfl, rfl, da2, dc2, rfl⟩ hle hm; try simp only [setn] at hm)
  | (refine m_readC hm (hc:=c_end s.i hr hT hi) (k:=?_); clear hm; intro _ hm)
  | (refine m_allocS (d:=4) hm (k:=?_); clear hm; intro b4 _ hm)
  | (refine m_varS (d:=6) hm (k:=?_); clear hm; intro b6 _ hm)
  | refine m_load1 hm (k:=?_)
  | refine m_loadAll hm (k:=?_)
  | (refine m_storeAll hm (k:=?_); clear hm; intro _ hm; try simp only [setn] at hm)
  | (refine m_store1 hm (k:=?_); clear hm; intro _ hm; try simp only [setn] at hm)
  | refine m_ret2_agg hm (h:=?_)
  | refine op_move (k:=?_)
  | refine op_assign (k:=?_)
  | refine op_pick_false (k:=?_)
  | refine op_lss (k:=?_)
  | refine op_eql_str (k:=?_)
  | refine op_field1 (k:=?_)
  | refine op_fieldAddr (k:=?_)
  | refine op_struct (k:=?_)
  | refine wl_skip (k:=?_)
  | (refine wl_split_dec (h1:=fun _ => ?_) (h0:=fun _ => ?_)<;> (try first | contradiction | (exfalso; omega)))
  | refine wl_nil ?_
  | refine at_then_normal ?_
  | refine at_block_normal ?_
  | refine wc_seq ?_
  | refine wc_region ?_
  | refine wc_block ?_
  | refine wc_skip ?_
  | refine wc_ret ?_
  | refine wc_cond_false (hf:=?_)
  | (refine wc_cond_dec (ht:=fun _ => ?_) (hf:=fun _ => ?_)<;> (try first | contradiction | (exfalso; omega))))
  all_goals try (exfalso; first | omega | contradiction)
  · rw [Nat.max_eq_right (by dsimp only [Sp.St.bad]; omega)]
    exact ⟨I, _, ⟨⟨none, 0, [], none, 0, [], none, 0, [], rfl, rowI_nil _ _ _ _ _, .nil, st_row0 _, .nil, st_row0 _, .nil⟩, da2, dc2, rfl⟩, hm.left (H := [_, _])⟩
  · rw [Nat.max_eq_left (by dsimp only [Sp.St.bad]; omega)]
    exact ⟨I, _, ⟨⟨none, 0, [], none, 0, [], none, 0, [], rfl, rowI_nil _ _ _ _ _, .nil, st_row0 _, .nil, st_row0 _, .nil⟩, da2, dc2, rfl⟩, hm.left (H := [_, _])⟩
set_option maxHeartbeats 4000000 in
theorem st_do (hT : Ok T) (hr : TokR I T la lc) (hi : s.i ≤ T.l.length) (hf : 5 * (T.l.length - s.i) + 5 ≤ f + 1) (hd : s.ds.length + 8 * (T.l.length - s.i) + 32 ≤ 1099511627776) (hdp : deep ≤ 12) (n1 : (T.tok s.i).text ≠ [108, 101, 116]) (n2 : (T.tok s.i).text ≠ [105, 102]) (n3 : (T.tok s.i).text ≠ [119, 104, 105, 108, 101]) (n4 : (T.tok s.i).text ≠ [115, 101, 110, 100]) (n5 : (T.tok s.i).text ≠ [114, 101, 116, 117, 114, 110]) (h5 : Sp.name (T.tok s.i).text = true) (h6 : T.is (s.i + 1) [61] = false) :
    CalM Try.prog 73 #[ptr pb, nt s.i] I (PSt pb la lc T s.ds deep da dc) (ToSt pb la lc T deep (Sp.stm T (f + 1) deep s)) := by
  have h2 := hT.size
  have h3 := hT.len
  have h1 := hT.at_ s.i
  have hn := c_rname (T.tok s.i).text (by omega)
  rw [h5] at hn
  have hq := fun ds deep da dc => c_is (pb := pb) (ds := ds) (deep := deep) (da := da) (dc := dc) (s.i + 1) [61] hr
  rw [h6] at hq
  have hlt := Sp.tok_lt (Sp.name_ne h5)
  have hex := fun da dc => (c_atomexpr T pb hT f).2 I la lc deep da dc s 1 hr (by omega) (by omega) (by omega) hdp
  have hg := (Sp.goes_expr T f).2.2.1 deep 1 s
  rw [Sp.stm]
  dsimp only
  rw [if_neg n1, if_neg n2, if_neg n3, if_neg n4, if_neg n5, if_pos h5, if_neg (by rw [h6]; simp)]
  generalize Sp.expr T f deep 1 s = r at hex hg ⊢
  have hg1 := hg.le
  have hg2 := hg.top (by omega)
  have hg3 := hg.ds
  have hg4 := (Sp.goes_need T r.2 [59]).top hg2
  refine CalM.of fun w E hm => enter (N := 205) Try.func73 rfl [(0, ptr pb), (1, nt s.i)] args2 rfl ?_
  repeat' (first
  | (refine m_readC hm (hc:=c_T s.i hr) (k:=?_); clear hm; intro _ hm)
  | (refine op_call (hc:=by exact hn _) (k:=?_); rintro _ _ ⟨rfl, hk⟩; replace hm := hm.kept0 hk)
  | (refine m_readC hm (hc:=hq _ _ _ _) (k:=?_); clear hm; intro _ hm)
  | (refine m_call hm (hc:=hex _ _) (k:=?_); clear hm; rintro _ I2 _ _ ⟨⟨ea, ec, xs, rfl, hrow, hexs⟩, da', dc', rfl⟩ hle hm; have hleI2 := hle; try simp only [setn] at hm)
  | (refine m_call hm (hc:=c_need r.2 [59] (hr.le hleI2) hT (by omega) hg2) (k:=?_); clear hm; rintro _ _ _ _ ⟨rfl, rfl, da2, dc2, rfl⟩ hle hm; try simp only [setn] at hm)
  | (refine m_readC hm (hc:=c_end (r.2.need T [59]).2.i (hr.le hleI2) hT hg4) (k:=?_); clear hm; intro _ hm)
  | (refine m_allocS (d:=4) hm (k:=?_); clear hm; intro b4 _ hm)
  | (refine m_varS (d:=6) hm (k:=?_); clear hm; intro b6 _ hm)
  | refine m_load1 hm (k:=?_)
  | refine m_loadAll hm (k:=?_)
  | (refine m_storeAll hm (k:=?_); clear hm; intro _ hm; try simp only [setn] at hm)
  | (refine m_store1 hm (k:=?_); clear hm; intro _ hm; try simp only [setn] at hm)
  | (refine m_storeN hm (k:=?_); clear hm; intro _ hm; try simp only [setn] at hm)
  | refine m_ret2_agg hm (h:=?_)
  | refine op_move (k:=?_)
  | refine op_assign (k:=?_)
  | refine op_pick_true (k:=?_)
  | refine op_pick_false (k:=?_)
  | refine op_lss (k:=?_)
  | refine op_eql_str (k:=?_)
  | refine op_extract (k:=?_)
  | refine op_field1 (k:=?_)
  | refine op_add (k:=?_)
  | refine op_fieldAddr (k:=?_)
  | refine op_struct (k:=?_)
  | (refine wl_split_dec (h1:=fun _ => ?_) (h0:=fun _ => ?_)<;> (try first | contradiction | (exfalso; omega)))
  | refine wl_nil ?_
  | refine at_then_normal ?_
  | refine at_block_normal ?_
  | refine wc_seq ?_
  | refine wc_region ?_
  | refine wc_block ?_
  | refine wc_skip ?_
  | refine wc_ret ?_
  | refine wc_cond_true (ht:=?_)
  | refine wc_cond_false (hf:=?_)
  | (refine wc_cond_dec (ht:=fun _ => ?_) (hf:=fun _ => ?_)<;> (try first | contradiction | (exfalso; omega))))
  all_goals try (exfalso; first | omega | contradiction)
  · rw [Nat.max_eq_right (by omega)]
    exact ⟨I2, _, ⟨⟨ea, ec, xs, none, 0, [], none, 0, [], rfl, hrow, hexs, st_row0 _, .nil, st_row0 _, .nil⟩, da2, dc2, rfl⟩, hm.left (H := [_, _])⟩
  · rw [Nat.max_eq_left (by omega)]
    exact ⟨I2, _, ⟨⟨ea, ec, xs, none, 0, [], none, 0, [], rfl, hrow, hexs, st_row0 _, .nil, st_row0 _, .nil⟩, da2, dc2, rfl⟩, hm.left (H := [_, _])⟩
set_option maxHeartbeats 4000000 in
theorem st_set (hT : Ok T) (hr : TokR I T la lc) (hi : s.i ≤ T.l.length) (hf : 5 * (T.l.length - s.i) + 5 ≤ f + 1) (hd : s.ds.length + 8 * (T.l.length - s.i) + 32 ≤ 1099511627776) (hdp : deep ≤ 12) (n1 : (T.tok s.i).text ≠ [108, 101, 116]) (n2 : (T.tok s.i).text ≠ [105, 102]) (n3 : (T.tok s.i).text ≠ [119, 104, 105, 108, 101]) (n4 : (T.tok s.i).text ≠ [115, 101, 110, 100]) (n5 : (T.tok s.i).text ≠ [114, 101, 116, 117, 114, 110]) (h5 : Sp.name (T.tok s.i).text = true) (h6 : T.is (s.i + 1) [61] = true) :
    CalM Try.prog 73 #[ptr pb, nt s.i] I (PSt pb la lc T s.ds deep da dc) (ToSt pb la lc T deep (Sp.stm T (f + 1) deep s)) := by
  have h2 := hT.size
  have h3 := hT.len
  have h1 := hT.at_ s.i
  have hn := c_rname (T.tok s.i).text (by omega)
  rw [h5] at hn
  have hq := fun ds deep da dc => c_is (pb := pb) (ds := ds) (deep := deep) (da := da) (dc := dc) (s.i + 1) [61] hr
  rw [h6] at hq
  have hlt := Sp.is_lt h6
  have hex := fun da dc => (c_atomexpr T pb hT f).2 I la lc deep da dc s.next.next 1 hr (by rw [Sp.next_i, Sp.next_i]; omega) (by rw [Sp.next_i, Sp.next_i]; omega) (by rw [Sp.next_i, Sp.next_i, Sp.next_ds, Sp.next_ds]; omega) hdp
  have hg := (Sp.goes_expr T f).2.2.1 deep 1 s.next.next
  rw [Sp.stm]
  dsimp only
  rw [if_neg n1, if_neg n2, if_neg n3, if_neg n4, if_neg n5, if_pos h5, if_pos h6]
  generalize Sp.expr T f deep 1 s.next.next = r at hex hg ⊢
  have hg1 := hg.le
  have hg2 := hg.top (by rw [Sp.next_i, Sp.next_i]; omega)
  have hg3 := hg.ds
  rw [Sp.next_i, Sp.next_i] at hg1 hg3
  rw [Sp.next_ds, Sp.next_ds] at hg3
  have hg4 := (Sp.goes_need T r.2 [59]).top hg2
  refine CalM.of fun w E hm => enter (N := 205) Try.func73 rfl [(0, ptr pb), (1, nt s.i)] args2 rfl ?_
  repeat' (first
  | (refine m_readC hm (hc:=c_T s.i hr) (k:=?_); clear hm; intro _ hm)
  | (refine op_call (hc:=by exact hn _) (k:=?_); rintro _ _ ⟨rfl, hk⟩; replace hm := hm.kept0 hk)
  | (refine m_readC hm (hc:=hq _ _ _ _) (k:=?_); clear hm; intro _ hm)
  | (refine m_call hm (hc:=hex _ _) (k:=?_); clear hm; rintro _ I2 _ _ ⟨⟨ea, ec, xs, rfl, hrow, hexs⟩, da', dc', rfl⟩ hle hm; have hleI2 := hle; try simp only [setn] at hm)
  | (refine m_call hm (hc:=c_need r.2 [59] (hr.le hleI2) hT (by omega) hg2) (k:=?_); clear hm; rintro _ _ _ _ ⟨rfl, rfl, da2, dc2, rfl⟩ hle hm; try simp only [setn] at hm)
  | (refine m_readC hm (hc:=c_end (r.2.need T [59]).2.i (hr.le hleI2) hT hg4) (k:=?_); clear hm; intro _ hm)
  | (refine m_allocS (d:=4) hm (k:=?_); clear hm; intro b4 _ hm)
  | (refine m_varS (d:=6) hm (k:=?_); clear hm; intro b6 _ hm)
  | refine m_load1 hm (k:=?_)
  | refine m_loadAll hm (k:=?_)
  | (refine m_storeAll hm (k:=?_); clear hm; intro _ hm; try simp only [setn] at hm)
  | (refine m_store1 hm (k:=?_); clear hm; intro _ hm; try simp only [setn] at hm)
  | (refine m_storeN hm (k:=?_); clear hm; intro _ hm; try simp only [setn] at hm)
  | refine m_ret2_agg hm (h:=?_)
  | refine op_move (k:=?_)
  | refine op_assign (k:=?_)
  | refine op_pick_true (k:=?_)
  | refine op_pick_false (k:=?_)
  | refine op_lss (k:=?_)
  | refine op_eql_str (k:=?_)
  | refine op_extract (k:=?_)
  | refine op_field1 (k:=?_)
  | refine op_add (k:=?_)
  | refine op_fieldAddr (k:=?_)
  | refine op_struct (k:=?_)
  | (refine wl_split_dec (h1:=fun _ => ?_) (h0:=fun _ => ?_)<;> (try first | contradiction | (exfalso; omega)))
  | refine wl_nil ?_
  | refine at_then_normal ?_
  | refine at_block_normal ?_
  | refine wc_seq ?_
  | refine wc_region ?_
  | refine wc_block ?_
  | refine wc_skip ?_
  | refine wc_ret ?_
  | refine wc_cond_true (ht:=?_)
  | (refine wc_cond_dec (ht:=fun _ => ?_) (hf:=fun _ => ?_)<;> (try first | contradiction | (exfalso; omega))))
  all_goals try (exfalso; first | omega | contradiction)
  · rw [Nat.max_eq_right (by omega)]
    exact ⟨I2, _, ⟨⟨ea, ec, xs, none, 0, [], none, 0, [], rfl, hrow, hexs, st_row0 _, .nil, st_row0 _, .nil⟩, da2, dc2, rfl⟩, hm.left (H := [_, _])⟩
  · rw [Nat.max_eq_left (by omega)]
    exact ⟨I2, _, ⟨⟨ea, ec, xs, none, 0, [], none, 0, [], rfl, hrow, hexs, st_row0 _, .nil, st_row0 _, .nil⟩, da2, dc2, rfl⟩, hm.left (H := [_, _])⟩
set_option maxHeartbeats 4000000 in
theorem st_send (hT : Ok T) (hr : TokR I T la lc) (hi : s.i ≤ T.l.length) (hf : 5 * (T.l.length - s.i) + 5 ≤ f + 1) (hd : s.ds.length + 8 * (T.l.length - s.i) + 32 ≤ 1099511627776) (hdp : deep ≤ 12) (h5 : (T.tok s.i).text = [115, 101, 110, 100]) :
    CalM Try.prog 73 #[ptr pb, nt s.i] I (PSt pb la lc T s.ds deep da dc) (ToSt pb la lc T deep (Sp.stm T (f + 1) deep s)) := by
  have h2 := hT.size
  have h3 := hT.len
  have h1 := hT.at_ s.i
  have hlt : s.i < T.l.length := Sp.tok_lt (by rw [h5]; simp)
  have hT1 := fun ds deep da dc => c_T (pb := pb) (ds := ds) (deep := deep) (da := da) (dc := dc) s.i hr
  have hTe : encTok (T.tok s.i) = [nt (T.tok s.i).kind, str [115, 101, 110, 100], nt (T.tok s.i).pos] := by rw [← h5]; rfl
  rw [hTe] at hT1
  have hnm := fun da dc => c_named (pb := pb) (deep := deep) (da := da) (dc := dc) s.next hr hT (by rw [Sp.next_ds]; omega) (by rw [Sp.next_i]; omega)
  have hgn := Sp.goes_named T s.next
  rw [Sp.stm]
  dsimp only
  rw [h5, if_neg (by decide), if_neg (by decide), if_neg (by decide), if_pos rfl]
  generalize s.next.named T = q at hnm hgn ⊢
  have hq1 := hgn.le
  have hq2 := hgn.top (by rw [Sp.next_i]; omega)
  have hq3 := hgn.ds
  rw [Sp.next_i] at hq1 hq3
  rw [Sp.next_ds] at hq3
  have hex := fun da dc => (c_atomexpr T pb hT f).2 I la lc deep da dc q.2 1 hr (by omega) (by omega) (by omega) hdp
  have hg := (Sp.goes_expr T f).2.2.1 deep 1 q.2
  generalize Sp.expr T f deep 1 q.2 = r at hex hg ⊢
  have hg1 := hg.le
  have hg2 := hg.top (by omega)
  have hg3 := hg.ds
  have hg4 := (Sp.goes_need T r.2 [59]).top hg2
  refine CalM.of fun w E hm => enter (N := 205) Try.func73 rfl [(0, ptr pb), (1, nt s.i)] args2 rfl ?_
  repeat' (first
  | (refine m_readC (d:=11) hm (hc:=hT1 _ _ _ _) (k:=?_); clear hm; intro _ hm)
  | (refine m_readC (d:=16) hm (hc:=hT1 _ _ _ _) (k:=?_); clear hm; intro _ hm)
  | (refine m_readC hm (hc:=c_T (s.i + 1) hr) (k:=?_); clear hm; intro _ hm)
  | (refine m_call hm (hc:=hnm _ _) (k:=?_); clear hm; rintro _ _ _ _ ⟨rfl, rfl, da1, dc1, rfl⟩ hle hm; try simp only [setn] at hm)
  | (refine m_call hm (hc:=hex _ _) (k:=?_); clear hm; rintro _ I2 _ _ ⟨⟨ea, ec, xs, rfl, hrow, hexs⟩, da', dc', rfl⟩ hle hm; have hleI2 := hle; try simp only [setn] at hm)
  | (refine m_call hm (hc:=c_need r.2 [59] (hr.le hleI2) hT (by omega) hg2) (k:=?_); clear hm; rintro _ _ _ _ ⟨rfl, rfl, da2, dc2, rfl⟩ hle hm; try simp only [setn] at hm)
  | (refine m_readC hm (hc:=c_end (r.2.need T [59]).2.i (hr.le hleI2) hT hg4) (k:=?_); clear hm; intro _ hm)
  | (refine m_allocS (d:=4) hm (k:=?_); clear hm; intro b4 _ hm)
  | (refine m_varS (d:=6) hm (k:=?_); clear hm; intro b6 _ hm)
  | refine m_load1 hm (k:=?_)
  | refine m_loadAll hm (k:=?_)
  | (refine m_storeAll hm (k:=?_); clear hm; intro _ hm; try simp only [setn] at hm)
  | (refine m_store1 hm (k:=?_); clear hm; intro _ hm; try simp only [setn] at hm)
  | (refine m_storeN hm (k:=?_); clear hm; intro _ hm; try simp only [setn] at hm)
  | refine m_ret2_agg hm (h:=?_)
  | refine op_move (k:=?_)
  | refine op_assign (k:=?_)
  | refine op_pick_false (k:=?_)
  | refine op_lss (k:=?_)
  | refine op_eql_str (k:=?_)
  | refine op_extract (k:=?_)
  | refine op_field1 (k:=?_)
  | refine op_add (k:=?_)
  | refine op_fieldAddr (k:=?_)
  | refine op_struct (k:=?_)
  | refine wl_nil ?_
  | refine at_then_normal ?_
  | refine at_block_normal ?_
  | refine wc_seq ?_
  | refine wc_region ?_
  | refine wc_block ?_
  | refine wc_skip ?_
  | refine wc_ret ?_
  | refine wc_cond_true (ht:=?_)
  | refine wc_cond_false (hf:=?_)
  | (refine wc_cond_dec (ht:=fun _ => ?_) (hf:=fun _ => ?_)<;> (try first | contradiction | (exfalso; omega))))
  · rw [Nat.max_eq_right (by omega)]
    exact ⟨I2, _, ⟨⟨ea, ec, xs, none, 0, [], none, 0, [], rfl, hrow, hexs, st_row0 _, .nil, st_row0 _, .nil⟩, da2, dc2, rfl⟩, hm.left (H := [_, _])⟩
  · rw [Nat.max_eq_left (by omega)]
    exact ⟨I2, _, ⟨⟨ea, ec, xs, none, 0, [], none, 0, [], rfl, hrow, hexs, st_row0 _, .nil, st_row0 _, .nil⟩, da2, dc2, rfl⟩, hm.left (H := [_, _])⟩
end
end Go.Proofs.Ytjfkjpbkmpofkaa
end
section
namespace Go.Proofs.Ytjfkjpbkmpofkaa
open Go.Fw
section
variable {T : Sp.Src} {pb f : Nat} {I : Imm} {la : Option Addr} {lc deep : Nat} {da : Option Addr} {dc : Nat} {s : Sp.St}
set_option maxHeartbeats 4000000 in
theorem st_let1 (hT : Ok T) (hr : TokR I T la lc) (hi : s.i ≤ T.l.length) (hf : 5 * (T.l.length - s.i) + 5 ≤ f + 1) (hd : s.ds.length + 8 * (T.l.length - s.i) + 32 ≤ 1099511627776) (hdp : deep ≤ 12) (h5 : (T.tok s.i).text = [108, 101, 116]) (h6 : T.is (s.next.named T).2.i [58] = true) :
    CalM Try.prog 73 #[ptr pb, nt s.i] I (PSt pb la lc T s.ds deep da dc) (ToSt pb la lc T deep (Sp.stm T (f + 1) deep s)) := by
  have h2 := hT.size
  have h3 := hT.len
  have h1 := hT.at_ s.i
  have hlt : s.i < T.l.length := Sp.tok_lt (by rw [h5]; simp)
  have hT1 := fun ds deep da dc => c_T (pb := pb) (ds := ds) (deep := deep) (da := da) (dc := dc) s.i hr
  have hTe : encTok (T.tok s.i) = [nt (T.tok s.i).kind, str [108, 101, 116], nt (T.tok s.i).pos] := by rw [← h5]; rfl
  rw [hTe] at hT1
  have hnm := fun da dc => c_named (pb := pb) (deep := deep) (da := da) (dc := dc) s.next hr hT (by rw [Sp.next_ds]; omega) (by rw [Sp.next_i]; omega)
  have hgn := Sp.goes_named T s.next
  rw [Sp.stm]
  dsimp only
  rw [h5, if_pos rfl]
  generalize s.next.named T = q at hnm hgn h6 ⊢
  have hq1 := hgn.le
  have hq2 := hgn.top (by rw [Sp.next_i]; omega)
  have hq3 := hgn.ds
  rw [Sp.next_i] at hq1 hq3
  rw [Sp.next_ds] at hq3
  have his := fun ds deep da dc => c_is (pb := pb) (ds := ds) (deep := deep) (da := da) (dc := dc) q.2.i [58] hr
  rw [h6] at his
  have hlc := Sp.is_lt h6
  rw [h6, if_neg (by simp)]
  have hlab := fun da dc => c_lab (pb := pb) (deep := deep) (da := da) (dc := dc) q.2.next hr hT (by rw [Sp.next_i]; omega) (by rw [Sp.next_i, Sp.next_ds]; omega)
  have hgl := Sp.goes_lab T q.2.next
  generalize Sp.lab T q.2.next = lb at hlab hgl ⊢
  have hl1 := hgl.le
  have hl2 := hgl.top (by rw [Sp.next_i]; omega)
  have hl3 := hgl.ds
  rw [Sp.next_i] at hl1 hl3
  rw [Sp.next_ds] at hl3
  have hnd := fun da dc => c_need (pb := pb) (deep := deep) (da := da) (dc := dc) lb.2 [61] hr hT (by omega) (by omega)
  have hge := Sp.goes_need T lb.2 [61]
  generalize lb.2.need T [61] = e at hnd hge ⊢
  have he1 := hge.le
  have he2 := hge.top (by omega)
  have he3 := hge.ds
  have hex := fun da dc => (c_atomexpr T pb hT f).2 I la lc deep da dc e.2 1 hr (by omega) (by omega) (by omega) hdp
  have hg := (Sp.goes_expr T f).2.2.1 deep 1 e.2
  generalize Sp.expr T f deep 1 e.2 = r at hex hg ⊢
  have hg1 := hg.le
  have hg2 := hg.top (by omega)
  have hg3 := hg.ds
  have hg4 := (Sp.goes_need T r.2 [59]).top hg2
  refine CalM.of fun w E hm => enter (N := 205) Try.func73 rfl [(0, ptr pb), (1, nt s.i)] args2 rfl ?_
  repeat' (first
  | (refine m_readC (d:=11) hm (hc:=hT1 _ _ _ _) (k:=?_); clear hm; intro _ hm)
  | (refine m_readC (d:=16) hm (hc:=hT1 _ _ _ _) (k:=?_); clear hm; intro _ hm)
  | (refine m_readC hm (hc:=c_T (s.i + 1) hr) (k:=?_); clear hm; intro _ hm)
  | (refine m_call hm (hc:=hnm _ _) (k:=?_); clear hm; rintro _ _ _ _ ⟨rfl, rfl, da1, dc1, rfl⟩ hle hm; try simp only [setn] at hm)
  | (refine m_readC hm (hc:=his _ _ _ _) (k:=?_); clear hm; intro _ hm)
  | (refine m_call hm (hc:=hlab _ _) (k:=?_); clear hm; rintro _ _ _ _ ⟨rfl, rfl, da3, dc3, rfl⟩ hle hm; try simp only [setn] at hm)
  | (refine m_call hm (hc:=hnd _ _) (k:=?_); clear hm; rintro _ _ _ _ ⟨rfl, rfl, da4, dc4, rfl⟩ hle hm; try simp only [setn] at hm)
  | (refine m_call hm (hc:=hex _ _) (k:=?_); clear hm; rintro _ I2 _ _ ⟨⟨ea, ec, xs, rfl, hrow, hexs⟩, da', dc', rfl⟩ hle hm; have hleI2 := hle; try simp only [setn] at hm)
  | (refine m_call hm (hc:=c_need r.2 [59] (hr.le hleI2) hT (by omega) hg2) (k:=?_); clear hm; rintro _ _ _ _ ⟨rfl, rfl, da2, dc2, rfl⟩ hle hm; try simp only [setn] at hm)
  | (refine m_readC hm (hc:=c_end (r.2.need T [59]).2.i (hr.le hleI2) hT hg4) (k:=?_); clear hm; intro _ hm)
  | (refine m_allocS (d:=4) hm (k:=?_); clear hm; intro b4 _ hm)
  | (refine m_varS (d:=6) hm (k:=?_); clear hm; intro b6 _ hm)
  | refine m_load1 hm (k:=?_)
  | refine m_loadAll hm (k:=?_)
  | (refine m_storeAll hm (k:=?_); clear hm; intro _ hm; try simp only [setn] at hm)
  | (refine m_store1 hm (k:=?_); clear hm; intro _ hm; try simp only [setn] at hm)
  | (refine m_storeN hm (k:=?_); clear hm; intro _ hm; try simp only [setn] at hm)
  | refine m_ret2_agg hm (h:=?_)
  | refine op_move (k:=?_)
  | refine op_assign (k:=?_)
  | refine op_lss (k:=?_)
  | refine op_eql_str (k:=?_)
  | refine op_not (k:=?_)
  | refine op_extract (k:=?_)
  | refine op_field1 (k:=?_)
  | refine op_add (k:=?_)
  | refine op_fieldAddr (k:=?_)
  | refine op_struct (k:=?_)
  | refine wl_nil ?_
  | refine at_then_normal ?_
  | refine at_block_normal ?_
  | refine wc_seq ?_
  | refine wc_region ?_
  | refine wc_block ?_
  | refine wc_skip ?_
  | refine wc_ret ?_
  | refine wc_cond_true (ht:=?_)
  | (refine wc_cond_dec (ht:=fun _ => ?_) (hf:=fun _ => ?_)<;> (try first | contradiction | (exfalso; omega))))
  · rw [Nat.max_eq_right (by omega)]
    exact ⟨I2, _, ⟨⟨ea, ec, xs, none, 0, [], none, 0, [], rfl, hrow, hexs, st_row0 _, .nil, st_row0 _, .nil⟩, da2, dc2, rfl⟩, hm.left (H := [_, _])⟩
  · rw [Nat.max_eq_left (by omega)]
    exact ⟨I2, _, ⟨⟨ea, ec, xs, none, 0, [], none, 0, [], rfl, hrow, hexs, st_row0 _, .nil, st_row0 _, .nil⟩, da2, dc2, rfl⟩, hm.left (H := [_, _])⟩
set_option maxHeartbeats 4000000 in
theorem st_let0 (hT : Ok T) (hr : TokR I T la lc) (hi : s.i ≤ T.l.length) (hf : 5 * (T.l.length - s.i) + 5 ≤ f + 1) (hd : s.ds.length + 8 * (T.l.length - s.i) + 32 ≤ 1099511627776) (hdp : deep ≤ 12) (h5 : (T.tok s.i).text = [108, 101, 116]) (h6 : T.is (s.next.named T).2.i [58] = false) :
    CalM Try.prog 73 #[ptr pb, nt s.i] I (PSt pb la lc T s.ds deep da dc) (ToSt pb la lc T deep (Sp.stm T (f + 1) deep s)) := by
  have h2 := hT.size
  have h3 := hT.len
  have h1 := hT.at_ s.i
  have hlt : s.i < T.l.length := Sp.tok_lt (by rw [h5]; simp)
  have hT1 := fun ds deep da dc => c_T (pb := pb) (ds := ds) (deep := deep) (da := da) (dc := dc) s.i hr
  have hTe : encTok (T.tok s.i) = [nt (T.tok s.i).kind, str [108, 101, 116], nt (T.tok s.i).pos] := by rw [← h5]; rfl
  rw [hTe] at hT1
  have hnm := fun da dc => c_named (pb := pb) (deep := deep) (da := da) (dc := dc) s.next hr hT (by rw [Sp.next_ds]; omega) (by rw [Sp.next_i]; omega)
  have hgn := Sp.goes_named T s.next
  rw [Sp.stm]
  dsimp only
  rw [h5, if_pos rfl]
  generalize s.next.named T = q at hnm hgn h6 ⊢
  have hq1 := hgn.le
  have hq2 := hgn.top (by rw [Sp.next_i]; omega)
  have hq3 := hgn.ds
  rw [Sp.next_i] at hq1 hq3
  rw [Sp.next_ds] at hq3
  have his := fun ds deep da dc => c_is (pb := pb) (ds := ds) (deep := deep) (da := da) (dc := dc) q.2.i [58] hr
  rw [h6] at his
  rw [h6, if_pos (by rfl)]
  obtain ⟨lb, hlb⟩ : ∃ lb : Nat × Sp.St, lb = (0, q.2) := ⟨_, rfl⟩
  have hl1 : lb.2.i = q.2.i := by rw [hlb]
  have hl2 : lb.2.i ≤ T.l.length := by rw [hlb]; exact hq2
  have hl3 : lb.2.ds = q.2.ds := by rw [hlb]
  have hl4 : lb.2 = q.2 := by rw [hlb]
  have hnd := fun da dc => c_need (pb := pb) (deep := deep) (da := da) (dc := dc) q.2 [61] hr hT (by omega) (by omega)
  have hge := Sp.goes_need T q.2 [61]
  generalize q.2.need T [61] = e at hnd hge ⊢
  have he1 := hge.le
  have he2 := hge.top (by omega)
  have he3 := hge.ds
  have hex := fun da dc => (c_atomexpr T pb hT f).2 I la lc deep da dc e.2 1 hr (by omega) (by omega) (by omega) hdp
  have hg := (Sp.goes_expr T f).2.2.1 deep 1 e.2
  generalize Sp.expr T f deep 1 e.2 = r at hex hg ⊢
  have hg1 := hg.le
  have hg2 := hg.top (by omega)
  have hg3 := hg.ds
  have hg4 := (Sp.goes_need T r.2 [59]).top hg2
  refine CalM.of fun w E hm => enter (N := 205) Try.func73 rfl [(0, ptr pb), (1, nt s.i)] args2 rfl ?_
  repeat' (first
  | (refine m_readC (d:=11) hm (hc:=hT1 _ _ _ _) (k:=?_); clear hm; intro _ hm)
  | (refine m_readC (d:=16) hm (hc:=hT1 _ _ _ _) (k:=?_); clear hm; intro _ hm)
  | (refine m_readC hm (hc:=c_T (s.i + 1) hr) (k:=?_); clear hm; intro _ hm)
  | (refine m_call hm (hc:=hnm _ _) (k:=?_); clear hm; rintro _ _ _ _ ⟨rfl, rfl, da1, dc1, rfl⟩ hle hm; try simp only [setn] at hm)
  | (refine m_readC hm (hc:=his _ _ _ _) (k:=?_); clear hm; intro _ hm)
  | (refine m_call hm (hc:=hnd _ _) (k:=?_); clear hm; rintro _ _ _ _ ⟨rfl, rfl, da4, dc4, rfl⟩ hle hm; try simp only [setn] at hm)
  | (refine m_call hm (hc:=hex _ _) (k:=?_); clear hm; rintro _ I2 _ _ ⟨⟨ea, ec, xs, rfl, hrow, hexs⟩, da', dc', rfl⟩ hle hm; have hleI2 := hle; try simp only [setn] at hm)
  | (refine m_call hm (hc:=c_need r.2 [59] (hr.le hleI2) hT (by omega) hg2) (k:=?_); clear hm; rintro _ _ _ _ ⟨rfl, rfl, da2, dc2, rfl⟩ hle hm; try simp only [setn] at hm)
  | (refine m_readC hm (hc:=c_end (r.2.need T [59]).2.i (hr.le hleI2) hT hg4) (k:=?_); clear hm; intro _ hm)
  | (refine m_allocS (d:=4) hm (k:=?_); clear hm; intro b4 _ hm)
  | (refine m_varS (d:=6) hm (k:=?_); clear hm; intro b6 _ hm)
  | refine m_load1 hm (k:=?_)
  | refine m_loadAll hm (k:=?_)
  | (refine m_storeAll hm (k:=?_); clear hm; intro _ hm; try simp only [setn] at hm)
  | (refine m_store1 hm (k:=?_); clear hm; intro _ hm; try simp only [setn] at hm)
  | (refine m_storeN hm (k:=?_); clear hm; intro _ hm; try simp only [setn] at hm)
  | refine m_ret2_agg hm (h:=?_)
  | refine op_move (k:=?_)
  | refine op_assign (k:=?_)
  | refine op_lss (k:=?_)
  | refine op_eql_str (k:=?_)
  | refine op_not (k:=?_)
  | refine op_extract (k:=?_)
  | refine op_field1 (k:=?_)
  | refine op_add (k:=?_)
  | refine op_fieldAddr (k:=?_)
  | refine op_struct (k:=?_)
  | refine wl_nil ?_
  | refine at_then_normal ?_
  | refine at_block_normal ?_
  | refine wc_seq ?_
  | refine wc_region ?_
  | refine wc_block ?_
  | refine wc_skip ?_
  | refine wc_ret ?_
  | refine wc_cond_true (ht:=?_)
  | refine wc_cond_false (hf:=?_)
  | (refine wc_cond_dec (ht:=fun _ => ?_) (hf:=fun _ => ?_)<;> (try first | contradiction | (exfalso; omega))))
  · rw [Nat.max_eq_right (by omega)]
    exact ⟨I2, _, ⟨⟨ea, ec, xs, none, 0, [], none, 0, [], rfl, hrow, hexs, st_row0 _, .nil, st_row0 _, .nil⟩, da2, dc2, rfl⟩, hm.left (H := [_, _])⟩
  · rw [Nat.max_eq_left (by omega)]
    exact ⟨I2, _, ⟨⟨ea, ec, xs, none, 0, [], none, 0, [], rfl, hrow, hexs, st_row0 _, .nil, st_row0 _, .nil⟩, da2, dc2, rfl⟩, hm.left (H := [_, _])⟩
set_option maxHeartbeats 4000000 in
theorem st_if1 (hT : Ok T) (hr : TokR I T la lc) (hi : s.i ≤ T.l.length) (hf : 5 * (T.l.length - s.i) + 5 ≤ f + 1) (hd : s.ds.length + 8 * (T.l.length - s.i) + 32 ≤ 1099511627776) (hdp : deep ≤ 12) (ihb : ∀ g, g ≤ f → BlockC T pb g) (h5 : (T.tok s.i).text = [105, 102]) (h6 : T.is (Sp.block T f deep (Sp.expr T f deep 1 s.next).2).2.i [101, 108, 115, 101] = true) :
    CalM Try.prog 73 #[ptr pb, nt s.i] I (PSt pb la lc T s.ds deep da dc) (ToSt pb la lc T deep (Sp.stm T (f + 1) deep s)) := by
  have h2 := hT.size
  have h3 := hT.len
  have h1 := hT.at_ s.i
  have hlt : s.i < T.l.length := Sp.tok_lt (by rw [h5]; simp)
  have hT1 := fun ds deep da dc => c_T (pb := pb) (ds := ds) (deep := deep) (da := da) (dc := dc) s.i hr
  have hTe : encTok (T.tok s.i) = [nt (T.tok s.i).kind, str [105, 102], nt (T.tok s.i).pos] := by rw [← h5]; rfl
  rw [hTe] at hT1
  have hex := fun da dc => (c_atomexpr T pb hT f).2 I la lc deep da dc s.next 1 hr (by rw [Sp.next_i]; omega) (by rw [Sp.next_i]; omega) (by rw [Sp.next_i, Sp.next_ds]; omega) hdp
  have hg := (Sp.goes_expr T f).2.2.1 deep 1 s.next
  rw [Sp.stm]
  dsimp only
  rw [h5, if_neg (by decide), if_pos rfl]
  generalize Sp.expr T f deep 1 s.next = r at hex hg h6 ⊢
  have hg1 := hg.le
  have hg2 := hg.top (by rw [Sp.next_i]; omega)
  have hg3 := hg.ds
  rw [Sp.next_i] at hg1 hg3
  rw [Sp.next_ds] at hg3
  have hbl := fun I (hr : TokR I T la lc) da dc => ihb f (Nat.le_refl _) I la lc deep da dc r.2 hr hg2 (by omega) (by omega) hdp
  have hgb := (Sp.goes_block T f).1 deep r.2
  generalize Sp.block T f deep r.2 = b at hbl hgb h6 ⊢
  have hb1 := hgb.le
  have hb2 := hgb.top hg2
  have hb3 := hgb.ds
  have his := fun I (hr : TokR I T la lc) ds deep da dc => c_is (pb := pb) (ds := ds) (deep := deep) (da := da) (dc := dc) b.2.i [101, 108, 115, 101] hr
  rw [h6] at his ⊢
  have hle' := Sp.is_lt h6
  rw [if_pos rfl]
  have hel := fun I (hr : TokR I T la lc) da dc => ihb f (Nat.le_refl _) I la lc deep da dc b.2.next hr (by rw [Sp.next_i]; omega) (by rw [Sp.next_i]; omega) (by rw [Sp.next_i, Sp.next_ds]; omega) hdp
  have hge := (Sp.goes_block T f).1 deep b.2.next
  generalize Sp.block T f deep b.2.next = c at hel hge ⊢
  have he1 := hge.le
  have he2 := hge.top (by rw [Sp.next_i]; omega)
  have he3 := hge.ds
  refine CalM.of fun w E hm => enter (N := 205) Try.func73 rfl [(0, ptr pb), (1, nt s.i)] args2 rfl ?_
  repeat' (first
  | (refine m_readC (d:=11) hm (hc:=hT1 _ _ _ _) (k:=?_); clear hm; intro _ hm)
  | (refine m_readC (d:=16) hm (hc:=hT1 _ _ _ _) (k:=?_); clear hm; intro _ hm)
  | (refine m_makeMap hm (k:=?_); clear hm; intro bm _ hm)
  | (refine m_insertNew hm (hn:=by decide) (k:=?_); clear hm; intro _ hm; try simp only [setn] at hm)
  | (refine m_lookup hm (hn:=by decide) (hz:=zero_int) (k:=?_))
  | (refine m_call hm (hc:=hex _ _) (k:=?_); clear hm; rintro _ I2 _ _ ⟨⟨ea, ec, xs, rfl, hrow, hexs⟩, da', dc', rfl⟩ hle hm; have hleI2 := hle; try simp only [setn] at hm)
  | (refine m_call (d:=107) hm (hc:=hel I3 (hr.le (hleI2.trans hleI3)) _ _) (k:=?_); clear hm; rintro _ I4 _ _ ⟨⟨a4, c4, xs4, rfl, hrow4, hsts4⟩, da4, dc4, rfl⟩ hle hm; have hleI4 := hle; try simp only [setn] at hm)
  | (refine m_call (d:=92) hm (hc:=hbl I2 (hr.le hleI2) _ _) (k:=?_); clear hm; rintro _ I3 _ _ ⟨⟨a3, c3, xs3, rfl, hrow3, hsts3⟩, da3, dc3, rfl⟩ hle hm; have hleI3 := hle; try simp only [setn] at hm)
  | (refine m_readC hm (hc:=his I3 (hr.le (hleI2.trans hleI3)) _ _ _ _) (k:=?_); clear hm; intro _ hm)
  | (refine m_readC hm (hc:=c_end c.2.i (hr.le ((hleI2.trans hleI3).trans hleI4)) hT he2) (k:=?_); clear hm; intro _ hm)
  | (refine m_allocS (d:=4) hm (k:=?_); clear hm; intro b4 _ hm)
  | (refine m_varS (d:=6) hm (k:=?_); clear hm; intro b6 _ hm)
  | refine m_load1 hm (k:=?_)
  | refine m_loadAll hm (k:=?_)
  | (refine m_storeAll hm (k:=?_); clear hm; intro _ hm; try simp only [setn] at hm)
  | (refine m_store1 hm (k:=?_); clear hm; intro _ hm; try simp only [setn] at hm)
  | (refine m_storeN hm (k:=?_); clear hm; intro _ hm; try simp only [setn] at hm)
  | refine m_ret2_agg hm (h:=?_)
  | refine op_move (k:=?_)
  | refine op_assign (k:=?_)
  | refine op_pick_true (k:=?_)
  | refine op_lss (k:=?_)
  | refine op_eql_str (k:=?_)
  | refine op_extract (k:=?_)
  | refine op_field1 (k:=?_)
  | refine op_add (k:=?_)
  | refine op_fieldAddr (k:=?_)
  | refine op_struct (k:=?_)
  | refine wl_skip (k:=?_)
  | refine wl_nil ?_
  | refine at_then_normal ?_
  | refine at_block_normal ?_
  | refine wc_seq ?_
  | refine wc_region ?_
  | refine wc_block ?_
  | refine wc_skip ?_
  | refine wc_ret ?_
  | refine wc_cond_true (ht:=?_)
  | refine wc_cond_false (hf:=?_)
  | (refine wc_cond_dec (ht:=fun _ => ?_) (hf:=fun _ => ?_)<;> (try first | contradiction | (exfalso; omega))))
  · rw [Nat.max_eq_right (by omega)]
    exact ⟨I4, _, ⟨⟨ea, ec, xs, a3, c3, xs3, a4, c4, xs4, rfl, hrow.le (hleI3.trans hleI4), ExsAt.le (hleI3.trans hleI4) _ _ hexs, hrow3.le hleI4, StsAt.le hleI4 _ _ hsts3, hrow4, hsts4⟩, da4, dc4, rfl⟩, hm.left (H := [_, _])⟩
  · rw [Nat.max_eq_left (by omega)]
    exact ⟨I4, _, ⟨⟨ea, ec, xs, a3, c3, xs3, a4, c4, xs4, rfl, hrow.le (hleI3.trans hleI4), ExsAt.le (hleI3.trans hleI4) _ _ hexs, hrow3.le hleI4, StsAt.le hleI4 _ _ hsts3, hrow4, hsts4⟩, da4, dc4, rfl⟩, hm.left (H := [_, _])⟩
set_option maxHeartbeats 4000000 in
theorem st_if0 (hT : Ok T) (hr : TokR I T la lc) (hi : s.i ≤ T.l.length) (hf : 5 * (T.l.length - s.i) + 5 ≤ f + 1) (hd : s.ds.length + 8 * (T.l.length - s.i) + 32 ≤ 1099511627776) (hdp : deep ≤ 12) (ihb : ∀ g, g ≤ f → BlockC T pb g) (h5 : (T.tok s.i).text = [105, 102]) (h6 : T.is (Sp.block T f deep (Sp.expr T f deep 1 s.next).2).2.i [101, 108, 115, 101] = false) :
    CalM Try.prog 73 #[ptr pb, nt s.i] I (PSt pb la lc T s.ds deep da dc) (ToSt pb la lc T deep (Sp.stm T (f + 1) deep s)) := by
  have h2 := hT.size
  have h3 := hT.len
  have h1 := hT.at_ s.i
  have hlt : s.i < T.l.length := Sp.tok_lt (by rw [h5]; simp)
  have hT1 := fun ds deep da dc => c_T (pb := pb) (ds := ds) (deep := deep) (da := da) (dc := dc) s.i hr
  have hTe : encTok (T.tok s.i) = [nt (T.tok s.i).kind, str [105, 102], nt (T.tok s.i).pos] := by rw [← h5]; rfl
  rw [hTe] at hT1
  have hex := fun da dc => (c_atomexpr T pb hT f).2 I la lc deep da dc s.next 1 hr (by rw [Sp.next_i]; omega) (by rw [Sp.next_i]; omega) (by rw [Sp.next_i, Sp.next_ds]; omega) hdp
  have hg := (Sp.goes_expr T f).2.2.1 deep 1 s.next
  rw [Sp.stm]
  dsimp only
  rw [h5, if_neg (by decide), if_pos rfl]
  generalize Sp.expr T f deep 1 s.next = r at hex hg h6 ⊢
  have hg1 := hg.le
  have hg2 := hg.top (by rw [Sp.next_i]; omega)
  have hg3 := hg.ds
  rw [Sp.next_i] at hg1 hg3
  rw [Sp.next_ds] at hg3
  have hbl := fun I (hr : TokR I T la lc) da dc => ihb f (Nat.le_refl _) I la lc deep da dc r.2 hr hg2 (by omega) (by omega) hdp
  have hgb := (Sp.goes_block T f).1 deep r.2
  generalize Sp.block T f deep r.2 = b at hbl hgb h6 ⊢
  have hb1 := hgb.le
  have hb2 := hgb.top hg2
  have hb3 := hgb.ds
  have his := fun I (hr : TokR I T la lc) ds deep da dc => c_is (pb := pb) (ds := ds) (deep := deep) (da := da) (dc := dc) b.2.i [101, 108, 115, 101] hr
  rw [h6] at his ⊢
  rw [if_neg (by simp)]
  refine CalM.of fun w E hm => enter (N := 205) Try.func73 rfl [(0, ptr pb), (1, nt s.i)] args2 rfl ?_
  repeat' (first
  | (refine m_readC (d:=11) hm (hc:=hT1 _ _ _ _) (k:=?_); clear hm; intro _ hm)
  | (refine m_readC (d:=16) hm (hc:=hT1 _ _ _ _) (k:=?_); clear hm; intro _ hm)
  | (refine m_makeMap hm (k:=?_); clear hm; intro bm _ hm)
  | (refine m_insertNew hm (hn:=by decide) (k:=?_); clear hm; intro _ hm; try simp only [setn] at hm)
  | (refine m_lookup hm (hn:=by decide) (hz:=zero_int) (k:=?_))
  | (refine m_call hm (hc:=hex _ _) (k:=?_); clear hm; rintro _ I2 _ _ ⟨⟨ea, ec, xs, rfl, hrow, hexs⟩, da', dc', rfl⟩ hle hm; have hleI2 := hle; try simp only [setn] at hm)
  | (refine m_call (d:=92) hm (hc:=hbl I2 (hr.le hleI2) _ _) (k:=?_); clear hm; rintro _ I3 _ _ ⟨⟨a3, c3, xs3, rfl, hrow3, hsts3⟩, da3, dc3, rfl⟩ hle hm; have hleI3 := hle; try simp only [setn] at hm)
  | (refine m_readC hm (hc:=his I3 (hr.le (hleI2.trans hleI3)) _ _ _ _) (k:=?_); clear hm; intro _ hm)
  | (refine m_readC hm (hc:=c_end b.2.i (hr.le (hleI2.trans hleI3)) hT hb2) (k:=?_); clear hm; intro _ hm)
  | (refine m_allocS (d:=4) hm (k:=?_); clear hm; intro b4 _ hm)
  | (refine m_varS (d:=6) hm (k:=?_); clear hm; intro b6 _ hm)
  | refine m_load1 hm (k:=?_)
  | refine m_loadAll hm (k:=?_)
  | (refine m_storeAll hm (k:=?_); clear hm; intro _ hm; try simp only [setn] at hm)
  | (refine m_store1 hm (k:=?_); clear hm; intro _ hm; try simp only [setn] at hm)
  | (refine m_storeN hm (k:=?_); clear hm; intro _ hm; try simp only [setn] at hm)
  | refine m_ret2_agg hm (h:=?_)
  | refine op_move (k:=?_)
  | refine op_assign (k:=?_)
  | refine op_pick_true (k:=?_)
  | refine op_lss (k:=?_)
  | refine op_eql_str (k:=?_)
  | refine op_extract (k:=?_)
  | refine op_field1 (k:=?_)
  | refine op_add (k:=?_)
  | refine op_fieldAddr (k:=?_)
  | refine op_struct (k:=?_)
  | refine wl_skip (k:=?_)
  | refine wl_nil ?_
  | refine at_then_normal ?_
  | refine at_block_normal ?_
  | refine wc_seq ?_
  | refine wc_region ?_
  | refine wc_block ?_
  | refine wc_skip ?_
  | refine wc_ret ?_
  | refine wc_cond_true (ht:=?_)
  | refine wc_cond_false (hf:=?_)
  | (refine wc_cond_dec (ht:=fun _ => ?_) (hf:=fun _ => ?_)<;> (try first | contradiction | (exfalso; omega))))
  · rw [Nat.max_eq_right (by omega)]
    exact ⟨I3, _, ⟨⟨ea, ec, xs, a3, c3, xs3, none, 0, [], rfl, hrow.le hleI3, ExsAt.le hleI3 _ _ hexs, hrow3, hsts3, st_row0 _, .nil⟩, da3, dc3, rfl⟩, hm.left (H := [_, _])⟩
  · rw [Nat.max_eq_left (by omega)]
    exact ⟨I3, _, ⟨⟨ea, ec, xs, a3, c3, xs3, none, 0, [], rfl, hrow.le hleI3, ExsAt.le hleI3 _ _ hexs, hrow3, hsts3, st_row0 _, .nil⟩, da3, dc3, rfl⟩, hm.left (H := [_, _])⟩
set_option maxHeartbeats 4000000 in
theorem st_while (hT : Ok T) (hr : TokR I T la lc) (hi : s.i ≤ T.l.length) (hf : 5 * (T.l.length - s.i) + 5 ≤ f + 1) (hd : s.ds.length + 8 * (T.l.length - s.i) + 32 ≤ 1099511627776) (hdp : deep ≤ 12) (ihb : ∀ g, g ≤ f → BlockC T pb g) (h5 : (T.tok s.i).text = [119, 104, 105, 108, 101]) :
    CalM Try.prog 73 #[ptr pb, nt s.i] I (PSt pb la lc T s.ds deep da dc) (ToSt pb la lc T deep (Sp.stm T (f + 1) deep s)) := by
  have h2 := hT.size
  have h3 := hT.len
  have h1 := hT.at_ s.i
  have hlt : s.i < T.l.length := Sp.tok_lt (by rw [h5]; simp)
  have hT1 := fun ds deep da dc => c_T (pb := pb) (ds := ds) (deep := deep) (da := da) (dc := dc) s.i hr
  have hTe : encTok (T.tok s.i) = [nt (T.tok s.i).kind, str [119, 104, 105, 108, 101], nt (T.tok s.i).pos] := by rw [← h5]; rfl
  rw [hTe] at hT1
  have hex := fun da dc => (c_atomexpr T pb hT f).2 I la lc deep da dc s.next 1 hr (by rw [Sp.next_i]; omega) (by rw [Sp.next_i]; omega) (by rw [Sp.next_i, Sp.next_ds]; omega) hdp
  have hg := (Sp.goes_expr T f).2.2.1 deep 1 s.next
  rw [Sp.stm]
  dsimp only
  rw [h5, if_neg (by decide), if_neg (by decide), if_pos rfl]
  generalize Sp.expr T f deep 1 s.next = r at hex hg ⊢
  have hg1 := hg.le
  have hg2 := hg.top (by rw [Sp.next_i]; omega)
  have hg3 := hg.ds
  rw [Sp.next_i] at hg1 hg3
  rw [Sp.next_ds] at hg3
  have hbl := fun I (hr : TokR I T la lc) da dc => ihb f (Nat.le_refl _) I la lc deep da dc r.2 hr hg2 (by omega) (by omega) hdp
  have hgb := (Sp.goes_block T f).1 deep r.2
  generalize Sp.block T f deep r.2 = b at hbl hgb ⊢
  have hb1 := hgb.le
  have hb2 := hgb.top hg2
  have hb3 := hgb.ds
  refine CalM.of fun w E hm => enter (N := 205) Try.func73 rfl [(0, ptr pb), (1, nt s.i)] args2 rfl ?_
  repeat' (first
  | (refine m_readC (d:=11) hm (hc:=hT1 _ _ _ _) (k:=?_); clear hm; intro _ hm)
  | (refine m_readC (d:=16) hm (hc:=hT1 _ _ _ _) (k:=?_); clear hm; intro _ hm)
  | (refine m_makeMap hm (k:=?_); clear hm; intro bm _ hm)
  | (refine m_insertNew hm (hn:=by decide) (k:=?_); clear hm; intro _ hm; try simp only [setn] at hm)
  | (refine m_lookup hm (hn:=by decide) (hz:=zero_int) (k:=?_))
  | (refine m_call hm (hc:=hex _ _) (k:=?_); clear hm; rintro _ I2 _ _ ⟨⟨ea, ec, xs, rfl, hrow, hexs⟩, da', dc', rfl⟩ hle hm; have hleI2 := hle; try simp only [setn] at hm)
  | (refine m_call (d:=92) hm (hc:=hbl I2 (hr.le hleI2) _ _) (k:=?_); clear hm; rintro _ I3 _ _ ⟨⟨a3, c3, xs3, rfl, hrow3, hsts3⟩, da3, dc3, rfl⟩ hle hm; have hleI3 := hle; try simp only [setn] at hm)
  | (refine m_readC hm (hc:=c_end b.2.i (hr.le (hleI2.trans hleI3)) hT hb2) (k:=?_); clear hm; intro _ hm)
  | (refine m_allocS (d:=4) hm (k:=?_); clear hm; intro b4 _ hm)
  | (refine m_varS (d:=6) hm (k:=?_); clear hm; intro b6 _ hm)
  | refine m_load1 hm (k:=?_)
  | refine m_loadAll hm (k:=?_)
  | (refine m_storeAll hm (k:=?_); clear hm; intro _ hm; try simp only [setn] at hm)
  | (refine m_store1 hm (k:=?_); clear hm; intro _ hm; try simp only [setn] at hm)
  | (refine m_storeN hm (k:=?_); clear hm; intro _ hm; try simp only [setn] at hm)
  | refine m_ret2_agg hm (h:=?_)
  | refine op_move (k:=?_)
  | refine op_assign (k:=?_)
  | refine op_pick_false (k:=?_)
  | refine op_lss (k:=?_)
  | refine op_eql_str (k:=?_)
  | refine op_extract (k:=?_)
  | refine op_field1 (k:=?_)
  | refine op_add (k:=?_)
  | refine op_fieldAddr (k:=?_)
  | refine op_struct (k:=?_)
  | refine wl_skip (k:=?_)
  | refine wl_nil ?_
  | refine at_then_normal ?_
  | refine at_block_normal ?_
  | refine wc_seq ?_
  | refine wc_region ?_
  | refine wc_block ?_
  | refine wc_skip ?_
  | refine wc_ret ?_
  | refine wc_cond_true (ht:=?_)
  | refine wc_cond_false (hf:=?_)
  | (refine wc_cond_dec (ht:=fun _ => ?_) (hf:=fun _ => ?_)<;> (try first | contradiction | (exfalso; omega))))
  · rw [Nat.max_eq_right (by omega)]
    exact ⟨I3, _, ⟨⟨ea, ec, xs, a3, c3, xs3, none, 0, [], rfl, hrow.le hleI3, ExsAt.le hleI3 _ _ hexs, hrow3, hsts3, st_row0 _, .nil⟩, da3, dc3, rfl⟩, hm.left (H := [_, _])⟩
  · rw [Nat.max_eq_left (by omega)]
    exact ⟨I3, _, ⟨⟨ea, ec, xs, a3, c3, xs3, none, 0, [], rfl, hrow.le hleI3, ExsAt.le hleI3 _ _ hexs, hrow3, hsts3, st_row0 _, .nil⟩, da3, dc3, rfl⟩, hm.left (H := [_, _])⟩
end
end Go.Proofs.Ytjfkjpbkmpofkaa
end
