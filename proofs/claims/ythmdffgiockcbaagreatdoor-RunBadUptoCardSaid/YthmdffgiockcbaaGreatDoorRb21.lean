/- Own work: texts PpI, PpJ, one behind the other. -/
import Derived.Test.YthmdffgiockcbaaGreatDoorRb20
section
namespace Go.Sp
theorem is_of {T : Src} {i : Nat} {t : List UInt8} (h : (T.tok i).text = t) (ht : t ≠ []) : T.is i t = true := by
  have := tok_lt (T := T) (i := i) (by rw [h]; exact ht)
  simp [Src.is, this, h]
theorem is_no {T : Src} {i : Nat} {t : List UInt8} (h : (T.tok i).text ≠ t) : T.is i t = false := by simp [Src.is, h]
theorem is_text {T : Src} {i : Nat} {t : List UInt8} (h : T.is i t = true) : (T.tok i).text = t := by
  simp only [Src.is, Bool.and_eq_true, decide_eq_true_eq] at h; exact h.2
end Go.Sp
namespace Go.Proofs.YthmdffgiockcbaaGreatDoor
open Go.Fw
theorem p_atom_step (T : Sp.Src) (pb : Nat) (hT : Ok T) (n : Nat) (ih : ∀ g, g < n → AtomQ T pb g ∧ ExprQ T pb g) : AtomQ T pb n := by
  intro I la lc deep da dc s hC hr hi hf hd hdp
  obtain ⟨f, rfl⟩ : ∃ f, n = f + 1 := ⟨n - 1, by omega⟩
  rw [Sp.atom]
  dsimp only
  by_cases hend : T.l.length ≤ s.i
  · rw [if_pos hend]; exact pa_end hT hr hi (by omega) hend
  rw [if_neg hend]
  have hlt : s.i < T.l.length := by omega
  by_cases hdeep : 12 ≤ deep
  · rw [if_pos hdeep]; exact pa_deep hT hr hi (by omega) hlt (by omega)
  rw [if_neg hdeep]
  by_cases hkind : (T.tok s.i).kind = 2
  · rw [if_pos hkind]; exact pa_num hT hC hr hi (by omega) hlt (by omega) hkind
  rw [if_neg hkind]
  by_cases hpar : (T.tok s.i).text = [40]
  · rw [if_pos hpar]; exact pa_par hT hC hr hf (ih f (by omega)).2 hd hlt (by omega) hkind hpar
  rw [if_neg hpar]
  cases hname : Sp.name (T.tok s.i).text with
  | false => exact pa_none hT hr hi (by omega) hlt (by omega) hkind hpar hname
  | true =>
    rw [if_neg (by simp)]
    cases hop : T.is (s.i + 1) [40] with
    | false => exact pa_var hT hr hi (by omega) hlt (by omega) hkind hpar hname hop
    | true => exact pa_call hT hC hr hf (fun g hg => (ih g (by omega)).2) hd (by omega) hkind hpar hname hop
theorem p_atomexpr (T : Sp.Src) (pb : Nat) (hT : Ok T) (n : Nat) : AtomQ T pb n ∧ ExprQ T pb n := by
  induction n using Nat.strongRecOn with
  | _ n ih => exact ⟨p_atom_step T pb hT n ih, p_expr_step T pb hT n ih⟩
abbrev ToQS (pb : Nat) (la : Option Addr) (lc : Nat) (T : Sp.Src) (deep : Nat) (r : Sp.Stm × Sp.St) : Value → Imm → List HItem → Prop :=
  fun v I' H' => (∃ ea ec ex a1 c1 xs1 a2 c2 xs2, v = .agg (stCells r.1.kind r.1.name r.1.at_ r.1.label r.1.opn r.1.e ea ec (.slice a1 r.1.thn.length c1) (.slice a2 r.1.els.length c2) r.1.fr r.1.to).toArray ∧
    RowI I' 102 6 (.slice ea r.1.e.args.length ec) r.1.e.args.length ex ∧ ExsAt I' r.1.e.args ex ∧
    RowI I' 104 15 (.slice a1 r.1.thn.length c1) r.1.thn.length xs1 ∧ StsAt I' r.1.thn xs1 ∧ RowI I' 104 15 (.slice a2 r.1.els.length c2) r.1.els.length xs2 ∧ StsAt I' r.1.els xs2) ∧
    ∃ da dc, H' = QSt pb la lc T r.2 deep da dc
abbrev ToQB (pb : Nat) (la : Option Addr) (lc : Nat) (T : Sp.Src) (deep : Nat) (r : List Sp.Stm × Sp.St) : Value → Imm → List HItem → Prop :=
  fun v I' H' => (∃ a c xs, v = .slice a r.1.length c ∧ RowI I' 104 15 (.slice a r.1.length c) r.1.length xs ∧ StsAt I' r.1 xs) ∧ ∃ da dc, H' = QSt pb la lc T r.2 deep da dc
def StmQ (T : Sp.Src) (pb f : Nat) : Prop := ∀ (I : Imm) (la : Option Addr) (lc deep : Nat) (da : Option Addr) (dc : Nat) (s : Sp.St), Conv I → TokR I T la lc → s.i ≤ T.l.length → 5 * (T.l.length - s.i) + 5 ≤ f →
  s.ds.length + 8 * (T.l.length - s.i) + 32 ≤ 1099511627776 → deep ≤ 12 → CalM Tryz.prog 165 #[ptr pb] I (QSt pb la lc T s deep da dc) (ToQS pb la lc T deep (Sp.stm T f deep s))
def BlockQ (T : Sp.Src) (pb f : Nat) : Prop := ∀ (I : Imm) (la : Option Addr) (lc deep : Nat) (da : Option Addr) (dc : Nat) (s : Sp.St), Conv I → TokR I T la lc → s.i ≤ T.l.length → 5 * (T.l.length - s.i) + 2 ≤ f →
  s.ds.length + 8 * (T.l.length - s.i) + 32 ≤ 1099511627776 → deep ≤ 12 → CalM Tryz.prog 130 #[ptr pb] I (QSt pb la lc T s deep da dc) (ToQB pb la lc T deep (Sp.block T f deep s))
end Go.Proofs.YthmdffgiockcbaaGreatDoor
end
section
namespace Go.Proofs.YthmdffgiockcbaaGreatDoor
open Go.Fw
section
variable {T : Sp.Src} {pb f : Nat} {I : Imm} {la : Option Addr} {lc deep : Nat} {da : Option Addr} {dc : Nat} {s : Sp.St}
set_option maxHeartbeats 4000000 in
theorem ps_bad (hT : Ok T) (_hC : Conv I) (hr : TokR I T la lc) (hi : s.i ≤ T.l.length) (_hf : 5 * (T.l.length - s.i) + 5 ≤ f + 1) (hd : s.ds.length + 8 * (T.l.length - s.i) + 32 ≤ 1099511627776) (_hdp : deep ≤ 12) (n1 : (T.tok s.i).text ≠ [108, 101, 116]) (n2 : (T.tok s.i).text ≠ [105, 102]) (n3 : (T.tok s.i).text ≠ [119, 104, 105, 108, 101]) (n4 : (T.tok s.i).text ≠ [115, 101, 110, 100]) (n5 : (T.tok s.i).text ≠ [114, 101, 116, 117, 114, 110]) (h5 : Sp.name (T.tok s.i).text = false) :
    CalM Tryz.prog 165 #[ptr pb] I (QSt pb la lc T s deep da dc) (ToQS pb la lc T deep (Sp.stm T (f + 1) deep s)) := by
  have h2 := hT.size
  have h3 := hT.len
  have h1 := hT.at_ s.i
  have het0 := fun da dc => p_eat (pb := pb) (deep := deep) (da := da) (dc := dc) s [108, 101, 116] (by simp) hr hT hi
  rw [Sp.is_no (by exact n1 : (T.tok s.i).text ≠ [108, 101, 116]), if_neg (by simp)] at het0
  have het1 := fun da dc => p_eat (pb := pb) (deep := deep) (da := da) (dc := dc) s [105, 102] (by simp) hr hT hi
  rw [Sp.is_no (by exact n2 : (T.tok s.i).text ≠ [105, 102]), if_neg (by simp)] at het1
  have het2 := fun da dc => p_eat (pb := pb) (deep := deep) (da := da) (dc := dc) s [119, 104, 105, 108, 101] (by simp) hr hT hi
  rw [Sp.is_no (by exact n3 : (T.tok s.i).text ≠ [119, 104, 105, 108, 101]), if_neg (by simp)] at het2
  have het3 := fun da dc => p_eat (pb := pb) (deep := deep) (da := da) (dc := dc) s [115, 101, 110, 100] (by simp) hr hT hi
  rw [Sp.is_no (by exact n4 : (T.tok s.i).text ≠ [115, 101, 110, 100]), if_neg (by simp)] at het3
  have het4 := fun da dc => p_eat (pb := pb) (deep := deep) (da := da) (dc := dc) s [114, 101, 116, 117, 114, 110] (by simp) hr hT hi
  rw [Sp.is_no (by exact n5 : (T.tok s.i).text ≠ [114, 101, 116, 117, 114, 110]), if_neg (by simp)] at het4
  have hnR : CalR Tryz.prog 59 #[str (T.tok s.i).text] I [] (.bool false) := ⟨fun w _ _ => by have := c_name (T.tok s.i).text (by omega) w; rwa [h5] at this⟩
  have hpk := fun da dc => p_peek (pb := pb) (deep := deep) (da := da) (dc := dc) s hr
  rw [Sp.stm]
  dsimp only
  rw [if_neg n1, if_neg n2, if_neg n3, if_neg n4, if_neg n5, if_neg (by rw [h5]; simp)]
  refine CalM.of fun w E hm => enter (N := 154) Tryz.func165 rfl [(0, ptr pb)] args1 rfl ?_
  repeat' (first|(refine m_readC hm (hc:=p_here s hr) (k:=?_); clear hm; intro _ hm)|(refine wc_quiet_tail (id:=38) 5 (h:=?_))|(refine q_max (by rfl) (by rfl) (by rfl) (by rfl) ?_)|(refine m_call hm (hc:=het0 _ _) (k:=?_); clear hm; rintro _ _ _ _ ⟨rfl, rfl, dk0, ck0, rfl⟩ hle hm; try simp only [setn] at hm)|(refine m_call hm (hc:=het1 _ _) (k:=?_); clear hm; rintro _ _ _ _ ⟨rfl, rfl, dk1, ck1, rfl⟩ hle hm; try simp only [setn] at hm)|(refine m_call hm (hc:=het2 _ _) (k:=?_); clear hm; rintro _ _ _ _ ⟨rfl, rfl, dk2, ck2, rfl⟩ hle hm; try simp only [setn] at hm)|(refine m_call hm (hc:=het3 _ _) (k:=?_); clear hm; rintro _ _ _ _ ⟨rfl, rfl, dk3, ck3, rfl⟩ hle hm; try simp only [setn] at hm)|(refine m_call hm (hc:=het4 _ _) (k:=?_); clear hm; rintro _ _ _ _ ⟨rfl, rfl, dk4, ck4, rfl⟩ hle hm; try simp only [setn] at hm)|(refine mq_readC hm (hc:=hpk _ _) (k:=?_))|(refine m_readC hm (hc:=hpk _ _) (k:=?_); clear hm; intro _ hm)|(refine mq_readC hm (hc:=hnR) (k:=?_))|(refine m_readC hm (hc:=hnR) (k:=?_); clear hm; intro _ hm)|(refine m_call hm (hc:=p_tell s 2 hr hT hi (by omega)) (k:=?_); clear hm; rintro _ _ _ _ ⟨rfl, rfl, da2, dc2, rfl⟩ hle hm; try simp only [setn] at hm)|(refine mq_readC hm (hc:=p_last (s.bad T 2) hr hT hi) (k:=?_))|(refine m_allocS (d:=2) hm (k:=?_); clear hm; intro b2 _ hm)|(refine m_varS (d:=3) hm (k:=?_); clear hm; intro b3 _ hm)|refine m_loadAll hm (k:=?_)|refine mq_load1 hm (k:=?_)|(refine m_storeAll hm (k:=?_); clear hm; intro _ hm; try simp only [setn] at hm)|(refine m_store1 hm (k:=?_); clear hm; intro _ hm; try simp only [setn] at hm)|refine m_ret_agg hm (h:=?_)|refine op_move (k:=?_)|refine op_assign (k:=?_)|refine op_fieldAddr (k:=?_)|refine op_struct (k:=?_)|refine wl_nil ?_|refine at_then_normal ?_|refine at_block_normal ?_|refine wc_seq ?_|refine wc_region ?_|refine wc_block ?_|refine wc_ret ?_|refine wc_quiet (h:=?_)|(refine wq_nil ?_; intro _ hkq; replace hm := hm.kept0 hkq; clear hkq)|(refine wq_nil_tail ?_; intro _ hkq; replace hm := hm.kept0 hkq; clear hkq)|refine wc_cond_false (hf:=?_)|refine q_move (k:=?_)|refine q_assign (k:=?_)|refine q_pick_false (k:=?_)|refine q_fieldAddr (k:=?_)|refine wq_skip (k:=?_))
  all_goals try (exfalso; first | omega | contradiction)
  exact ⟨I, _, ⟨⟨none, 0, [], none, 0, [], none, 0, [], rfl, rowI_nil _ _ _ _ _, .nil, st_row0 _, .nil, st_row0 _, .nil⟩, da2, dc2, rfl⟩, hm.left (H := [_, _])⟩
set_option maxHeartbeats 4000000 in
theorem ps_do (hT : Ok T) (hC : Conv I) (hr : TokR I T la lc) (hi : s.i ≤ T.l.length) (hf : 5 * (T.l.length - s.i) + 5 ≤ f + 1) (hd : s.ds.length + 8 * (T.l.length - s.i) + 32 ≤ 1099511627776) (hdp : deep ≤ 12) (n1 : (T.tok s.i).text ≠ [108, 101, 116]) (n2 : (T.tok s.i).text ≠ [105, 102]) (n3 : (T.tok s.i).text ≠ [119, 104, 105, 108, 101]) (n4 : (T.tok s.i).text ≠ [115, 101, 110, 100]) (n5 : (T.tok s.i).text ≠ [114, 101, 116, 117, 114, 110]) (h5 : Sp.name (T.tok s.i).text = true) (h6 : T.is (s.i + 1) [61] = false) :
    CalM Tryz.prog 165 #[ptr pb] I (QSt pb la lc T s deep da dc) (ToQS pb la lc T deep (Sp.stm T (f + 1) deep s)) := by
  have h2 := hT.size
  have h3 := hT.len
  have h1 := hT.at_ s.i
  have het0 := fun da dc => p_eat (pb := pb) (deep := deep) (da := da) (dc := dc) s [108, 101, 116] (by simp) hr hT hi
  rw [Sp.is_no (by exact n1 : (T.tok s.i).text ≠ [108, 101, 116]), if_neg (by simp)] at het0
  have het1 := fun da dc => p_eat (pb := pb) (deep := deep) (da := da) (dc := dc) s [105, 102] (by simp) hr hT hi
  rw [Sp.is_no (by exact n2 : (T.tok s.i).text ≠ [105, 102]), if_neg (by simp)] at het1
  have het2 := fun da dc => p_eat (pb := pb) (deep := deep) (da := da) (dc := dc) s [119, 104, 105, 108, 101] (by simp) hr hT hi
  rw [Sp.is_no (by exact n3 : (T.tok s.i).text ≠ [119, 104, 105, 108, 101]), if_neg (by simp)] at het2
  have het3 := fun da dc => p_eat (pb := pb) (deep := deep) (da := da) (dc := dc) s [115, 101, 110, 100] (by simp) hr hT hi
  rw [Sp.is_no (by exact n4 : (T.tok s.i).text ≠ [115, 101, 110, 100]), if_neg (by simp)] at het3
  have het4 := fun da dc => p_eat (pb := pb) (deep := deep) (da := da) (dc := dc) s [114, 101, 116, 117, 114, 110] (by simp) hr hT hi
  rw [Sp.is_no (by exact n5 : (T.tok s.i).text ≠ [114, 101, 116, 117, 114, 110]), if_neg (by simp)] at het4
  have hnR : CalR Tryz.prog 59 #[str (T.tok s.i).text] I [] (.bool true) := ⟨fun w _ _ => by have := c_name (T.tok s.i).text (by omega) w; rwa [h5] at this⟩
  have hlt := Sp.tok_lt (Sp.name_ne h5)
  have hpk := fun da dc => p_peek (pb := pb) (deep := deep) (da := da) (dc := dc) s hr
  rw [Sp.stm]
  dsimp only
  rw [if_neg n1, if_neg n2, if_neg n3, if_neg n4, if_neg n5, if_pos h5, if_neg (by rw [h6]; simp)]
  have hex := fun da dc => (p_atomexpr T pb hT f).2 I la lc deep da dc s 1 hC hr (by omega) (by omega) (by omega) hdp
  have hg := (Sp.goes_expr T f).2.2.1 deep 1 s
  generalize Sp.expr T f deep 1 s = r at hex hg ⊢
  have hg1 := hg.le
  have hg2 := hg.top (by omega)
  have hg3 := hg.ds
  have hg4 := (Sp.goes_need T r.2 [59]).top hg2
  refine CalM.of fun w E hm => enter (N := 154) Tryz.func165 rfl [(0, ptr pb)] args1 rfl ?_
  by_cases hl7 : s.i + 1 < T.l.length
  · have htx : (T.tok (s.i + 1)).text ≠ [61] := fun e => by rw [Sp.is_of e (by simp)] at h6; cases h6
    repeat' (first|(refine m_readC hm (hc:=p_here s hr) (k:=?_); clear hm; intro _ hm)|(refine wc_quiet_tail (id:=38) 5 (h:=?_))|(refine q_max (by rfl) (by rfl) (by rfl) (by rfl) ?_)|(refine m_call hm (hc:=het0 _ _) (k:=?_); clear hm; rintro _ _ _ _ ⟨rfl, rfl, dk0, ck0, rfl⟩ hle hm; try simp only [setn] at hm)|(refine m_call hm (hc:=het1 _ _) (k:=?_); clear hm; rintro _ _ _ _ ⟨rfl, rfl, dk1, ck1, rfl⟩ hle hm; try simp only [setn] at hm)|(refine m_call hm (hc:=het2 _ _) (k:=?_); clear hm; rintro _ _ _ _ ⟨rfl, rfl, dk2, ck2, rfl⟩ hle hm; try simp only [setn] at hm)|(refine m_call hm (hc:=het3 _ _) (k:=?_); clear hm; rintro _ _ _ _ ⟨rfl, rfl, dk3, ck3, rfl⟩ hle hm; try simp only [setn] at hm)|(refine m_call hm (hc:=het4 _ _) (k:=?_); clear hm; rintro _ _ _ _ ⟨rfl, rfl, dk4, ck4, rfl⟩ hle hm; try simp only [setn] at hm)|(refine mq_readC hm (hc:=hpk _ _) (k:=?_))|(refine m_readC hm (hc:=hpk _ _) (k:=?_); clear hm; intro _ hm)|(refine mq_readC hm (hc:=hnR) (k:=?_))|(refine m_readC hm (hc:=hnR) (k:=?_); clear hm; intro _ hm)|(refine iq_indexFlat (enc:=encTok) (z:=T.tok (s.i + 1)) (hr:=by exact hr) (he:=by intro _; rfl) (hz:=by rw [show ((s.i : Int) + 1).toNat = s.i + 1 by omega]; exact tok_get (by omega)) (k:=?_); intro b9 o9 hp9)|(refine m_call hm (hc:=hex _ _) (k:=?_); clear hm; rintro _ I2 _ _ ⟨⟨ea, ec, xs, rfl, hrow, hexs⟩, da', dc', rfl⟩ hle hm; have hleI2 := hle; try simp only [setn] at hm)|(refine m_call hm (hc:=p_must r.2 [59] (by simp) (hr.le hleI2) hT (by omega) hg2) (k:=?_); clear hm; rintro _ _ _ _ ⟨rfl, rfl, da2, dc2, rfl⟩ hle hm; try simp only [setn] at hm)|(refine mq_readC hm (hc:=p_last (r.2.need T [59]).2 (hr.le hleI2) hT hg4) (k:=?_))|(refine m_allocS (d:=2) hm (k:=?_); clear hm; intro b2 _ hm)|(refine m_varS (d:=3) hm (k:=?_); clear hm; intro b3 _ hm)|refine m_loadAll hm (k:=?_)|refine mq_load1 hm (k:=?_)|refine iq_load1 hm (k:=?_)|(refine m_storeAll hm (k:=?_); clear hm; intro _ hm; try simp only [setn] at hm)|(refine m_store1 hm (k:=?_); clear hm; intro _ hm; try simp only [setn] at hm)|(refine m_storeN hm (k:=?_); clear hm; intro _ hm; try simp only [setn] at hm)|refine m_ret_agg hm (h:=?_)|refine op_move (k:=?_)|refine op_assign (k:=?_)|refine op_fieldAddr (k:=?_)|refine op_struct (k:=?_)|refine wl_nil ?_|refine at_then_normal ?_|refine at_block_normal ?_|refine wc_seq ?_|refine wc_region ?_|refine wc_block ?_|refine wc_ret ?_|refine wc_quiet (h:=?_)|(refine wq_nil ?_; intro _ hkq; replace hm := hm.kept0 hkq; clear hkq)|(refine wq_nil_tail ?_; intro _ hkq; replace hm := hm.kept0 hkq; clear hkq)|refine wc_cond_true (ht:=?_)|refine wc_cond_false (hf:=?_)|(refine wc_cond_dec (ht:=fun _ => ?_) (hf:=fun _ => ?_)<;> (try first | contradiction | (exfalso; omega)))|refine q_move (k:=?_)|refine q_assign (k:=?_)|refine q_pick_true (k:=?_)|refine q_lss (k:=?_)|refine q_eql_str (k:=?_)|refine q_len_slice (k:=?_)|refine q_nilCheck (k:=?_)|refine q_add (k:=?_)|refine q_fieldAddr (k:=?_)|(refine wq_split_dec (h1:=fun _ => ?_) (h0:=fun _ => ?_)<;> (try first | contradiction | (exfalso; omega))))
    all_goals try (exfalso; first | omega | contradiction)
    exact ⟨I2, _, ⟨⟨ea, ec, xs, none, 0, [], none, 0, [], rfl, hrow, hexs, st_row0 _, .nil, st_row0 _, .nil⟩, da2, dc2, rfl⟩, hm.left (H := [_, _])⟩
  · skip
    repeat' (first|(refine m_readC hm (hc:=p_here s hr) (k:=?_); clear hm; intro _ hm)|(refine wc_quiet_tail (id:=38) 5 (h:=?_))|(refine q_max (by rfl) (by rfl) (by rfl) (by rfl) ?_)|(refine m_call hm (hc:=het0 _ _) (k:=?_); clear hm; rintro _ _ _ _ ⟨rfl, rfl, dk0, ck0, rfl⟩ hle hm; try simp only [setn] at hm)|(refine m_call hm (hc:=het1 _ _) (k:=?_); clear hm; rintro _ _ _ _ ⟨rfl, rfl, dk1, ck1, rfl⟩ hle hm; try simp only [setn] at hm)|(refine m_call hm (hc:=het2 _ _) (k:=?_); clear hm; rintro _ _ _ _ ⟨rfl, rfl, dk2, ck2, rfl⟩ hle hm; try simp only [setn] at hm)|(refine m_call hm (hc:=het3 _ _) (k:=?_); clear hm; rintro _ _ _ _ ⟨rfl, rfl, dk3, ck3, rfl⟩ hle hm; try simp only [setn] at hm)|(refine m_call hm (hc:=het4 _ _) (k:=?_); clear hm; rintro _ _ _ _ ⟨rfl, rfl, dk4, ck4, rfl⟩ hle hm; try simp only [setn] at hm)|(refine mq_readC hm (hc:=hpk _ _) (k:=?_))|(refine m_readC hm (hc:=hpk _ _) (k:=?_); clear hm; intro _ hm)|(refine mq_readC hm (hc:=hnR) (k:=?_))|(refine m_readC hm (hc:=hnR) (k:=?_); clear hm; intro _ hm)|(refine m_call hm (hc:=hex _ _) (k:=?_); clear hm; rintro _ I2 _ _ ⟨⟨ea, ec, xs, rfl, hrow, hexs⟩, da', dc', rfl⟩ hle hm; have hleI2 := hle; try simp only [setn] at hm)|(refine m_call hm (hc:=p_must r.2 [59] (by simp) (hr.le hleI2) hT (by omega) hg2) (k:=?_); clear hm; rintro _ _ _ _ ⟨rfl, rfl, da2, dc2, rfl⟩ hle hm; try simp only [setn] at hm)|(refine mq_readC hm (hc:=p_last (r.2.need T [59]).2 (hr.le hleI2) hT hg4) (k:=?_))|(refine m_allocS (d:=2) hm (k:=?_); clear hm; intro b2 _ hm)|(refine m_varS (d:=3) hm (k:=?_); clear hm; intro b3 _ hm)|refine m_loadAll hm (k:=?_)|refine mq_load1 hm (k:=?_)|(refine m_storeAll hm (k:=?_); clear hm; intro _ hm; try simp only [setn] at hm)|(refine m_store1 hm (k:=?_); clear hm; intro _ hm; try simp only [setn] at hm)|(refine m_storeN hm (k:=?_); clear hm; intro _ hm; try simp only [setn] at hm)|refine m_ret_agg hm (h:=?_)|refine op_move (k:=?_)|refine op_assign (k:=?_)|refine op_fieldAddr (k:=?_)|refine op_struct (k:=?_)|refine wl_nil ?_|refine at_then_normal ?_|refine at_block_normal ?_|refine wc_seq ?_|refine wc_region ?_|refine wc_block ?_|refine wc_ret ?_|refine wc_quiet (h:=?_)|(refine wq_nil ?_; intro _ hkq; replace hm := hm.kept0 hkq; clear hkq)|(refine wq_nil_tail ?_; intro _ hkq; replace hm := hm.kept0 hkq; clear hkq)|refine wc_cond_true (ht:=?_)|refine wc_cond_false (hf:=?_)|refine q_move (k:=?_)|refine q_assign (k:=?_)|refine q_pick_true (k:=?_)|refine q_pick_false (k:=?_)|refine q_lss (k:=?_)|refine q_len_slice (k:=?_)|refine q_nilCheck (k:=?_)|refine q_add (k:=?_)|refine q_fieldAddr (k:=?_)|refine wq_skip (k:=?_)|(refine wq_split_dec (h1:=fun _ => ?_) (h0:=fun _ => ?_)<;> (try first | contradiction | (exfalso; omega))))
    all_goals try (exfalso; first | omega | contradiction)
    exact ⟨I2, _, ⟨⟨ea, ec, xs, none, 0, [], none, 0, [], rfl, hrow, hexs, st_row0 _, .nil, st_row0 _, .nil⟩, da2, dc2, rfl⟩, hm.left (H := [_, _])⟩
set_option maxHeartbeats 4000000 in
theorem ps_set (hT : Ok T) (hC : Conv I) (hr : TokR I T la lc) (hi : s.i ≤ T.l.length) (hf : 5 * (T.l.length - s.i) + 5 ≤ f + 1) (hd : s.ds.length + 8 * (T.l.length - s.i) + 32 ≤ 1099511627776) (hdp : deep ≤ 12) (n1 : (T.tok s.i).text ≠ [108, 101, 116]) (n2 : (T.tok s.i).text ≠ [105, 102]) (n3 : (T.tok s.i).text ≠ [119, 104, 105, 108, 101]) (n4 : (T.tok s.i).text ≠ [115, 101, 110, 100]) (n5 : (T.tok s.i).text ≠ [114, 101, 116, 117, 114, 110]) (h5 : Sp.name (T.tok s.i).text = true) (h6 : T.is (s.i + 1) [61] = true) :
    CalM Tryz.prog 165 #[ptr pb] I (QSt pb la lc T s deep da dc) (ToQS pb la lc T deep (Sp.stm T (f + 1) deep s)) := by
  have h2 := hT.size
  have h3 := hT.len
  have h1 := hT.at_ s.i
  have het0 := fun da dc => p_eat (pb := pb) (deep := deep) (da := da) (dc := dc) s [108, 101, 116] (by simp) hr hT hi
  rw [Sp.is_no (by exact n1 : (T.tok s.i).text ≠ [108, 101, 116]), if_neg (by simp)] at het0
  have het1 := fun da dc => p_eat (pb := pb) (deep := deep) (da := da) (dc := dc) s [105, 102] (by simp) hr hT hi
  rw [Sp.is_no (by exact n2 : (T.tok s.i).text ≠ [105, 102]), if_neg (by simp)] at het1
  have het2 := fun da dc => p_eat (pb := pb) (deep := deep) (da := da) (dc := dc) s [119, 104, 105, 108, 101] (by simp) hr hT hi
  rw [Sp.is_no (by exact n3 : (T.tok s.i).text ≠ [119, 104, 105, 108, 101]), if_neg (by simp)] at het2
  have het3 := fun da dc => p_eat (pb := pb) (deep := deep) (da := da) (dc := dc) s [115, 101, 110, 100] (by simp) hr hT hi
  rw [Sp.is_no (by exact n4 : (T.tok s.i).text ≠ [115, 101, 110, 100]), if_neg (by simp)] at het3
  have het4 := fun da dc => p_eat (pb := pb) (deep := deep) (da := da) (dc := dc) s [114, 101, 116, 117, 114, 110] (by simp) hr hT hi
  rw [Sp.is_no (by exact n5 : (T.tok s.i).text ≠ [114, 101, 116, 117, 114, 110]), if_neg (by simp)] at het4
  have hnR : CalR Tryz.prog 59 #[str (T.tok s.i).text] I [] (.bool true) := ⟨fun w _ _ => by have := c_name (T.tok s.i).text (by omega) w; rwa [h5] at this⟩
  have hlt := Sp.is_lt h6
  have htx := Sp.is_text h6
  have hpk := fun da dc => p_peek (pb := pb) (deep := deep) (da := da) (dc := dc) s hr
  have hnm := fun da dc => p_name (pb := pb) (deep := deep) (da := da) (dc := dc) s hr hT (by omega) hi
  rw [Sp.St.named, if_pos h5] at hnm
  have hni : s.next.i = s.i + 1 := rfl
  rw [Sp.stm]
  dsimp only
  rw [if_neg n1, if_neg n2, if_neg n3, if_neg n4, if_neg n5, if_pos h5, if_pos h6]
  have hex := fun da dc => (p_atomexpr T pb hT f).2 I la lc deep da dc s.next.next 1 hC hr (by rw [Sp.next_i, Sp.next_i]; omega) (by rw [Sp.next_i, Sp.next_i]; omega) (by rw [Sp.next_i, Sp.next_i, Sp.next_ds, Sp.next_ds]; omega) hdp
  have hg := (Sp.goes_expr T f).2.2.1 deep 1 s.next.next
  generalize Sp.expr T f deep 1 s.next.next = r at hex hg ⊢
  have hg1 := hg.le
  have hg2 := hg.top (by rw [Sp.next_i, Sp.next_i]; omega)
  have hg3 := hg.ds
  rw [Sp.next_i, Sp.next_i] at hg1 hg3
  rw [Sp.next_ds, Sp.next_ds] at hg3
  have hg4 := (Sp.goes_need T r.2 [59]).top hg2
  refine CalM.of fun w E hm => enter (N := 154) Tryz.func165 rfl [(0, ptr pb)] args1 rfl ?_
  repeat' (first|(refine m_readC hm (hc:=p_here s hr) (k:=?_); clear hm; intro _ hm)|(refine wc_quiet_tail (id:=38) 5 (h:=?_))|(refine q_max (by rfl) (by rfl) (by rfl) (by rfl) ?_)|(refine m_call hm (hc:=het0 _ _) (k:=?_); clear hm; rintro _ _ _ _ ⟨rfl, rfl, dk0, ck0, rfl⟩ hle hm; try simp only [setn] at hm)|(refine m_call hm (hc:=het1 _ _) (k:=?_); clear hm; rintro _ _ _ _ ⟨rfl, rfl, dk1, ck1, rfl⟩ hle hm; try simp only [setn] at hm)|(refine m_call hm (hc:=het2 _ _) (k:=?_); clear hm; rintro _ _ _ _ ⟨rfl, rfl, dk2, ck2, rfl⟩ hle hm; try simp only [setn] at hm)|(refine m_call hm (hc:=het3 _ _) (k:=?_); clear hm; rintro _ _ _ _ ⟨rfl, rfl, dk3, ck3, rfl⟩ hle hm; try simp only [setn] at hm)|(refine m_call hm (hc:=het4 _ _) (k:=?_); clear hm; rintro _ _ _ _ ⟨rfl, rfl, dk4, ck4, rfl⟩ hle hm; try simp only [setn] at hm)|(refine mq_readC hm (hc:=hpk _ _) (k:=?_))|(refine mq_readC hm (hc:=hnR) (k:=?_))|(refine iq_indexFlat (enc:=encTok) (z:=T.tok (s.i + 1)) (hr:=by exact hr) (he:=by intro _; rfl) (hz:=by rw [show ((s.i : Int) + 1).toNat = s.i + 1 by omega]; exact tok_get (by omega)) (k:=?_); intro b9 o9 hp9)|(refine m_call hm (hc:=hnm _ _) (k:=?_); clear hm; rintro _ _ _ _ ⟨rfl, rfl, da1, dc1, rfl⟩ hle hm; try simp only [setn] at hm)|(refine m_call hm (hc:=hex _ _) (k:=?_); clear hm; rintro _ I2 _ _ ⟨⟨ea, ec, xs, rfl, hrow, hexs⟩, da', dc', rfl⟩ hle hm; have hleI2 := hle; try simp only [setn] at hm)|(refine m_call hm (hc:=p_must r.2 [59] (by simp) (hr.le hleI2) hT (by omega) hg2) (k:=?_); clear hm; rintro _ _ _ _ ⟨rfl, rfl, da2, dc2, rfl⟩ hle hm; try simp only [setn] at hm)|(refine mq_readC hm (hc:=p_last (r.2.need T [59]).2 (hr.le hleI2) hT hg4) (k:=?_))|(refine m_allocS (d:=2) hm (k:=?_); clear hm; intro b2 _ hm)|(refine m_varS (d:=3) hm (k:=?_); clear hm; intro b3 _ hm)|refine m_load1 hm (k:=?_)|refine m_loadAll hm (k:=?_)|refine mq_load1 hm (k:=?_)|refine iq_load1 hm (k:=?_)|(refine m_storeAll hm (k:=?_); clear hm; intro _ hm; try simp only [setn] at hm)|(refine m_store1 hm (k:=?_); clear hm; intro _ hm; try simp only [setn] at hm)|(refine m_storeN hm (k:=?_); clear hm; intro _ hm; try simp only [setn] at hm)|refine m_ret_agg hm (h:=?_)|refine op_move (k:=?_)|refine op_assign (k:=?_)|refine op_nilCheck (k:=?_)|refine op_add (k:=?_)|refine op_fieldAddr (k:=?_)|refine op_struct (k:=?_)|refine wl_nil ?_|refine at_then_normal ?_|refine at_block_normal ?_|refine wc_seq ?_|refine wc_region ?_|refine wc_block ?_|refine wc_ret ?_|refine wc_quiet (h:=?_)|(refine wq_nil ?_; intro _ hkq; replace hm := hm.kept0 hkq; clear hkq)|(refine wq_nil_tail ?_; intro _ hkq; replace hm := hm.kept0 hkq; clear hkq)|refine wc_cond_false (hf:=?_)|(refine wc_cond_dec (ht:=fun _ => ?_) (hf:=fun _ => ?_)<;> (try first | contradiction | (exfalso; omega)))|refine q_move (k:=?_)|refine q_assign (k:=?_)|refine q_pick_true (k:=?_)|refine q_lss (k:=?_)|refine q_eql_str (k:=?_)|refine q_len_slice (k:=?_)|refine q_nilCheck (k:=?_)|refine q_add (k:=?_)|refine q_fieldAddr (k:=?_)|(refine wq_split_dec (h1:=fun _ => ?_) (h0:=fun _ => ?_)<;> (try first | contradiction | (exfalso; omega))))
  all_goals try (exfalso; first | omega | contradiction)
  exact ⟨I2, _, ⟨⟨ea, ec, xs, none, 0, [], none, 0, [], rfl, hrow, hexs, st_row0 _, .nil, st_row0 _, .nil⟩, da2, dc2, rfl⟩, hm.left (H := [_, _])⟩
set_option maxHeartbeats 4000000 in
theorem ps_back (hT : Ok T) (hC : Conv I) (hr : TokR I T la lc) (hi : s.i ≤ T.l.length) (hf : 5 * (T.l.length - s.i) + 5 ≤ f + 1) (hd : s.ds.length + 8 * (T.l.length - s.i) + 32 ≤ 1099511627776) (hdp : deep ≤ 12) (h5 : (T.tok s.i).text = [114, 101, 116, 117, 114, 110]) :
    CalM Tryz.prog 165 #[ptr pb] I (QSt pb la lc T s deep da dc) (ToQS pb la lc T deep (Sp.stm T (f + 1) deep s)) := by
  have h2 := hT.size
  have h3 := hT.len
  have h1 := hT.at_ s.i
  have hlt : s.i < T.l.length := Sp.tok_lt (by rw [h5]; simp)
  have het0 := fun da dc => p_eat (pb := pb) (deep := deep) (da := da) (dc := dc) s [108, 101, 116] (by simp) hr hT hi
  rw [Sp.is_no (by rw [h5]; simp : (T.tok s.i).text ≠ [108, 101, 116]), if_neg (by simp)] at het0
  have het1 := fun da dc => p_eat (pb := pb) (deep := deep) (da := da) (dc := dc) s [105, 102] (by simp) hr hT hi
  rw [Sp.is_no (by rw [h5]; simp : (T.tok s.i).text ≠ [105, 102]), if_neg (by simp)] at het1
  have het2 := fun da dc => p_eat (pb := pb) (deep := deep) (da := da) (dc := dc) s [119, 104, 105, 108, 101] (by simp) hr hT hi
  rw [Sp.is_no (by rw [h5]; simp : (T.tok s.i).text ≠ [119, 104, 105, 108, 101]), if_neg (by simp)] at het2
  have het3 := fun da dc => p_eat (pb := pb) (deep := deep) (da := da) (dc := dc) s [115, 101, 110, 100] (by simp) hr hT hi
  rw [Sp.is_no (by rw [h5]; simp : (T.tok s.i).text ≠ [115, 101, 110, 100]), if_neg (by simp)] at het3
  have het4 := fun da dc => p_eat (pb := pb) (deep := deep) (da := da) (dc := dc) s [114, 101, 116, 117, 114, 110] (by simp) hr hT hi
  rw [Sp.is_of h5 (by simp), if_pos (by rfl)] at het4
  rw [Sp.stm]
  dsimp only
  rw [h5, if_neg (by decide), if_neg (by decide), if_neg (by decide), if_neg (by decide), if_pos rfl]
  have hex := fun da dc => (p_atomexpr T pb hT f).2 I la lc deep da dc s.next 1 hC hr (by rw [Sp.next_i]; omega) (by rw [Sp.next_i]; omega) (by rw [Sp.next_i, Sp.next_ds]; omega) hdp
  have hg := (Sp.goes_expr T f).2.2.1 deep 1 s.next
  generalize Sp.expr T f deep 1 s.next = r at hex hg ⊢
  have hg1 := hg.le
  have hg2 := hg.top (by rw [Sp.next_i]; omega)
  have hg3 := hg.ds
  rw [Sp.next_i] at hg1 hg3
  rw [Sp.next_ds] at hg3
  have hg4 := (Sp.goes_need T r.2 [59]).top hg2
  refine CalM.of fun w E hm => enter (N := 154) Tryz.func165 rfl [(0, ptr pb)] args1 rfl ?_
  repeat' (first|(refine m_readC hm (hc:=p_here s hr) (k:=?_); clear hm; intro _ hm)|(refine wc_quiet_tail (id:=38) 5 (h:=?_))|(refine q_max (by rfl) (by rfl) (by rfl) (by rfl) ?_)|(refine m_call hm (hc:=het0 _ _) (k:=?_); clear hm; rintro _ _ _ _ ⟨rfl, rfl, dk0, ck0, rfl⟩ hle hm; try simp only [setn] at hm)|(refine m_call hm (hc:=het1 _ _) (k:=?_); clear hm; rintro _ _ _ _ ⟨rfl, rfl, dk1, ck1, rfl⟩ hle hm; try simp only [setn] at hm)|(refine m_call hm (hc:=het2 _ _) (k:=?_); clear hm; rintro _ _ _ _ ⟨rfl, rfl, dk2, ck2, rfl⟩ hle hm; try simp only [setn] at hm)|(refine m_call hm (hc:=het3 _ _) (k:=?_); clear hm; rintro _ _ _ _ ⟨rfl, rfl, dk3, ck3, rfl⟩ hle hm; try simp only [setn] at hm)|(refine m_call hm (hc:=het4 _ _) (k:=?_); clear hm; rintro _ _ _ _ ⟨rfl, rfl, dk4, ck4, rfl⟩ hle hm; try simp only [setn] at hm)|(refine m_call hm (hc:=hex _ _) (k:=?_); clear hm; rintro _ I2 _ _ ⟨⟨ea, ec, xs, rfl, hrow, hexs⟩, da', dc', rfl⟩ hle hm; have hleI2 := hle; try simp only [setn] at hm)|(refine m_call hm (hc:=p_must r.2 [59] (by simp) (hr.le hleI2) hT (by omega) hg2) (k:=?_); clear hm; rintro _ _ _ _ ⟨rfl, rfl, da2, dc2, rfl⟩ hle hm; try simp only [setn] at hm)|(refine mq_readC hm (hc:=p_last (r.2.need T [59]).2 (hr.le hleI2) hT hg4) (k:=?_))|(refine m_allocS (d:=2) hm (k:=?_); clear hm; intro b2 _ hm)|(refine m_varS (d:=3) hm (k:=?_); clear hm; intro b3 _ hm)|refine m_loadAll hm (k:=?_)|refine mq_load1 hm (k:=?_)|(refine m_storeAll hm (k:=?_); clear hm; intro _ hm; try simp only [setn] at hm)|(refine m_store1 hm (k:=?_); clear hm; intro _ hm; try simp only [setn] at hm)|(refine m_storeN hm (k:=?_); clear hm; intro _ hm; try simp only [setn] at hm)|refine m_ret_agg hm (h:=?_)|refine op_move (k:=?_)|refine op_assign (k:=?_)|refine op_fieldAddr (k:=?_)|refine op_struct (k:=?_)|refine wl_nil ?_|refine at_then_normal ?_|refine at_block_normal ?_|refine wc_seq ?_|refine wc_region ?_|refine wc_block ?_|refine wc_ret ?_|(refine wq_nil_tail ?_; intro _ hkq; replace hm := hm.kept0 hkq; clear hkq)|refine wc_cond_true (ht:=?_)|refine wc_cond_false (hf:=?_)|refine q_move (k:=?_)|refine q_fieldAddr (k:=?_))
  all_goals try (exfalso; first | omega | contradiction)
  exact ⟨I2, _, ⟨⟨ea, ec, xs, none, 0, [], none, 0, [], rfl, hrow, hexs, st_row0 _, .nil, st_row0 _, .nil⟩, da2, dc2, rfl⟩, hm.left (H := [_, _])⟩
set_option maxHeartbeats 4000000 in
theorem ps_send (hT : Ok T) (hC : Conv I) (hr : TokR I T la lc) (hi : s.i ≤ T.l.length) (hf : 5 * (T.l.length - s.i) + 5 ≤ f + 1) (hd : s.ds.length + 8 * (T.l.length - s.i) + 32 ≤ 1099511627776) (hdp : deep ≤ 12) (h5 : (T.tok s.i).text = [115, 101, 110, 100]) :
    CalM Tryz.prog 165 #[ptr pb] I (QSt pb la lc T s deep da dc) (ToQS pb la lc T deep (Sp.stm T (f + 1) deep s)) := by
  have h2 := hT.size
  have h3 := hT.len
  have h1 := hT.at_ s.i
  have hlt : s.i < T.l.length := Sp.tok_lt (by rw [h5]; simp)
  have het0 := fun da dc => p_eat (pb := pb) (deep := deep) (da := da) (dc := dc) s [108, 101, 116] (by simp) hr hT hi
  rw [Sp.is_no (by rw [h5]; simp : (T.tok s.i).text ≠ [108, 101, 116]), if_neg (by simp)] at het0
  have het1 := fun da dc => p_eat (pb := pb) (deep := deep) (da := da) (dc := dc) s [105, 102] (by simp) hr hT hi
  rw [Sp.is_no (by rw [h5]; simp : (T.tok s.i).text ≠ [105, 102]), if_neg (by simp)] at het1
  have het2 := fun da dc => p_eat (pb := pb) (deep := deep) (da := da) (dc := dc) s [119, 104, 105, 108, 101] (by simp) hr hT hi
  rw [Sp.is_no (by rw [h5]; simp : (T.tok s.i).text ≠ [119, 104, 105, 108, 101]), if_neg (by simp)] at het2
  have het3 := fun da dc => p_eat (pb := pb) (deep := deep) (da := da) (dc := dc) s [115, 101, 110, 100] (by simp) hr hT hi
  rw [Sp.is_of h5 (by simp), if_pos (by rfl)] at het3
  have hnm := fun da dc => p_name (pb := pb) (deep := deep) (da := da) (dc := dc) s.next hr hT (by rw [Sp.next_ds]; omega) (by rw [Sp.next_i]; omega)
  have hgn := Sp.goes_named T s.next
  rw [Sp.stm]
  dsimp only
  rw [h5, if_neg (by decide), if_neg (by decide), if_neg (by decide), if_pos rfl]
  generalize s.next.named T = q at hnm hgn ⊢
  have hq1 := hgn.le
  have hq2 := hgn.top (by rw [Sp.next_i]; omega)
  have hq3 := hgn.ds
  rw [Sp.next_i] at hq1 hq3
  rw [Sp.next_ds] at hq3
  have hex := fun da dc => (p_atomexpr T pb hT f).2 I la lc deep da dc q.2 1 hC hr (by omega) (by omega) (by omega) hdp
  have hg := (Sp.goes_expr T f).2.2.1 deep 1 q.2
  generalize Sp.expr T f deep 1 q.2 = r at hex hg ⊢
  have hg1 := hg.le
  have hg2 := hg.top (by omega)
  have hg3 := hg.ds
  have hg4 := (Sp.goes_need T r.2 [59]).top hg2
  refine CalM.of fun w E hm => enter (N := 154) Tryz.func165 rfl [(0, ptr pb)] args1 rfl ?_
  repeat' (first|(refine m_readC hm (hc:=p_here s hr) (k:=?_); clear hm; intro _ hm)|(refine wc_quiet_tail (id:=38) 5 (h:=?_))|(refine q_max (by rfl) (by rfl) (by rfl) (by rfl) ?_)|(refine m_call hm (hc:=het0 _ _) (k:=?_); clear hm; rintro _ _ _ _ ⟨rfl, rfl, dk0, ck0, rfl⟩ hle hm; try simp only [setn] at hm)|(refine m_call hm (hc:=het1 _ _) (k:=?_); clear hm; rintro _ _ _ _ ⟨rfl, rfl, dk1, ck1, rfl⟩ hle hm; try simp only [setn] at hm)|(refine m_call hm (hc:=het2 _ _) (k:=?_); clear hm; rintro _ _ _ _ ⟨rfl, rfl, dk2, ck2, rfl⟩ hle hm; try simp only [setn] at hm)|(refine m_call hm (hc:=het3 _ _) (k:=?_); clear hm; rintro _ _ _ _ ⟨rfl, rfl, dk3, ck3, rfl⟩ hle hm; try simp only [setn] at hm)|(refine m_readC hm (hc:=p_here s.next hr) (k:=?_); clear hm; intro _ hm)|(refine m_call hm (hc:=hnm _ _) (k:=?_); clear hm; rintro _ _ _ _ ⟨rfl, rfl, da1, dc1, rfl⟩ hle hm; try simp only [setn] at hm)|(refine m_call hm (hc:=hex _ _) (k:=?_); clear hm; rintro _ I2 _ _ ⟨⟨ea, ec, xs, rfl, hrow, hexs⟩, da', dc', rfl⟩ hle hm; have hleI2 := hle; try simp only [setn] at hm)|(refine m_call hm (hc:=p_must r.2 [59] (by simp) (hr.le hleI2) hT (by omega) hg2) (k:=?_); clear hm; rintro _ _ _ _ ⟨rfl, rfl, da2, dc2, rfl⟩ hle hm; try simp only [setn] at hm)|(refine mq_readC hm (hc:=p_last (r.2.need T [59]).2 (hr.le hleI2) hT hg4) (k:=?_))|(refine m_allocS (d:=2) hm (k:=?_); clear hm; intro b2 _ hm)|(refine m_varS (d:=3) hm (k:=?_); clear hm; intro b3 _ hm)|refine m_loadAll hm (k:=?_)|refine mq_load1 hm (k:=?_)|(refine m_storeAll hm (k:=?_); clear hm; intro _ hm; try simp only [setn] at hm)|(refine m_store1 hm (k:=?_); clear hm; intro _ hm; try simp only [setn] at hm)|(refine m_storeN hm (k:=?_); clear hm; intro _ hm; try simp only [setn] at hm)|refine m_ret_agg hm (h:=?_)|refine op_move (k:=?_)|refine op_assign (k:=?_)|refine op_fieldAddr (k:=?_)|refine op_struct (k:=?_)|refine wl_nil ?_|refine at_then_normal ?_|refine at_block_normal ?_|refine wc_seq ?_|refine wc_region ?_|refine wc_block ?_|refine wc_ret ?_|(refine wq_nil_tail ?_; intro _ hkq; replace hm := hm.kept0 hkq; clear hkq)|refine wc_cond_true (ht:=?_)|refine wc_cond_false (hf:=?_)|refine q_move (k:=?_)|refine q_fieldAddr (k:=?_))
  all_goals try (exfalso; first | omega | contradiction)
  exact ⟨I2, _, ⟨⟨ea, ec, xs, none, 0, [], none, 0, [], rfl, hrow, hexs, st_row0 _, .nil, st_row0 _, .nil⟩, da2, dc2, rfl⟩, hm.left (H := [_, _])⟩
end
end Go.Proofs.YthmdffgiockcbaaGreatDoor
end
