/- Own work: texts FlI, FlJ, LawFm, NsI, NsJ, LawNu, FtB, one behind the other. -/
import Derived.Test.YtkbiakajlfmakaaGreatDoorFp26
section
namespace Go.Proofs.YtkbiakajlfmakaaGreatDoor
open Go.Fw
section
variable {its : List Sp.Itm} {a : Option Addr} {cp : Nat} {xs : List Value}
set_option maxHeartbeats 16000000 in
theorem f_check (i : Nat) (hi : i < its.length) (at_ : Int) (bf : Nat) (I : Imm) (hfile : PtrI I bf 0 24 [.slice a its.length cp]) (h : FE I its a cp xs) (hlab : Sp.itLab its) (hF : ∀ x ∈ its, Sp.ItF x) :
    CalM Tryz.prog 35 #[ptr bf, nt i, .int .i64 at_] I [] (fun v _ H' => ∃ bc pi vf sc sa sp da dp, v = ptr bc ∧ H' = FSt bc bf pi sc sa sp (Sp.checkF its i at_) da dp vf at_) := by
  refine CalM.of fun w E hm => enter (N := 69) Tryz.func35 rfl [(0, ptr bf), (1, nt i), (2, .int .i64 at_)] args3 rfl ?_
  have hfew := h.few
  have hg := Sp.itNo_get hi
  obtain ⟨ci, hci, hat, hlc⟩ := h.get hg
  have hri := h.row
  have hmem := Sp.itNo_mem hi
  have hIt := hF _ hmem
  have hlb := hlab _ hmem
  have hck : Sp.checkF its i at_ = if (Sp.itNo its i).kind = 2 then (Sp.stmsF its (Sp.itNo its i).label at_ (Sp.itNo its i).body (Sp.parsF (Sp.itNo its i).params) 0 Sp.FW0).2 else Sp.FW0 := rfl
  generalize Sp.checkF its i at_ = fin at hck ⊢
  have hfl := fun (J : Imm) (m : Le I J) => f_floors (I := J) (h.le m) hlab (fun x hx => (hF x hx).small)
  generalize Sp.itNo its i = it at hg hat hmem hIt hlb hck
  have hat0 := hat
  obtain ⟨pa, pc, sa9, sc9, ba, bc9, da9, dc9, xb, rfl, hpar, hsnd, hrb, hbs, _⟩ := hat
  have hsp := hIt.small.params
  have hsb := hIt.small.body
  by_cases k2 : it.kind = 2
  case neg =>
    rw [if_neg k2] at hck
    subst hck
    repeat' (first
    | (refine wc_semi_memL (id:=1) (hm.perm pm0) [0,1,2,3,4,5,6,7,8,9,11] [10,12,13] 14 (h:=?_); clear hm; intro wd hR hm)
    | (refine iw_indexAddr (d:=16) (hr:=hri) (k:=?_); intro bt ot hpt; rw [show ((i : Int).toNat * 10) = i * 10 from rfl, hci] at hpt)
    | (refine iw_loadN (d:=19) hR (hp:=hfile) (k:=?_))
    | (refine mt_call (d:=20) hm (hc:=hfl I (Le.refl _)) (k:=?_); clear hm; rintro _ I2 _ _ ⟨rfl, fa, fp, rfl, hflr⟩ hle hm; have hleI2 := hle; try simp only [setn] at hm; have hpt2 := hpt.le hleI2)
    | (refine mt_box (d:=23) hm (k:=?_); clear hm; intro bc _ hm)
    | refine iw_load1 hR (k:=?_)
    | refine mt_struct hm (k:=?_)
    | (refine ws_nil ?_; replace hm := hR.back hm; clear hR; try simp only [setn] at hm)
    | refine m_load1 hm (k:=?_)
    | refine i_load1 hm (k:=?_)
    | refine op_move (k:=?_)
    | refine op_assign (k:=?_)
    | refine op_eql (k:=?_)
    | refine op_nilCheck (k:=?_)
    | refine op_fieldAddr (k:=?_)
    | refine wl_nil ?_
    | refine at_then_normal ?_
    | refine wc_seq ?_
    | refine wc_region ?_
    | refine wc_skip ?_
    | refine wc_ret ?_
    | refine at_ret1 (h:=?_)
    | (refine wc_cond_dec (ht:=fun _ => ?_) (hf:=fun _ => ?_)<;> (try first | contradiction | (exfalso; omega)))
    | refine v_move (k:=?_)
    | refine v_nilCheck (k:=?_)
    | refine v_fieldAddr (k:=?_)
    | refine wv_nil ?_)
    all_goals try (exfalso; omega)
    exact ⟨I2, _, ⟨bc, _, _, [], none, 0, none, 0, rfl, rfl⟩, ((hm.nil 65 4).swap.nil 116 2).swap⟩
  rw [if_pos k2] at hck
  repeat' (first
  | (refine wc_semi_memL (id:=1) (hm.perm pm0) [0,1,2,3,4,5,6,7,8,9,11] [10,12,13] 14 (h:=?_); clear hm; intro wd hR hm)
  | (refine iw_indexAddr (d:=16) (hr:=hri) (k:=?_); intro bt ot hpt; rw [show ((i : Int).toNat * 10) = i * 10 from rfl, hci] at hpt)
  | (refine iw_loadN (d:=19) hR (hp:=hfile) (k:=?_))
  | (refine mt_call (d:=20) hm (hc:=hfl I (Le.refl _)) (k:=?_); clear hm; rintro _ I2 _ _ ⟨rfl, fa, fp, rfl, hflr⟩ hle hm; have hleI2 := hle; try simp only [setn] at hm; have hpt2 := hpt.le hleI2)
  | (refine mt_box (d:=23) hm (k:=?_); clear hm; intro bc _ hm)
  | refine iw_load1 hR (k:=?_)
  | refine mt_struct hm (k:=?_)
  | (refine ws_nil ?_; replace hm := hR.back hm; clear hR; try simp only [setn] at hm)
  | refine m_load1 hm (k:=?_)
  | refine i_load1 hm (k:=?_)
  | refine op_move (k:=?_)
  | refine op_assign (k:=?_)
  | refine op_eql (k:=?_)
  | refine op_len_slice (k:=?_)
  | refine op_nilCheck (k:=?_)
  | refine op_fieldAddr (k:=?_)
  | refine wl_nil ?_
  | refine at_then_normal ?_
  | refine wc_seq ?_
  | refine wc_region ?_
  | refine wc_block ?_
  | (refine wc_cond_dec (ht:=fun _ => ?_) (hf:=fun _ => ?_)<;> (try first | contradiction | (exfalso; omega)))
  | refine v_move (k:=?_)
  | refine v_nilCheck (k:=?_)
  | refine v_fieldAddr (k:=?_)
  | refine wv_nil ?_)
  all_goals try (exfalso; omega)
  have hC2 : FC I2 its it bf a cp xs (.pointer (some ⟨bt, ot, none⟩)) (.slice fa its.length fp) := ⟨hfile.le hleI2, h.le hleI2, ⟨bt, ot, _, _, rfl, hpt2, hat0.le hleI2⟩, ⟨fa, fp, rfl, hflr⟩, hlab, hlb.1⟩
  have hpar2 := hpar.le hleI2
  refine wc_loop (fun x : FX => [(0, ptr bf), (1, nt i), (2, .int .i64 at_), (7, ptr bc), (38, .slice pa it.params.length pc), (39, nt it.params.length), (40, nt x.k)])
    (fun x w' => Mem E I2 (FSt bc bf (.pointer (some ⟨bt, ot, none⟩)) (Sp.parsF (it.params.take x.k)) x.sa x.sp Sp.FW0 none 0 (.slice fa its.length fp) at_) w' ∧ x.k ≤ it.params.length) (fun x => it.params.length - x.k) ⟨0, I2, none, 0, none, 0⟩
    (by exact ⟨rfl, rfl, rfl, rfl, rfl, rfl, rfl, trivial⟩) ⟨((hm.nil 65 4).swap.nil 116 2).swap, Nat.zero_le _⟩ ?_
  clear hm
  rintro ⟨k, _, sa1, sp1, _, _⟩ w1 ⟨hm, hk⟩
  dsimp only at hm hk ⊢
  by_cases hlt : k < it.params.length
  · have hgp : it.params[k]? = some it.params[k] := List.getElem?_eq_getElem hlt
    generalize it.params[k] = p at hgp
    have hst := Sp.parsF_take hgp
    have hpl : (Sp.parsF (it.params.take k)).length = k := by rw [Sp.parsF, List.length_map, List.length_take]; omega
    generalize Sp.parsF (it.params.take k) = sc at hm hst hpl
    repeat' (first
    | (refine i_indexFlat (d:=42) (enc:=encPar) (z:=p) (hr:=hpar2) (he:=fun _ => rfl) (hz:=by exact hgp) (k:=?_); intro bz oz hpz)
    | (refine wc_semi_mem (id:=6) (hm.perm pm1_2) 10 12 (h:=?_); clear hm; intro wd hR hm)
    | refine mw_load1 hR (k:=?_)
    | (refine mt_push (d:=55) hm (k:=?_); clear hm; intro a55 cp55 _ _ hm; replace hm := hR.back hm; clear hR; try simp only [setn] at hm)
    | (refine m_varS (d:=9) hm (k:=?_); clear hm; intro b9 _ hm)
    | refine i_loadN hm (k:=?_)
    | (refine m_store1 hm (k:=?_); clear hm; intro _ hm; try simp only [setn] at hm)
    | refine op_move (k:=?_)
    | refine op_lss (k:=?_)
    | refine op_nilCheck (k:=?_)
    | refine op_add (k:=?_)
    | refine op_fieldAddr (k:=?_)
    | refine wl_nil ?_
    | refine at_then_normal ?_
    | refine at_block_normal ?_
    | refine wc_seq ?_
    | refine wc_region ?_
    | refine wc_block ?_
    | refine wc_skip ?_
    | (refine wc_cond_dec (ht:=fun _ => ?_) (hf:=fun _ => ?_)<;> (try first | contradiction | (exfalso; omega)))
    | refine v_move (k:=?_)
    | refine v_nilCheck (k:=?_)
    | refine v_fieldAddr (k:=?_)
    | refine v_struct (k:=?_)
    | refine wv_nil ?_)
    all_goals try (exfalso; omega)
    refine at_round (⟨k + 1, I2, a55, cp55, none, 0⟩ : FX) (by exact ⟨rfl, rfl, rfl, rfl, rfl, rfl, rfl, trivial⟩) ⟨?_, by dsimp only; omega⟩ (by dsimp only; omega)
    dsimp only
    rw [hst, ← FSt_snoc]
    exact ((hm.front 1 rfl).tl).swap
  · obtain rfl : k = it.params.length := by omega
    rw [List.take_length] at hm
    have hsl := Sp.parsF_lab hlab hmem
    have hpl : (Sp.parsF it.params).length = it.params.length := by rw [Sp.parsF, List.length_map]
    have hcn := hIt.cnt
    have hblk := f_blk (its := its) (it := it) (bc := bc) (bf := bf) (a := a) (cp := cp) (xs := xs) (pi := .pointer (some ⟨bt, ot, none⟩)) (vf := .slice fa its.length fp) (at_ := at_) _ it.body (Nat.le_refl _) (by omega) hIt.small.stms hIt.body I2 ba bc9 xb 0 (Sp.parsF it.params) Sp.FW0 sa1 sp1 none 0 (by omega) hsl (by omega) (by simp [Sp.FW0]; omega) hC2 (hrb.le hleI2) (StsAt.le hleI2 _ _ hbs)
    rw [← hck] at hblk
    generalize Sp.parsF it.params = sc at hm hblk
    repeat' (first
    | (refine m_call (d:=67) hm (hc:=hblk) (k:=?_); clear hm; rintro _ I3 _ _ ⟨rfl, sa3, sp3, da3, dp3, rfl⟩ hle hm; have hleI3 := hle; try simp only [setn] at hm)
    | refine m_load1 hm (k:=?_)
    | refine i_load1 hm (k:=?_)
    | refine op_move (k:=?_)
    | refine op_assign (k:=?_)
    | refine op_lss (k:=?_)
    | refine op_nilCheck (k:=?_)
    | refine op_fieldAddr (k:=?_)
    | refine wl_nil ?_
    | refine at_then_normal ?_
    | refine at_then_exit ?_
    | refine at_block_exit ?_
    | refine wc_seq ?_
    | refine wc_region ?_
    | refine wc_exit ?_
    | refine wc_ret ?_
    | refine at_ret1 (h:=?_)
    | (refine wc_cond_dec (ht:=fun _ => ?_) (hf:=fun _ => ?_)<;> (try first | contradiction | (exfalso; omega))))
    all_goals try (exfalso; omega)
    exact ⟨I3, _, ⟨bc, _, _, sc, sa3, sp3, da3, dp3, rfl, rfl⟩, hm⟩
theorem f_diags (i : Nat) (hi : i < its.length) (I : Imm) (h : FE I its a cp xs) (hlab : Sp.itLab its) (hF : ∀ x ∈ its, Sp.ItF x) :
    CalM Tryz.prog 18 #[.agg [.slice a its.length cp].toArray, nt i] I [] (fun v I' H' => H' = [] ∧ ∃ da dp, v = .slice da (Sp.checkF its i (-1)).ds.length dp ∧ RowI I' 65 4 (.slice da (Sp.checkF its i (-1)).ds.length dp) (Sp.checkF its i (-1)).ds.length ((Sp.checkF its i (-1)).ds.flatMap encDg)) := by
  refine CalM.of fun w E hm => enter (N := 19) Tryz.func18 rfl [(0, .agg [.slice a its.length cp].toArray), (1, nt i)] args2 rfl ?_
  have hfew := h.few
  repeat' (first
  | (refine m_box (d:=2) hm (k:=?_); clear hm; intro b2 _ hm)
  | refine m_load1 hm (k:=?_)
  | refine op_move (k:=?_)
  | refine op_assign (k:=?_)
  | refine op_pick_false (k:=?_)
  | refine op_lss (k:=?_)
  | refine op_geq (k:=?_)
  | refine op_len_slice (k:=?_)
  | refine op_fieldAddr (k:=?_)
  | refine wl_nil ?_
  | refine at_then_normal ?_
  | refine wc_seq ?_
  | refine wc_region ?_
  | refine wc_skip ?_
  | (refine wc_cond_dec (ht:=fun _ => ?_) (hf:=fun _ => ?_)<;> (try first | contradiction | (exfalso; omega))))
  all_goals try (exfalso; omega)
  obtain ⟨I2, hle2, hm2, hpf⟩ := hm.freezeO
  clear hm
  have hm := hm2
  clear hm2
  have hck := f_check i hi (-1) b2 I2 hpf (h.le hle2) hlab hF
  generalize Sp.checkF its i (-1) = fin at hck ⊢
  repeat' (first
  | (refine m_call (d:=15) hm (hc:=hck) (k:=?_); clear hm; rintro _ I3 _ _ ⟨bc, pi, vf, sc, sa, sp, da, dp, rfl, rfl⟩ hle hm; have hleI3 := hle; try simp only [setn] at hm)
  | refine m_load1 hm (k:=?_)
  | refine op_assign (k:=?_)
  | refine op_nilCheck (k:=?_)
  | refine op_fieldAddr (k:=?_)
  | refine wl_nil ?_
  | refine at_then_normal ?_
  | refine wc_ret ?_
  | refine at_ret1 (h:=?_))
  all_goals try (exfalso; omega)
  obtain ⟨I4, hle4, hm4, hrow⟩ := (hm.front 2 rfl).freeze
  exact ⟨I4, [], ⟨rfl, da, dp, rfl, hrow⟩, hm4.left (H := [])⟩
theorem f_label (i : Nat) (hi : i < its.length) (at_ : Int) (h0 : 0 ≤ at_) (I : Imm) (h : FE I its a cp xs) (hlab : Sp.itLab its) (hF : ∀ x ∈ its, Sp.ItF x) :
    CalM Tryz.prog 19 #[.agg [.slice a its.length cp].toArray, nt i, .int .i64 at_] I [] (fun v _ H' => v = .tuple #[nt ((Sp.checkF its i at_).hv.getD 0), .bool (Sp.checkF its i at_).hv.isSome] ∧ H' = []) := by
  refine CalM.of fun w E hm => enter (N := 33) Tryz.func19 rfl [(0, .agg [.slice a its.length cp].toArray), (1, nt i), (2, .int .i64 at_)] args3 rfl ?_
  have hfew := h.few
  repeat' (first
  | (refine m_box (d:=3) hm (k:=?_); clear hm; intro b3 _ hm)
  | refine m_load1 hm (k:=?_)
  | refine op_move (k:=?_)
  | refine op_assign (k:=?_)
  | refine op_pick_false (k:=?_)
  | refine op_lss (k:=?_)
  | refine op_geq (k:=?_)
  | refine op_len_slice (k:=?_)
  | refine op_fieldAddr (k:=?_)
  | (refine wl_split_dec (h1:=fun _ => ?_) (h0:=fun _ => ?_)<;> (try first | contradiction | (exfalso; omega)))
  | refine wl_nil ?_
  | refine at_then_normal ?_
  | refine wc_seq ?_
  | refine wc_region ?_
  | refine wc_skip ?_
  | (refine wc_cond_dec (ht:=fun _ => ?_) (hf:=fun _ => ?_)<;> (try first | contradiction | (exfalso; omega))))
  all_goals try (exfalso; omega)
  obtain ⟨I2, hle2, hm2, hpf⟩ := hm.freezeO
  clear hm
  have hm := hm2
  clear hm2
  have hck := f_check i hi at_ b3 I2 hpf (h.le hle2) hlab hF
  generalize Sp.checkF its i at_ = fin at hck ⊢
  repeat' (first
  | (refine m_call (d:=24) hm (hc:=hck) (k:=?_); clear hm; rintro _ I3 _ _ ⟨bc, pi, vf, sc, sa, sp, da, dp, rfl, rfl⟩ hle hm; have hleI3 := hle; try simp only [setn] at hm)
  | refine mq_load1 hm (k:=?_)
  | refine op_assign (k:=?_)
  | refine wl_nil ?_
  | refine at_then_normal ?_
  | refine wc_seq ?_
  | refine wc_ret ?_
  | refine at_ret2 (h:=?_)
  | refine wc_quiet (h:=?_)
  | (refine wq_nil ?_; intro _ hkq; replace hm := hm.kept0 hkq; clear hkq)
  | refine q_move (k:=?_)
  | refine q_assign (k:=?_)
  | refine q_nilCheck (k:=?_)
  | refine q_fieldAddr (k:=?_))
  all_goals try (exfalso; omega)
  exact ⟨I3, [], ⟨rfl, rfl⟩, hm.left (H := [])⟩
theorem f_sound (I : Imm) (h : FE I its a cp xs) (hlab : Sp.itLab its) (hF : ∀ x ∈ its, Sp.ItF x) :
    CalM Tryz.prog 20 #[.agg [.slice a its.length cp].toArray] I [] (fun v _ H' => H' = [] ∧ ∃ b, v = .bool b ∧ (b = true ↔ Sp.soundF its)) := by
  refine CalM.of fun w E hm => enter (N := 16) Tryz.func20 rfl [(0, .agg [.slice a its.length cp].toArray)] args1 rfl ?_
  have hfew := h.few
  repeat' (first
  | (refine m_box (d:=1) hm (k:=?_); clear hm; intro b1 _ hm)
  | refine m_load1 hm (k:=?_)
  | refine op_move (k:=?_)
  | refine op_assign (k:=?_)
  | refine op_len_slice (k:=?_)
  | refine op_fieldAddr (k:=?_)
  | refine wl_nil ?_
  | refine at_then_normal ?_
  | refine wc_seq ?_
  | refine wc_region ?_
  | refine wc_block ?_)
  refine wc_loop (fun x : NI => [(1, ptr b1), (6, nt its.length), (7, nt x.k)]) (fun x w' => Mem E x.I [.cell b1 [.slice a its.length cp] 24] w' ∧ Le I x.I ∧ x.k ≤ its.length ∧ ∀ j, j < x.k → (Sp.checkF its j (-1)).ds = []) (fun x => its.length - x.k) ⟨0, I⟩
    (by exact ⟨rfl, rfl, rfl, trivial⟩) ⟨hm, Le.refl _, Nat.zero_le _, fun j hj => absurd hj (Nat.not_lt_zero j)⟩ ?_
  clear hm
  rintro ⟨k, I1⟩ w1 ⟨hm, hle1, hk, hno⟩
  dsimp only at hm hle1 hk hno ⊢
  by_cases hlt : k < its.length
  · have hd := f_diags k hlt I1 (h.le hle1) hlab hF
    obtain ⟨n, hn⟩ : ∃ n, n = (Sp.checkF its k (-1)).ds.length := ⟨_, rfl⟩
    rw [← hn] at hd
    by_cases h0 : n = 0
    · subst h0
      have h0' := List.length_eq_zero_iff.1 hn.symm
      repeat' (first
      | (refine m_call (d:=12) hm (hc:=hd) (k:=?_); clear hm; rintro _ I2 _ _ ⟨rfl, da, dp, rfl, _⟩ hle hm; have hleI2 := hle; try simp only [setn] at hm)
      | refine m_loadAll hm (k:=?_)
      | refine op_move (k:=?_)
      | refine op_assign (k:=?_)
      | refine op_lss (k:=?_)
      | refine op_gtr (k:=?_)
      | refine op_len_slice (k:=?_)
      | refine op_add (k:=?_)
      | refine wl_nil ?_
      | refine at_then_normal ?_
      | refine at_block_normal ?_
      | refine wc_seq ?_
      | refine wc_region ?_
      | refine wc_block ?_
      | refine wc_skip ?_
      | refine wc_cond_false (hf:=?_)
      | (refine wc_cond_dec (ht:=fun _ => ?_) (hf:=fun _ => ?_)<;> (try first | contradiction | (exfalso; omega))))
      all_goals try (exfalso; omega)
      refine at_round (⟨k + 1, I2⟩ : NI) (by exact ⟨rfl, rfl, rfl, trivial⟩) ⟨hm, hle1.trans hleI2, by dsimp only; omega, fun j hj => ?_⟩ (by dsimp only; omega)
      rcases Nat.lt_or_ge j k with hjk | hjk
      · exact hno j hjk
      · obtain rfl : j = k := by dsimp only at hj; omega
        exact h0'
    · skip
      repeat' (first
      | (refine m_call (d:=12) hm (hc:=hd) (k:=?_); clear hm; rintro _ I2 _ _ ⟨rfl, da, dp, rfl, _⟩ hle hm; have hleI2 := hle; try simp only [setn] at hm)
      | refine m_loadAll hm (k:=?_)
      | refine op_move (k:=?_)
      | refine op_assign (k:=?_)
      | refine op_lss (k:=?_)
      | refine op_gtr (k:=?_)
      | refine op_len_slice (k:=?_)
      | refine wl_nil ?_
      | refine at_then_normal ?_
      | refine at_then_ret ?_
      | refine at_block_ret ?_
      | refine wc_seq ?_
      | refine wc_region ?_
      | refine wc_block ?_
      | refine wc_skip ?_
      | refine wc_ret ?_
      | refine at_ret1 (h:=?_)
      | (refine wc_cond_dec (ht:=fun _ => ?_) (hf:=fun _ => ?_)<;> (try first | contradiction | (exfalso; omega))))
      all_goals try (exfalso; omega)
      refine ⟨I2, [], ⟨rfl, false, rfl, fun hf => (by cases hf), fun hs => ?_⟩, hm.left (H := [])⟩
      exfalso
      have := hs k hlt
      rw [this] at hn
      exact h0 hn
  · obtain rfl : k = its.length := by omega
    repeat' (first
    | refine op_assign (k:=?_)
    | refine op_lss (k:=?_)
    | refine wl_nil ?_
    | refine at_then_normal ?_
    | refine at_then_exit ?_
    | refine at_block_exit ?_
    | refine wc_seq ?_
    | refine wc_region ?_
    | refine wc_exit ?_
    | refine wc_ret ?_
    | refine at_ret1 (h:=?_)
    | (refine wc_cond_dec (ht:=fun _ => ?_) (hf:=fun _ => ?_)<;> (try first | contradiction | (exfalso; omega))))
    all_goals try (exfalso; omega)
    exact ⟨I1, [], ⟨rfl, true, rfl, fun _ => hno, fun _ => rfl⟩, hm.left (H := [])⟩
end
end Go.Proofs.YtkbiakajlfmakaaGreatDoor
end
section
namespace Go.Sp
theorem item_itF (src : List UInt8) (at_ : Int) (h : src.length ≤ 1048576) : ItF (item src at_) ∧ (item src at_).label < 256 ∧ ∀ p ∈ (item src at_).params, p.label < 256 := by
  have hA := item_all (src := src) (p := anyP) (q := labS) (r := fun p => p.label < 256) (t := fun _ => True) at_ ⟨trivial, fun _ => trivial, fun _ _ _ _ => trivial, fun _ _ => trivial, fun _ _ _ _ _ => trivial, fun _ _ _ _ _ _ _ _ _ _ _ _ _ _ _ _ => trivial⟩
    ⟨by show 0 < 256; omega, fun _ _ lb _ _ h => Nat.lt_succ_of_le h, fun _ _ _ => (by show 0 < 256; omega), fun _ _ _ _ => (by show 0 < 256; omega), fun _ _ _ => (by show 0 < 256; omega)⟩ (fun _ lb h => Nat.lt_succ_of_le h) (fun _ => trivial)
  have hc := item_cnt src at_
  exact ⟨⟨item_small src at_ h, hA.body, by omega⟩, Nat.lt_succ_of_le hA.label, hA.params⟩
theorem file_itF (s : List UInt8) : (∀ x ∈ fileItems s, ItF x) ∧ itLab (fileItems s) := by
  have key : ∀ x ∈ fileItems s, ItF x ∧ x.label < 256 ∧ ∀ p ∈ x.params, p.label < 256 := by
    intro x hx
    by_cases h0 : fileErr s = 0
    · have hl : s.length ≤ 4000 := by
        rw [fileErr] at h0
        split at h0
        · cases h0
        · omega
      rw [fileItems, if_pos h0, items] at hx
      obtain ⟨j, _, rfl⟩ := List.mem_map.1 hx
      exact item_itF _ _ (by rw [piece, List.length_take, List.length_drop]; omega)
    · rw [fileItems, if_neg h0] at hx
      simp at hx
  exact ⟨fun x hx => (key x hx).1, fun x hx => (key x hx).2⟩
def flowT1 : List UInt8 := [99, 104, 97, 110, 32, 110, 101, 116, 58, 32, 123, 125, 59, 10, 102, 110, 32, 102, 40, 120, 58, 32, 123, 97, 125, 41, 58, 32, 123, 125, 32, 123, 32, 115, 101, 110, 100, 32, 110, 101, 116, 32, 120, 59, 32, 125]
def flowT2 : List UInt8 := [102, 110, 32, 102, 40, 120, 58, 32, 123, 97, 125, 41, 58, 32, 123, 97, 125, 32, 123, 32, 114, 101, 116, 117, 114, 110, 32, 120, 59, 32, 125]
theorem flow1_err : fileErr flowT1 = 0 := by decide +kernel
theorem flow2_err : fileErr flowT2 = 0 := by decide +kernel
theorem flow1_len : (fileItems flowT1).length = 2 := by decide +kernel
theorem flow2_len : (fileItems flowT2).length = 1 := by decide +kernel
theorem flow2_label : (checkF (fileItems flowT2) 0 27).hv = some 1 := by decide +kernel
theorem flow2_ds : (checkF (fileItems flowT2) 0 (-1)).ds.length = 0 := by decide +kernel
theorem flow1_ds : ((checkF (fileItems flowT1) 1 (-1)).ds.map (·.err)) = [9] := by decide +kernel
end Go.Sp
namespace Go.Proofs.YtkbiakajlfmakaaGreatDoor
open Go.Fw
theorem fe_of {I : Imm} {its : List Sp.Itm} {a : Option Addr} {cp : Nat} {xs : List Value} (h1 : RowI I 59 10 (.slice a its.length cp) its.length xs) (h2 : ItsAt I its xs) (h3 : its.length ≤ 30) : FE I its a cp xs := ⟨h1, h2, by omega⟩
set_option maxHeartbeats 16000000 in
theorem f_alive (I : Imm) (hC : Conv I) : CalM Tryz.prog 21 #[] I [] (fun v _ H' => v = .bool true ∧ H' = []) := by
  refine CalM.of fun w E hm => enter (N := 73) Tryz.func21 rfl [] args0 rfl ?_
  have h1 := fun (J : Imm) (m : Le I J) => p_file Sp.flowT1 J (hC.le m) (by decide)
  have h2 := fun (J : Imm) (m : Le I J) => p_file Sp.flowT2 J (hC.le m) (by decide)
  rw [Sp.flow1_err] at h1
  rw [Sp.flow2_err] at h2
  obtain ⟨g1, g2⟩ := Sp.file_itF Sp.flowT1
  obtain ⟨k1, k2⟩ := Sp.file_itF Sp.flowT2
  have l1 := Sp.flow1_len
  have l2 := Sp.flow2_len
  have e1 := Sp.flow1_ds
  have e2 := Sp.flow2_ds
  have e3 := Sp.flow2_label
  generalize Sp.fileItems Sp.flowT1 = i1 at h1 g1 g2 l1 e1
  generalize Sp.fileItems Sp.flowT2 = i2 at h2 k1 k2 l2 e2 e3
  have hlab := fun (J : Imm) (a cp xs) (h : FE J i2 a cp xs) => f_label 0 (by omega) 27 (by decide) J h k2 k1
  rw [e3] at hlab
  have hdg := fun (J : Imm) (a cp xs) (h : FE J i1 a cp xs) => f_diags 1 (by omega) J h g2 g1
  have hs1 := fun (J : Imm) (a cp xs) (h : FE J i1 a cp xs) => f_sound J h g2 g1
  have hs2 := fun (J : Imm) (a cp xs) (h : FE J i2 a cp xs) => f_sound J h k2 k1
  have n1 : ¬ Sp.soundF i1 := fun h => by
    have := h 1 (by omega)
    rw [this] at e1
    cases e1
  have n2 : Sp.soundF i2 := fun j hj => by
    obtain rfl : j = 0 := by omega
    exact List.length_eq_zero_iff.1 e2
  have hfl := fun (J : Imm) (a cp xs) (h : FE J i1 a cp xs) => f_floors J h g2 (fun x hx => (g1 x hx).small)
  obtain ⟨d, hd1, hd2⟩ : ∃ d, (Sp.checkF i1 1 (-1)).ds = [d] ∧ d.err = 9 := by
    match h : (Sp.checkF i1 1 (-1)).ds, e1 with
    | [d], e1 => exact ⟨d, rfl, by simpa [h] using e1⟩
    | [], e1 => simp [h] at e1
    | _ :: _ :: _, e1 => simp [h] at e1
  rw [hd1] at hdg
  clear e1 e2 e3 hd1
  repeat' (first
  | (refine m_call (d:=9) hm (hc:=h1 I (Le.refl _)) (k:=?_); clear hm; rintro _ I2 _ _ ⟨a1, c1, x1, rfl, hr1, ht1, rfl⟩ hle hm; have hleI2 := hle; try simp only [setn] at hm)
  | (refine m_call (d:=13) hm (hc:=h2 I2 hleI2) (k:=?_); clear hm; rintro _ I3 _ _ ⟨a2, c2, x2, rfl, hr2, ht2, rfl⟩ hle hm; have hleI3 := hle; try simp only [setn] at hm; have q1 := (fe_of hr1 ht1 (by omega)).le hleI3; have q2 := fe_of hr2 ht2 (by omega))
  | (refine m_call (d:=36) hm (hc:=hlab I3 _ _ _ q2) (k:=?_); clear hm; rintro _ I4 _ _ ⟨rfl, rfl⟩ hle hm; have hleI4 := hle; try simp only [setn] at hm)
  | (refine m_call (d:=40) hm (hc:=hdg I4 _ _ _ (q1.le hleI4)) (k:=?_); clear hm; rintro _ I5 _ _ ⟨rfl, da, dp, rfl, hrd⟩ hle hm; have hleI5 := hle; try simp only [setn] at hm)
  | (refine i_indexFlat (d:=46) (enc:=encDg) (z:=d) (hr:=hrd) (he:=fun _ => rfl) (h1:=by simp) (hz:=by rfl) (k:=?_); intro bz oz hpz; replace hpz : PtrI I5 bz oz 65 [nt d.fr, nt d.to, nt 9, str d.name] := by rw [← hd2]; exact hpz)
  | (refine m_call (d:=53) hm (hc:=hs2 I5 _ _ _ ((q2.le hleI4).le hleI5)) (k:=?_); clear hm; rintro _ I6 _ _ ⟨rfl, sb2, rfl, hsb2⟩ hle hm; have hleI6 := hle; try simp only [setn] at hm; have := hsb2.2 n2; subst this)
  | (refine m_call (d:=57) hm (hc:=hs1 I6 _ _ _ (((q1.le hleI4).le hleI5).le hleI6)) (k:=?_); clear hm; rintro _ I7 _ _ ⟨rfl, sb1, rfl, hsb1⟩ hle hm; have hleI7 := hle; try simp only [setn] at hm; have : sb1 = false := (by cases sb1; rfl; exact absurd (hsb1.1 rfl) n1); subst this)
  | (refine m_call (d:=69) hm (hc:=hfl I7 _ _ _ ((((q1.le hleI4).le hleI5).le hleI6).le hleI7)) (k:=?_); clear hm; rintro _ I8 _ _ ⟨rfl, fa, fp, rfl, _⟩ hle hm; have hleI8 := hle; try simp only [setn] at hm)
  | (refine m_varS (d:=1) hm (k:=?_); clear hm; intro b1 _ hm)
  | (refine m_varS (d:=3) hm (k:=?_); clear hm; intro b3 _ hm)
  | refine m_load1 hm (k:=?_)
  | refine i_load1 hm (k:=?_)
  | refine m_loadAll hm (k:=?_)
  | refine op_move (k:=?_)
  | refine op_assign (k:=?_)
  | refine op_pick_true (k:=?_)
  | refine op_pick_false (k:=?_)
  | refine op_eql (k:=?_)
  | refine op_neq (k:=?_)
  | refine op_len_slice (k:=?_)
  | refine op_not (k:=?_)
  | refine op_extract (k:=?_)
  | refine op_fieldAddr (k:=?_)
  | (refine wl_split_dec (h1:=fun _ => ?_) (h0:=fun _ => ?_)<;> (try first | contradiction | (exfalso; omega)))
  | refine wl_nil ?_
  | refine at_then_normal ?_
  | refine wc_seq ?_
  | refine wc_region ?_
  | refine wc_skip ?_
  | refine wc_ret ?_
  | refine at_ret1 (h:=?_)
  | (refine wc_cond_dec (ht:=fun _ => ?_) (hf:=fun _ => ?_)<;> (try first | contradiction | (exfalso; omega))))
  all_goals try (exfalso; omega)
  exact ⟨I8, [], ⟨by rw [l1]; rfl, rfl⟩, hm.left (H := [])⟩
end Go.Proofs.YtkbiakajlfmakaaGreatDoor
end
section
namespace Go.Sp
end Go.Sp
namespace Go.Proofs.YtkbiakajlfmakaaGreatDoor
open Go.Fw
end Go.Proofs.YtkbiakajlfmakaaGreatDoor
end
section
namespace Go.Proofs.YtkbiakajlfmakaaGreatDoor
open Go.Fw
section
variable {src : List UInt8} {its : List Sp.Itm} {a : Option Addr} {cp : Nat} {xs : List Value}
end
end Go.Proofs.YtkbiakajlfmakaaGreatDoor
end
section
namespace Go.Sp
end Go.Sp
namespace Go.Proofs.YtkbiakajlfmakaaGreatDoor
open Go.Fw
section
variable {src : List UInt8} {its : List Sp.Itm} {a : Option Addr} {cp : Nat} {xs : List Value}
end
end Go.Proofs.YtkbiakajlfmakaaGreatDoor
end
section
namespace Go.Sp
theorem file_itN (s : List UInt8) : ∀ x ∈ fileItems s, ItN s x := by
  intro x hx
  have hst := file_its s x hx
  by_cases h0 : fileErr s = 0
  · have hl : s.length ≤ 4000 := by
      rw [fileErr] at h0
      split at h0
      · cases h0
      · omega
    rw [fileItems, if_pos h0, items] at hx
    obtain ⟨j, _, rfl⟩ := List.mem_map.1 hx
    have hp : (piece s (cuts s) j).length ≤ 4000 := by rw [piece, List.length_take, List.length_drop]; omega
    have hc := item_cnt (piece s (cuts s) j) ((cuts s).getD j 0 : Nat)
    exact ⟨item_small _ _ (by omega), by rw [itemAt]; omega, hst⟩
  · rw [fileItems, if_neg h0] at hx
    simp at hx
end Go.Sp
namespace Go.Proofs.YtkbiakajlfmakaaGreatDoor
open Go.Fw
end Go.Proofs.YtkbiakajlfmakaaGreatDoor
end
section
namespace Go.Sp
mutual
theorem topS_small : ∀ (x : Stm), x.small → (topS x).small
  | .mk k nm a lb o e thn els f t, h => by
    rw [Stm.small] at h
    rw [topS, Stm.small, topsS_len, topsS_len]
    exact ⟨h.1, h.2.1, topsS_small thn h.2.2.1, h.2.2.2.1, topsS_small els h.2.2.2.2⟩
theorem topsS_small : ∀ (l : List Stm), stmsSmall l → stmsSmall (topsS l)
  | [], h => by rw [topsS]; exact h
  | x :: l, h => by
    rw [stmsSmall] at h
    rw [topsS, stmsSmall]
    exact ⟨topS_small x h.1, topsS_small l h.2⟩
 end
mutual
theorem topS_cnt : ∀ (x : Stm), (topS x).cnt = x.cnt
  | .mk k nm a lb o e thn els f t => by rw [topS, Stm.cnt, Stm.cnt, topsS_cnt thn, topsS_cnt els]
theorem topsS_cnt : ∀ (l : List Stm), stmsCnt (topsS l) = stmsCnt l
  | [] => by rw [topsS]
  | x :: l => by rw [topsS, stmsCnt, stmsCnt, topS_cnt x, topsS_cnt l]
 end
mutual
theorem topS_all : ∀ (x : Stm), x.all anyP labS → (topS x).all anyP labS
  | .mk k nm a lb o e thn els f t, h => by
    rw [Stm.all] at h
    rw [topS, Stm.all]
    exact ⟨(by show 255 < 256; omega), h.2.1, topsS_all thn h.2.2.1, topsS_all els h.2.2.2⟩
theorem topsS_all : ∀ (l : List Stm), stmsAll anyP labS l → stmsAll anyP labS (topsS l)
  | [], h => by rw [topsS]; exact h
  | x :: l, h => by
    rw [stmsAll] at h
    rw [topsS, stmsAll]
    exact ⟨topS_all x h.1, topsS_all l h.2⟩
 end
theorem topI_itF {it : Itm} (h : ItF it) : ItF (topI it) := by
  obtain ⟨hs, hb, hc⟩ := h
  exact ⟨{ params := by show (it.params.map (fun p => (⟨p.name, 255, p.at_⟩ : Par))).length ≤ _; rw [List.length_map]; exact hs.params
           sends := hs.sends
           diags := hs.diags
           body := by show (topsS it.body).length ≤ _; rw [topsS_len]; exact hs.body
           stms := topsS_small _ hs.stms }, topsS_all _ hb, by show stmsCnt (topsS it.body) ≤ _; rw [topsS_cnt]; exact hc⟩
theorem item_set (src : List UInt8) (at_ : Int) : stmsAll anyE setS (item src at_).body := by
  have hA := item_all (src := src) (p := anyE) (q := setS) (r := fun _ => True) (t := fun _ => True) at_ ⟨trivial, fun _ => trivial, fun _ _ _ _ => trivial, fun _ _ => trivial, fun _ _ _ _ _ => trivial, fun _ _ _ _ _ _ _ _ _ _ _ _ _ _ _ _ => trivial⟩
    ⟨fun h => (by cases h), fun _ _ _ _ _ _ h => (by cases h), fun _ _ h _ e => (by rw [e] at h; exact absurd h (by decide)), fun _ _ _ h e => (by omega), fun _ _ _ h => (by cases h)⟩ (fun _ _ _ => trivial) (fun _ => trivial)
  exact hA.body
theorem file_set (s : List UInt8) : ∀ x ∈ fileItems s, stmsAll anyE setS x.body := by
  intro x hx
  rw [fileItems] at hx
  split at hx
  · obtain ⟨i, _, rfl⟩ := List.mem_map.1 hx
    exact item_set _ _
  · cases hx
def topP (p : Par) : Par := ⟨p.name, 255, p.at_⟩
end Go.Sp
namespace Go.Proofs.YtkbiakajlfmakaaGreatDoor
open Go.Fw
theorem _root_.Go.Fw.pmFt {x y z r : HItem} {B : List HItem} : (x :: y :: z :: r :: B).Perm (r :: x :: y :: z :: B) :=
  (List.perm_append_comm (l₁ := [x, y, z]) (l₂ := [r])).append_right B
theorem par_step {P : List Sp.Par} {j : Nat} {p : Sp.Par} (h : P[j]? = some p) :
    (((P.take j).map Sp.topP ++ P.drop j).flatMap encPar).set (j * 3 + 1) (.int .i64 255) = (((P.take (j + 1)).map Sp.topP ++ P.drop (j + 1)).flatMap encPar) := by
  have hj := (List.getElem?_eq_some_iff.1 h).1
  have hl : (((P.take j).map Sp.topP).flatMap encPar).length = j * 3 := by
    rw [List.length_flatMap]
    simp only [encPar, List.length_cons, List.length_nil, List.map_const', List.length_map, List.length_take, List.sum_replicate_nat]
    omega
  rw [Sp.take_drop_get h, Sp.take_succ_get h, List.map_append, List.flatMap_append, List.flatMap_cons, mid_set hl (by simp), List.flatMap_append, List.flatMap_append, List.append_assoc]
  congr 1
theorem par_len (P : List Sp.Par) (j : Nat) (hj : j < P.length) : j * 3 + 1 < (((P.take j).map Sp.topP ++ P.drop j).flatMap encPar).length := by
  rw [List.length_flatMap]
  simp only [encPar, List.length_cons, List.length_nil, List.map_const', List.length_append, List.length_map, List.length_take, List.length_drop, List.sum_replicate_nat]
  omega
structure FtX where
  k : Nat
  I : Imm
  a : Option Addr
  cp : Nat
  xs : List Value
theorem topI_cells {J : Imm} {it : Sp.Itm} {ap as_ ab ad : Option Addr} {cp cs cb cd : Nat} {xb : List Value} (h1 : RowI J 62 3 (.slice ap it.params.length cp) it.params.length ((it.params.map Sp.topP).flatMap encPar))
    (h2 : RowI J 83 2 (.slice as_ it.sends.length cs) it.sends.length (it.sends.flatMap encRf)) (h3 : RowI J 102 15 (.slice ab it.body.length cb) it.body.length xb) (h4 : StsAt J (Sp.topsS it.body) xb)
    (h5 : RowI J 65 4 (.slice ad it.diags.length cd) it.diags.length (it.diags.flatMap encDg)) :
    ItAt J (Sp.topI it) (itCells it.kind it.name 255 (.slice ap it.params.length cp) (.slice as_ it.sends.length cs) (.slice ab it.body.length cb) it.at_ it.size it.mark (.slice ad it.diags.length cd)) := by
  refine ⟨ap, cp, as_, cs, ab, cb, ad, cd, xb, ?_, ?_, h2, ?_, h4, h5⟩
  · show _ = itCells it.kind it.name 255 (.slice ap (it.params.map Sp.topP).length cp) _ (.slice ab (Sp.topsS it.body).length cb) _ _ _ _
    rw [List.length_map, Sp.topsS_len]; rfl
  · show RowI J _ 3 (.slice ap (it.params.map Sp.topP).length cp) (it.params.map Sp.topP).length _
    rw [List.length_map]; exact h1
  · show RowI J _ 15 (.slice ab (Sp.topsS it.body).length cb) (Sp.topsS it.body).length _
    rw [Sp.topsS_len]; exact h3
set_option maxHeartbeats 32000000 in
theorem sp_ftop (s : List UInt8) (hs : s.length ≤ 9223372036854775807) (I : Imm) (hC : Conv I) : CalM Tryz.prog 5 #[str s] I [] (fun v _ H' => v = .bool true ∧ H' = []) := by
  refine CalM.of fun w E hm => enter (N := 83) Tryz.func5 rfl [(0, str s)] args1 rfl ?_
  have hA := fun (I' : Imm) (m : Le I I') => f_alive I' (hC.le m)
  have hF := fun (I' : Imm) (m : Le I I') => p_file s I' (hC.le m) hs
  obtain ⟨g1, g2⟩ := Sp.file_itF s
  have gS := Sp.file_set s
  have gN := Sp.file_itN s
  have hfew := Sp.file_few s
  have he1 : Sp.fileErr s = 0 → s.length ≤ 4000 := fun h0 => by
    rw [Sp.fileErr] at h0
    split at h0
    · cases h0
    · omega
  generalize Sp.fileErr s = er at hF he1
  generalize Sp.fileItems s = its at hF g1 g2 hfew gS gN
  by_cases h0 : er ≠ 0
  · skip
    repeat' (first
    | (refine m_call (d:=12) hm (hc:=hA _ (Le.refl _)) (k:=?_); clear hm; rintro _ I2 _ _ ⟨rfl, rfl⟩ hle hm; have hleI2 := hle; try simp only [setn] at hm)
    | (refine m_call (d:=16) hm (hc:=hF _ hleI2) (k:=?_); clear hm; rintro _ I3 _ _ ⟨a, cp, xs, rfl, hrow, hits, rfl⟩ hle hm; have hleI3 := hle; try simp only [setn] at hm)
    | (refine m_varS (d:=3) hm (k:=?_); clear hm; intro b3 _ hm)
    | refine op_move (k:=?_)
    | refine op_assign (k:=?_)
    | refine op_neq (k:=?_)
    | refine op_not (k:=?_)
    | refine op_extract (k:=?_)
    | refine wl_nil ?_
    | refine at_then_normal ?_
    | refine at_then_ret ?_
    | refine wc_seq ?_
    | refine wc_region ?_
    | refine wc_skip ?_
    | refine wc_ret ?_
    | refine at_ret1 (h:=?_)
    | refine wc_cond_false (hf:=?_)
    | (refine wc_cond_dec (ht:=fun _ => ?_) (hf:=fun _ => ?_)<;> (try first | contradiction | (exfalso; omega))))
    all_goals try (exfalso; first | omega | contradiction)
    all_goals exact ⟨I3, [], ⟨rfl, rfl⟩, hm.left (H := [])⟩
  obtain rfl : er = 0 := by omega
  have hl4 := he1 rfl
  repeat' (first
  | (refine m_call (d:=12) hm (hc:=hA _ (Le.refl _)) (k:=?_); clear hm; rintro _ I2 _ _ ⟨rfl, rfl⟩ hle hm; have hleI2 := hle; try simp only [setn] at hm)
  | (refine m_call (d:=16) hm (hc:=hF _ hleI2) (k:=?_); clear hm; rintro _ I3 _ _ ⟨a, cp, xs, rfl, hrow, hits, rfl⟩ hle hm; have hleI3 := hle; try simp only [setn] at hm)
  | refine wc_hold 6 ?_
  | (refine m_varS (d:=3) hm (k:=?_); clear hm; intro b3 _ hm)
  | refine op_move (k:=?_)
  | refine op_assign (k:=?_)
  | refine op_neq (k:=?_)
  | refine op_not (k:=?_)
  | refine op_extract (k:=?_)
  | refine wl_nil ?_
  | refine at_then_normal ?_
  | refine wc_seq ?_
  | refine wc_region ?_
  | refine wc_skip ?_
  | refine wc_cond_false (hf:=?_))
  all_goals try (exfalso; first | omega | contradiction)
  have q3 : FE I3 its a cp xs := fe_of hrow hits (by omega)
  obtain ⟨I4, hle4, hm4, hpf⟩ := hm.freezeO
  clear hm
  have hm := hm4.nil 59 10
  clear hm4
  have q4 := q3.le hle4
  refine ⟨?_⟩
  repeat' (first
  | (refine m_varS (d:=5) hm (k:=?_); clear hm; intro b5 _ hm)
  | refine i_load1 hm (k:=?_)
  | refine op_move (k:=?_)
  | refine op_len_slice (k:=?_)
  | refine op_fieldAddr (k:=?_)
  | refine op_struct (k:=?_)
  | refine wl_nil ?_
  | refine at_then_normal ?_
  | refine wc_seq ?_
  | refine wc_region ?_
  | refine wc_block ?_)
  all_goals try (exfalso; first | omega | contradiction)
  refine wc_loop (fun x : FtX => [(3, ptr b3), (5, ptr b5), (23, .slice a its.length cp), (24, nt its.length), (25, nt x.k)])
    (fun x w' => Mem E x.I [.cell b5 [.slice x.a x.k x.cp] 24, .row (.slice x.a x.k x.cp) 59 10 x.k x.xs] w' ∧ Le I4 x.I ∧ ItsAt x.I ((its.take x.k).map Sp.topI) x.xs ∧ x.k ≤ its.length) (fun x => its.length - x.k) ⟨0, I4, none, 0, []⟩
    (by exact ⟨rfl, rfl, rfl, rfl, rfl, trivial⟩) ⟨hm, Le.refl _, rfl, Nat.zero_le _⟩ ?_
  clear hm
  rintro ⟨k, I5, a2, cp2, xs2⟩ w1 ⟨hm, hle5, hxs, hk⟩
  dsimp only at hm hle5 hxs hk ⊢
  have q5 := q4.le hle5
  have hri := q5.row
  by_cases hlt : k < its.length
  · have hg : its[k]? = some its[k] := List.getElem?_eq_getElem hlt
    obtain ⟨ci, hci, hat, hlc⟩ := q5.get hg
    have hIt := g1 _ (List.getElem_mem hlt)
    have htk : (its.take (k + 1)).map Sp.topI = (its.take k).map Sp.topI ++ [Sp.topI its[k]] := by rw [Sp.take_succ_get hg, List.map_append]; rfl
    generalize its[k] = it at hg hat hIt htk
    have hsm := hIt.small
    have hsp := hsm.params
    have hsb := hsm.body
    have how := fun (J : Imm) (m : Le I5 J) => o_own it hsm J ci (hat.le m)
    obtain ⟨pa, pc, sa9, sc9, ba, bc9, da9, dc9, xb9, rfl, _⟩ := hat
    repeat' (first
    | (refine i_indexAddr (d:=27) (hr:=hri) (k:=?_); intro bt ot hpt; rw [show ((k : Int).toNat * 10) = k * 10 from rfl, hci] at hpt)
    | (refine i_loadN (d:=28) hm (hp:=hpt) (k:=?_))
    | (refine m_call (d:=30) hm (hp:=pm0) (hc:=how I5 (Le.refl _)) (k:=?_); clear hm; rintro _ I6 _ _ ⟨ap, cpp, as_, csn, ab, cb, ad, cd, Hb, rfl, rfl, hO, hrs, hrd⟩ hleI6 hm; replace hm := hm.perm List.perm_append_comm; try simp only [setn] at hm)
    | refine wc_hold 12 ?_
    | (refine m_varS (d:=7) hm (k:=?_); clear hm; intro b7 _ hm)
    | refine m_loadAll hm (k:=?_)
    | (refine m_storeAll hm (k:=?_); clear hm; intro _ hm; try simp only [setn] at hm)
    | (refine m_store1 hm (k:=?_); clear hm; intro _ hm; try simp only [setn] at hm)
    | refine op_lss (k:=?_)
    | refine op_fieldAddr (k:=?_)
    | refine wl_nil ?_
    | refine at_then_normal ?_
    | refine wc_seq ?_
    | refine wc_region ?_
    | refine wc_block ?_
    | refine wc_skip ?_
    | (refine wc_cond_dec (ht:=fun _ => ?_) (hf:=fun _ => ?_)<;> (try first | contradiction | (exfalso; omega))))
    all_goals try (exfalso; omega)
    replace hm := hm.perm pmFt
    refine ⟨?_⟩
    repeat' (first
    | refine m_load1 hm (k:=?_)
    | refine op_move (k:=?_)
    | refine op_len_slice (k:=?_)
    | refine op_fieldAddr (k:=?_)
    | refine wl_nil ?_
    | refine at_then_normal ?_
    | refine wc_region ?_
    | refine wc_block ?_)
    all_goals try (exfalso; omega)
    refine wc_loop (fun j : Nat => [(3, ptr b3), (5, ptr b5), (7, ptr b7), (23, .slice a its.length cp), (24, nt its.length), (25, nt k), (34, nt it.params.length), (35, nt j)])
      (fun j w' => Mem E I6 (.row (.slice ap it.params.length cpp) 62 3 it.params.length (((it.params.take j).map Sp.topP ++ it.params.drop j).flatMap encPar) :: .cell b7 (itCells it.kind it.name 255 (.slice ap it.params.length cpp) (.slice as_ it.sends.length csn) (.slice ab it.body.length cb) it.at_ it.size it.mark (.slice ad it.diags.length cd)) 59 :: .cell b5 [.slice a2 k cp2] 24 :: .row (.slice a2 k cp2) 59 10 k xs2 :: Hb) w' ∧ j ≤ it.params.length) (fun j => it.params.length - j) 0
      (by exact ⟨rfl, rfl, rfl, rfl, rfl, rfl, rfl, rfl, trivial⟩) ⟨hm, Nat.zero_le _⟩ ?_
    clear hm
    rintro j w2 ⟨hm, hj⟩
    try dsimp only at hm hj ⊢
    by_cases hjl : j < it.params.length
    · have hgp : it.params[j]? = some it.params[j] := List.getElem?_eq_getElem hjl
      have hps := par_step hgp
      have hpl := par_len it.params j hjl
      obtain ⟨gb, rfl⟩ := hm.rowAddr (by omega)
      have hoff : 0 + (j : Int).toNat * 3 + 1 = j * 3 + 1 := by rw [Int.toNat_natCast]; omega
      repeat' (first
      | (refine m_storeRow (off := j * 3 + 1) hm (by rfl) (by rfl) (by rw [← hoff]; rfl) (by rfl) (by rfl) (by rfl) hpl ?_; clear hm; intro _ hm; rw [hps] at hm)
      | refine m_load1 hm (k:=?_)
      | refine op_move (k:=?_)
      | refine op_assign (k:=?_)
      | refine op_lss (k:=?_)
      | refine op_add (k:=?_)
      | refine op_fieldAddr (k:=?_)
      | refine op_indexAddr (k:=?_)
      | refine wl_nil ?_
      | refine at_then_normal ?_
      | refine at_block_normal ?_
      | refine wc_seq ?_
      | refine wc_region ?_
      | refine wc_block ?_
      | refine wc_skip ?_
      | (refine wc_cond_dec (ht:=fun _ => ?_) (hf:=fun _ => ?_)<;> (try first | contradiction | (exfalso; omega))))
      all_goals try (exfalso; omega)
      exact at_round (j + 1 : Nat) (by exact ⟨rfl, rfl, rfl, rfl, rfl, rfl, rfl, rfl, trivial⟩) ⟨hm, by omega⟩ (by omega)
    obtain rfl : j = it.params.length := by omega
    rw [List.take_length, List.drop_length, List.append_nil] at hm
    clear hjl hj
    have hct := fun (J : Imm) (m : Le I6 J) => ft_top _ it.body (Nat.le_refl _) (by omega) hsm.stms J ab cb Hb (hO.le m)
    repeat' (first
    | (refine m_call (d:=46) hm (hp:=List.perm_append_comm (l₁ := [_, _, _, _])) (hc:=hct I6 (Le.refl _)) (k:=?_); clear hm; rintro _ I7 Hb' _ ⟨rfl, hO'⟩ hleI7 hm; replace hm := hm.perm List.perm_append_comm; try simp only [setn] at hm)
    | (refine m_push (d:=51) hm (k:=?_); clear hm; intro a51 cp51 _ _ hm; try simp only [setn] at hm)
    | refine m_load1 hm (k:=?_)
    | refine m_loadAll hm (k:=?_)
    | (refine m_store1 hm (k:=?_); clear hm; intro _ hm; try simp only [setn] at hm)
    | refine op_move (k:=?_)
    | refine op_lss (k:=?_)
    | refine op_add (k:=?_)
    | refine op_fieldAddr (k:=?_)
    | refine wl_nil ?_
    | refine at_then_normal ?_
    | refine at_then_exit ?_
    | refine at_block_normal ?_
    | refine at_block_exit ?_
    | refine wc_seq ?_
    | refine wc_region ?_
    | refine wc_exit ?_
    | (refine wc_cond_dec (ht:=fun _ => ?_) (hf:=fun _ => ?_)<;> (try first | contradiction | (exfalso; omega))))
    all_goals try (exfalso; omega)
    obtain ⟨I8, hle8, hm8, hrp⟩ := hm.freeze
    clear hm
    obtain ⟨I9, xb, hle9, hm9, hrb, hsb9⟩ := (hO'.le hle8).freeze (hm8.tl.perm (List.perm_append_comm (l₁ := [_, _])))
    clear hm8
    have hIt9 := topI_cells (hrp.le hle9) (((hrs.le hleI7).le hle8).le hle9) (by rw [Sp.topsS_len] at hrb; exact hrb) hsb9 (((hrd.le hleI7).le hle8).le hle9)
    refine at_round (⟨k + 1, I9, a51, cp51, xs2 ++ itCells it.kind it.name 255 (.slice ap it.params.length cpp) (.slice as_ it.sends.length csn) (.slice ab it.body.length cb) it.at_ it.size it.mark (.slice ad it.diags.length cd)⟩ : FtX)
      (by exact ⟨rfl, rfl, rfl, rfl, rfl, trivial⟩) ⟨hm9, (((hle5.trans hleI6).trans hleI7).trans hle8).trans hle9, ?_, by dsimp only; omega⟩ (by dsimp only; omega)
    dsimp only
    rw [htk]
    exact (hxs.le ((((hleI6.trans hleI7).trans hle8).trans hle9))).snoc hIt9
  · obtain rfl : k = its.length := by omega
    rw [List.take_length] at hxs
    obtain ⟨I6, hle6, hm6, hpg⟩ := hm.freezeO
    obtain ⟨I7, hle7, hm7, hrg⟩ := hm6.freeze
    clear hm hm6
    have hm := hm7
    clear hm7
    have hll : (its.map Sp.topI).length = its.length := List.length_map ..
    have hG : FE I7 (its.map Sp.topI) a2 cp2 xs2 := ⟨by rw [hll]; exact hrg, hxs.le (hle6.trans hle7), by rw [hll]; omega⟩
    have hGl := Sp.top_lab its
    have hGF : ∀ x ∈ its.map Sp.topI, Sp.ItF x := fun x hx => by
      obtain ⟨y, hy, rfl⟩ := List.mem_map.1 hx
      exact Sp.topI_itF (g1 y hy)
    have hpf7 := ((hpf.le hle5).le hle6).le hle7
    have hpg7 := hpg.le hle7
    have q7 := (q5.le hle6).le hle7
    have htop := fun (i : Nat) (hi : i < its.length) => Sp.top_check hi (-1) (gS _ (Sp.itNo_mem hi))
    repeat' (first
    | refine i_load1 hm (k:=?_)
    | refine op_move (k:=?_)
    | refine op_lss (k:=?_)
    | refine op_len_slice (k:=?_)
    | refine op_fieldAddr (k:=?_)
    | refine wl_nil ?_
    | refine at_then_normal ?_
    | refine at_then_exit ?_
    | refine at_block_exit ?_
    | refine wc_seq ?_
    | refine wc_region ?_
    | refine wc_block ?_
    | refine wc_exit ?_
    | (refine wc_cond_dec (ht:=fun _ => ?_) (hf:=fun _ => ?_)<;> (try first | contradiction | (exfalso; omega))))
    all_goals try (exfalso; omega)
    refine wc_loop (fun x : NI => [(3, ptr b3), (5, ptr b5), (56, nt its.length), (57, nt x.k)]) (fun x w' => Mem E x.I [] w' ∧ Le I7 x.I ∧ x.k ≤ its.length) (fun x => its.length - x.k) ⟨0, I7⟩
      (by exact ⟨rfl, rfl, rfl, rfl, trivial⟩) ⟨hm, Le.refl _, Nat.zero_le _⟩ ?_
    clear hm
    rintro ⟨i, I8⟩ w3 ⟨hm, hle8, hi⟩
    dsimp only at hm hle8 hi ⊢
    have hpf8 := hpf7.le hle8
    have hpg8 := hpg7.le hle8
    by_cases hil : i < its.length
    · have hd := f_diags i (by rw [hll]; exact hil) I8 (hG.le hle8) hGl hGF
      rw [hll] at hd
      have htp := htop i hil
      have hlo := fun (J : Imm) (m : Le I8 J) => r_look i hil J ((q7.le hle8).le m) hl4 gN
      unfold LookI at hlo
      have hcnt : (Sp.checkF (its.map Sp.topI) i (-1)).ds.length ≤ 1099511627776 := by
        have hIt := hGF _ (Sp.itNo_mem (its := its.map Sp.topI) (by rw [hll]; exact hil))
        have hcn := hIt.cnt
        rw [Sp.checkF]; split
        · have := (Sp.stmsF_n (its.map Sp.topI) (Sp.itNo (its.map Sp.topI) i).label (-1) (Sp.itNo (its.map Sp.topI) i).body (Sp.parsF (Sp.itNo (its.map Sp.topI) i).params) 0 Sp.FW0).2.1
          have e : Sp.FW0.ds.length = 0 := rfl
          omega
        · exact Nat.zero_le _
      generalize Sp.checkF (its.map Sp.topI) i (-1) = r1 at hd htp hcnt
      generalize Sp.walkN its i = r2 at hlo htp
      repeat' (first
      | (refine m_call (d:=62) hm (hc:=hd) (k:=?_); clear hm; rintro _ I9 _ _ ⟨rfl, da, dp, rfl, hrd⟩ hle hm; have hleI9 := hle; try simp only [setn] at hm; have hpf9 := hpf8.le hleI9; have hpg9 := hpg8.le hleI9)
      | refine i_loadN hm (k:=?_)
      | refine op_move (k:=?_)
      | refine op_assign (k:=?_)
      | refine op_lss (k:=?_)
      | refine op_len_slice (k:=?_)
      | refine wl_nil ?_
      | refine at_then_normal ?_
      | refine wc_seq ?_
      | refine wc_region ?_
      | refine wc_block ?_
      | refine wc_skip ?_
      | (refine wc_cond_dec (ht:=fun _ => ?_) (hf:=fun _ => ?_)<;> (try first | contradiction | (exfalso; omega))))
      all_goals try (exfalso; omega)
      refine wc_loop (fun x : NI => [(3, ptr b3), (5, ptr b5), (9, nt i), (56, nt its.length), (57, nt i), (62, .slice da r1.ds.length dp), (63, nt r1.ds.length), (64, nt x.k)]) (fun x w' => Mem E x.I [] w' ∧ Le I9 x.I ∧ x.k ≤ r1.ds.length) (fun x => r1.ds.length - x.k) ⟨0, I9⟩
        (by exact ⟨rfl, rfl, rfl, rfl, rfl, rfl, rfl, rfl, trivial⟩) ⟨hm, Le.refl _, Nat.zero_le _⟩ ?_
      clear hm
      rintro ⟨j, Ia⟩ w4 ⟨hm, hlea, hj⟩
      dsimp only at hm hlea hj ⊢
      have hpfa := hpf9.le hlea
      have hrda := hrd.le hlea
      by_cases hjl : j < r1.ds.length
      · have hgd : r1.ds[((j : Nat) : Int).toNat]? = some r1.ds[j] := List.getElem?_eq_getElem hjl
        generalize r1.ds[j] = z at hgd
        have hne : r2.ds.length ≠ 0 := fun h => by
          have := htp (List.length_eq_zero_iff.1 h)
          rw [this] at hjl
          exact absurd hjl (Nat.not_lt_zero j)
        repeat' (first
        | (refine i_indexFlat (d:=66) (enc:=encDg) (z:=z) (hr:=hrda) (he:=fun _ => rfl) (hz:=hgd) (k:=?_); intro bt ot hpt)
        | (refine i_loadN (d:=67) hm (hp:=hpt) (k:=?_))
        | (refine i_loadN (d:=68) hm (hp:=hpfa) (k:=?_))
        | (refine m_call (d:=70) hm (hc:=hlo Ia (hleI9.trans hlea)) (k:=?_); clear hm; rintro _ Ib _ _ ⟨rfl, bc, da2, dp2, ua, up, rfl, hobj, hdr, hur⟩ hle hm; have hleIb := hle; try simp only [setn] at hm)
        | (refine m_varS (d:=11) hm (k:=?_); clear hm; intro b11 _ hm)
        | refine i_load1 hm (k:=?_)
        | refine op_move (k:=?_)
        | refine op_pick_false (k:=?_)
        | refine op_lss (k:=?_)
        | refine op_eql (k:=?_)
        | refine op_len_slice (k:=?_)
        | refine op_nilCheck (k:=?_)
        | refine op_add (k:=?_)
        | refine op_fieldAddr (k:=?_)
        | refine wl_skip (k:=?_)
        | (refine wl_split_dec (h1:=fun _ => ?_) (h0:=fun _ => ?_)<;> (try first | contradiction | (exfalso; omega)))
        | refine wl_nil ?_
        | refine at_then_normal ?_
        | refine at_block_normal ?_
        | refine wc_seq ?_
        | refine wc_region ?_
        | refine wc_block ?_
        | refine wc_skip ?_
        | refine wc_cond_false (hf:=?_)
        | (refine wc_cond_dec (ht:=fun _ => ?_) (hf:=fun _ => ?_)<;> (try first | contradiction | (exfalso; omega))))
        all_goals try (exfalso; first | omega | contradiction)
        exact at_round (⟨j + 1, Ib⟩ : NI) (by exact ⟨rfl, rfl, rfl, rfl, rfl, rfl, rfl, rfl, trivial⟩) ⟨hm.tl, hlea.trans hleIb, by dsimp only; omega⟩ (by dsimp only; omega)
      · obtain rfl : j = r1.ds.length := by omega
        repeat' (first
        | refine op_move (k:=?_)
        | refine op_lss (k:=?_)
        | refine op_add (k:=?_)
        | refine wl_nil ?_
        | refine at_then_normal ?_
        | refine at_then_exit ?_
        | refine at_block_normal ?_
        | refine at_block_exit ?_
        | refine wc_seq ?_
        | refine wc_region ?_
        | refine wc_exit ?_
        | (refine wc_cond_dec (ht:=fun _ => ?_) (hf:=fun _ => ?_)<;> (try first | contradiction | (exfalso; omega))))
        all_goals try (exfalso; omega)
        exact at_round (⟨i + 1, Ia⟩ : NI) (by exact ⟨rfl, rfl, rfl, rfl, trivial⟩) ⟨hm, (hle8.trans hleI9).trans hlea, by dsimp only; omega⟩ (by dsimp only; omega)
    · obtain rfl : i = its.length := by omega
      repeat' (first
      | refine op_assign (k:=?_)
      | refine op_lss (k:=?_)
      | refine wl_nil ?_
      | refine at_then_normal ?_
      | refine at_then_exit ?_
      | refine at_block_exit ?_
      | refine wc_seq ?_
      | refine wc_region ?_
      | refine wc_exit ?_
      | refine wc_ret ?_
      | refine at_ret1 (h:=?_)
      | (refine wc_cond_dec (ht:=fun _ => ?_) (hf:=fun _ => ?_)<;> (try first | contradiction | (exfalso; omega))))
      all_goals try (exfalso; omega)
      exact ⟨I8, [], ⟨rfl, rfl⟩, hm⟩
end Go.Proofs.YtkbiakajlfmakaaGreatDoor
end
