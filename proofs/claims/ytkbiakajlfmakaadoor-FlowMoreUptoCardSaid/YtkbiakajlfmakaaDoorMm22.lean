/- Own work: texts FlI, FlJ, LawFm, one behind the other. -/
import Derived.Test.YtkbiakajlfmakaaDoorMm21
section
namespace Go.Proofs.YtkbiakajlfmakaaDoor
open Go.Fw
section
variable {its : List Sp.Itm} {a : Option Addr} {cp : Nat} {xs : List Value}
set_option maxHeartbeats 16000000 in
theorem f_check (i : Nat) (hi : i < its.length) (at_ : Int) (bf : Nat) (I : Imm) (hfile : PtrI I bf 0 24 [.slice a its.length cp]) (h : FE I its a cp xs) (hlab : Sp.itLab its) (hF : ∀ x ∈ its, Sp.ItF x) :
    CalM Tryd.prog 91 #[ptr bf, nt i, .int .i64 at_] I [] (fun v _ H' => ∃ bc pi vf sc sa sp da dp, v = ptr bc ∧ H' = FSt bc bf pi sc sa sp (Sp.checkF its i at_) da dp vf at_) := by
  refine CalM.of fun w E hm => enter (N := 69) Tryd.func91 rfl [(0, ptr bf), (1, nt i), (2, .int .i64 at_)] args3 rfl ?_
  have hfew := h.few
  have hg := Sp.itNo_get hi
  obtain ⟨ci, hci, hat, hlc⟩ := h.get hg
  have hri := h.row
  have hmem := Sp.itNo_mem hi
  have hIt := hF _ hmem
  have hlb := hlab _ hmem
  have hck : Sp.checkF its i at_ = if (Sp.itNo its i).kind = 2 then (Sp.stmsF its (Sp.itNo its i).label at_ (Sp.itNo its i).body (Sp.parsF (Sp.itNo its i).params) 0 Sp.FW0).2 else Sp.FW0 := rfl
  generalize Sp.checkF its i at_ = fin at hck ⊢
  have hfl := fun (J : Imm) (m : Le I J) => f_floors (I := J) (h.le m) hlab (fun x hx => (hF x hx).small)
  generalize Sp.itNo its i = it at hg hat hmem hIt hlb hck
  have hat0 := hat
  obtain ⟨pa, pc, sa9, sc9, ba, bc9, da9, dc9, xb, rfl, hpar, hsnd, hrb, hbs, _⟩ := hat
  have hsp := hIt.small.params
  have hsb := hIt.small.body
  by_cases k2 : it.kind = 2
  case neg =>
    rw [if_neg k2] at hck
    subst hck
    repeat' (first
      | (refine wc_semi_memL (id := 1) (hm.perm pm0) [0,1,2,3,4,5,6,7,8,9,11] [10,12,13] 14 (by kernel_rfl) ?_; clear hm; intro wd hR hm)
      | (refine iw_indexAddr (d := 16) (by rfl) (by rfl) (by rfl) (by rfl) hri (by omega) (by omega) ?_; intro bt ot hpt; rw [show ((i : Int).toNat * 10) = i * 10 from rfl, hci] at hpt)
      | (refine iw_loadN (d := 19) hR (by rfl) (by rfl) (by rfl) hfile (by rfl) ?_)
      | (refine mt_call (d := 20) hm (by rfl) (by rfl) (by rfl) (by first | exact pm0 | exact pm1_0 | exact pm1_1 | exact pm1_2 | exact pm1_3 | exact pm2_0 | exact pm2_1 | exact pm2_2 | exact pm2_3 | exact pm2_4 | exact pm3_0 | exact pm3_1 | exact pm3_2) (hfl I (Le.refl _)) ?_; clear hm; rintro _ I2 _ _ ⟨rfl, fa, fp, rfl, hflr⟩ hle hm; have hleI2 := hle; try simp only [setn] at hm; have hpt2 := hpt.le hleI2)
      | (refine mt_box (d := 23) hm (by rfl) (by rfl) (by rfl) (by rfl) ?_; clear hm; intro bc _ hm)
      | refine iw_load1 hR (by rfl) (by rfl) (by rfl) (by assumption) (by rfl) ?_
      | refine mt_struct hm (by rfl) (by rfl) (by rfl) (by rfl) ?_
      | (refine ws_nil ?_; replace hm := hR.back hm; clear hR; try simp only [setn] at hm)
      | refine m_load1 hm (by rfl) (by rfl) (by rfl) (by first | exact gt0 | exact gt1 | exact gt2 | exact gt3 | exact gt4 | exact gt5 | exact gt6) (by rfl) ?_
      | refine i_load1 hm (by rfl) (by rfl) (by rfl) (by assumption) (by rfl) ?_
      | refine op_move (by rfl) (by rfl) (by rfl) ?_
      | refine op_assign (by rfl) (by rfl) (by rfl) ?_
      | refine op_eql (by rfl) (by rfl) (by rfl) (by rfl) ?_
      | refine op_nilCheck (by rfl) (by rfl) (by rfl) ?_
      | refine op_fieldAddr (by rfl) (by rfl) (by rfl) ?_
      | refine wl_nil ?_
      | refine at_then_normal ?_
      | refine wc_seq ?_
      | refine wc_region ?_
      | refine wc_skip ?_
      | refine wc_ret ?_
      | refine at_ret1 (by rfl) (by rfl) ?_
      | (refine wc_cond_dec (by rfl) (fun _ => ?_) (fun _ => ?_) <;> (try first | contradiction | (exfalso; omega)))
      | refine v_move (by rfl) (by rfl) (by rfl) ?_
      | refine v_nilCheck (by rfl) (by rfl) (by rfl) ?_
      | refine v_fieldAddr (by rfl) (by rfl) (by rfl) ?_
      | refine wv_nil ?_)
    all_goals try (exfalso; omega)
    exact ⟨I2, _, ⟨bc, _, _, [], none, 0, none, 0, rfl, rfl⟩, ((hm.nil 116 4).swap.nil 198 2).swap⟩
  rw [if_pos k2] at hck
  repeat' (first
    | (refine wc_semi_memL (id := 1) (hm.perm pm0) [0,1,2,3,4,5,6,7,8,9,11] [10,12,13] 14 (by kernel_rfl) ?_; clear hm; intro wd hR hm)
    | (refine iw_indexAddr (d := 16) (by rfl) (by rfl) (by rfl) (by rfl) hri (by omega) (by omega) ?_; intro bt ot hpt; rw [show ((i : Int).toNat * 10) = i * 10 from rfl, hci] at hpt)
    | (refine iw_loadN (d := 19) hR (by rfl) (by rfl) (by rfl) hfile (by rfl) ?_)
    | (refine mt_call (d := 20) hm (by rfl) (by rfl) (by rfl) (by first | exact pm0 | exact pm1_0 | exact pm1_1 | exact pm1_2 | exact pm1_3 | exact pm2_0 | exact pm2_1 | exact pm2_2 | exact pm2_3 | exact pm2_4 | exact pm3_0 | exact pm3_1 | exact pm3_2) (hfl I (Le.refl _)) ?_; clear hm; rintro _ I2 _ _ ⟨rfl, fa, fp, rfl, hflr⟩ hle hm; have hleI2 := hle; try simp only [setn] at hm; have hpt2 := hpt.le hleI2)
    | (refine mt_box (d := 23) hm (by rfl) (by rfl) (by rfl) (by rfl) ?_; clear hm; intro bc _ hm)
    | refine iw_load1 hR (by rfl) (by rfl) (by rfl) (by assumption) (by rfl) ?_
    | refine mt_struct hm (by rfl) (by rfl) (by rfl) (by rfl) ?_
    | (refine ws_nil ?_; replace hm := hR.back hm; clear hR; try simp only [setn] at hm)
    | refine m_load1 hm (by rfl) (by rfl) (by rfl) (by first | exact gt0 | exact gt1 | exact gt2 | exact gt3 | exact gt4 | exact gt5 | exact gt6) (by rfl) ?_
    | refine i_load1 hm (by rfl) (by rfl) (by rfl) (by assumption) (by rfl) ?_
    | refine op_move (by rfl) (by rfl) (by rfl) ?_
    | refine op_assign (by rfl) (by rfl) (by rfl) ?_
    | refine op_eql (by rfl) (by rfl) (by rfl) (by rfl) ?_
    | refine op_len_slice (by rfl) (by rfl) (by rfl) ?_
    | refine op_nilCheck (by rfl) (by rfl) (by rfl) ?_
    | refine op_fieldAddr (by rfl) (by rfl) (by rfl) ?_
    | refine wl_nil ?_
    | refine at_then_normal ?_
    | refine wc_seq ?_
    | refine wc_region ?_
    | refine wc_block ?_
    | (refine wc_cond_dec (by rfl) (fun _ => ?_) (fun _ => ?_) <;> (try first | contradiction | (exfalso; omega)))
    | refine v_move (by rfl) (by rfl) (by rfl) ?_
    | refine v_nilCheck (by rfl) (by rfl) (by rfl) ?_
    | refine v_fieldAddr (by rfl) (by rfl) (by rfl) ?_
    | refine wv_nil ?_)
  all_goals try (exfalso; omega)
  have hC2 : FC I2 its it bf a cp xs (.pointer (some ⟨bt, ot, none⟩)) (.slice fa its.length fp) := ⟨hfile.le hleI2, h.le hleI2, ⟨bt, ot, _, _, rfl, hpt2, hat0.le hleI2⟩, ⟨fa, fp, rfl, hflr⟩, hlab, hlb.1⟩
  have hpar2 := hpar.le hleI2
  refine wc_loop (fun x : FX => [(0, ptr bf), (1, nt i), (2, .int .i64 at_), (7, ptr bc), (38, .slice pa it.params.length pc), (39, nt it.params.length), (40, nt x.k)])
    (fun x w' => Mem E I2 (FSt bc bf (.pointer (some ⟨bt, ot, none⟩)) (Sp.parsF (it.params.take x.k)) x.sa x.sp Sp.FW0 none 0 (.slice fa its.length fp) at_) w' ∧ x.k ≤ it.params.length) (fun x => it.params.length - x.k) ⟨0, I2, none, 0, none, 0⟩
    (by exact ⟨rfl, rfl, rfl, rfl, rfl, rfl, rfl, trivial⟩) ⟨((hm.nil 116 4).swap.nil 198 2).swap, Nat.zero_le _⟩ ?_
  clear hm
  rintro ⟨k, _, sa1, sp1, _, _⟩ w1 ⟨hm, hk⟩
  dsimp only at hm hk ⊢
  by_cases hlt : k < it.params.length
  · have hgp : it.params[k]? = some it.params[k] := List.getElem?_eq_getElem hlt
    generalize it.params[k] = p at hgp
    have hst := Sp.parsF_take hgp
    have hpl : (Sp.parsF (it.params.take k)).length = k := by rw [Sp.parsF, List.length_map, List.length_take]; omega
    generalize Sp.parsF (it.params.take k) = sc at hm hst hpl
    repeat' (first
      | (refine i_indexFlat (d := 42) (enc := encPar) (z := p) (by rfl) (by rfl) (by rfl) (by rfl) hpar2 (fun _ => rfl) (by omega) (by omega) (by exact hgp) ?_; intro bz oz hpz)
      | (refine wc_semi_mem (id := 6) (hm.perm pm1_2) 10 12 (by kernel_rfl) ?_; clear hm; intro wd hR hm)
      | refine mw_load1 hR (by rfl) (by rfl) (by rfl) (by first | exact gt0 | exact gt1 | exact gt2 | exact gt3 | exact gt4 | exact gt5 | exact gt6) (by rfl) ?_
      | (refine mt_push (d := 55) hm (by rfl) (by rfl) (by rfl) (by rfl) (by rfl) (by first | exact gt0 | exact gt1 | exact gt2 | exact gt3 | exact gt4 | exact gt5 | exact gt6) (by rfl) (by rfl) (by rfl) (by rfl) (by omega) (by omega) ?_; clear hm; intro a55 cp55 _ _ hm; replace hm := hR.back hm; clear hR; try simp only [setn] at hm)
      | (refine m_varS (d := 9) hm (by rfl) (by rfl) (by rfl) (by rfl) (by rfl) ?_; clear hm; intro b9 _ hm)
      | refine i_loadN hm (by rfl) (by rfl) (by rfl) (by assumption) (by rfl) ?_
      | (refine m_store1 hm (by rfl) (by rfl) (by rfl) (by rfl) (by first | exact gt0 | exact gt1 | exact gt2 | exact gt3 | exact gt4 | exact gt5 | exact gt6) (by rfl) (by rfl) (by rfl) ?_; clear hm; intro _ hm; try simp only [setn] at hm)
      | refine op_move (by rfl) (by rfl) (by rfl) ?_
      | refine op_lss (by rfl) (by rfl) (by rfl) (by rfl) ?_
      | refine op_nilCheck (by rfl) (by rfl) (by rfl) ?_
      | refine op_add (by rfl) (by rfl) (by rfl) (by rfl) (by omega) ?_
      | refine op_fieldAddr (by rfl) (by rfl) (by rfl) ?_
      | refine wl_nil ?_
      | refine at_then_normal ?_
      | refine at_block_normal ?_
      | refine wc_seq ?_
      | refine wc_region ?_
      | refine wc_block ?_
      | refine wc_skip ?_
      | (refine wc_cond_dec (by rfl) (fun _ => ?_) (fun _ => ?_) <;> (try first | contradiction | (exfalso; omega)))
      | refine v_move (by rfl) (by rfl) (by rfl) ?_
      | refine v_nilCheck (by rfl) (by rfl) (by rfl) ?_
      | refine v_fieldAddr (by rfl) (by rfl) (by rfl) ?_
      | refine v_struct (by rfl) (by rfl) (by rfl) (by rfl) ?_
      | refine wv_nil ?_)
    all_goals try (exfalso; omega)
    refine at_round (⟨k + 1, I2, a55, cp55, none, 0⟩ : FX) (by exact ⟨rfl, rfl, rfl, rfl, rfl, rfl, rfl, trivial⟩) ⟨?_, by dsimp only; omega⟩ (by dsimp only; omega)
    dsimp only
    rw [hst, ← FSt_snoc]
    exact ((hm.front 1 rfl).tl).swap
  · obtain rfl : k = it.params.length := by omega
    rw [List.take_length] at hm
    have hsl := Sp.parsF_lab hlab hmem
    have hpl : (Sp.parsF it.params).length = it.params.length := by rw [Sp.parsF, List.length_map]
    have hcn := hIt.cnt
    have hblk := f_blk (its := its) (it := it) (bc := bc) (bf := bf) (a := a) (cp := cp) (xs := xs) (pi := .pointer (some ⟨bt, ot, none⟩)) (vf := .slice fa its.length fp) (at_ := at_) _ it.body (Nat.le_refl _) (by omega) hIt.small.stms hIt.body I2 ba bc9 xb 0 (Sp.parsF it.params) Sp.FW0 sa1 sp1 none 0 (by omega) hsl (by omega) (by simp [Sp.FW0]; omega) hC2 (hrb.le hleI2) (StsAt.le hleI2 _ _ hbs)
    rw [← hck] at hblk
    generalize Sp.parsF it.params = sc at hm hblk
    repeat' (first
      | (refine m_call (d := 67) hm (by rfl) (by rfl) (by rfl) (by first | exact pm0 | exact pm1_0 | exact pm1_1 | exact pm1_2 | exact pm1_3 | exact pm2_0 | exact pm2_1 | exact pm2_2 | exact pm2_3 | exact pm2_4 | exact pm3_0 | exact pm3_1 | exact pm3_2) (hblk) ?_; clear hm; rintro _ I3 _ _ ⟨rfl, sa3, sp3, da3, dp3, rfl⟩ hle hm; have hleI3 := hle; try simp only [setn] at hm)
      | refine m_load1 hm (by rfl) (by rfl) (by rfl) (by first | exact gt0 | exact gt1 | exact gt2 | exact gt3 | exact gt4 | exact gt5 | exact gt6) (by rfl) ?_
      | refine i_load1 hm (by rfl) (by rfl) (by rfl) (by assumption) (by rfl) ?_
      | refine op_move (by rfl) (by rfl) (by rfl) ?_
      | refine op_assign (by rfl) (by rfl) (by rfl) ?_
      | refine op_lss (by rfl) (by rfl) (by rfl) (by rfl) ?_
      | refine op_nilCheck (by rfl) (by rfl) (by rfl) ?_
      | refine op_fieldAddr (by rfl) (by rfl) (by rfl) ?_
      | refine wl_nil ?_
      | refine at_then_normal ?_
      | refine at_then_exit ?_
      | refine at_block_exit ?_
      | refine wc_seq ?_
      | refine wc_region ?_
      | refine wc_exit ?_
      | refine wc_ret ?_
      | refine at_ret1 (by rfl) (by rfl) ?_
      | (refine wc_cond_dec (by rfl) (fun _ => ?_) (fun _ => ?_) <;> (try first | contradiction | (exfalso; omega))))
    all_goals try (exfalso; omega)
    exact ⟨I3, _, ⟨bc, _, _, sc, sa3, sp3, da3, dp3, rfl, rfl⟩, hm⟩
theorem f_diags (i : Nat) (hi : i < its.length) (I : Imm) (h : FE I its a cp xs) (hlab : Sp.itLab its) (hF : ∀ x ∈ its, Sp.ItF x) :
    CalM Tryd.prog 59 #[.agg [.slice a its.length cp].toArray, nt i] I [] (fun v I' H' => H' = [] ∧ ∃ da dp, v = .slice da (Sp.checkF its i (-1)).ds.length dp ∧ RowI I' 116 4 (.slice da (Sp.checkF its i (-1)).ds.length dp) (Sp.checkF its i (-1)).ds.length ((Sp.checkF its i (-1)).ds.flatMap encDg)) := by
  refine CalM.of fun w E hm => enter (N := 19) Tryd.func59 rfl [(0, .agg [.slice a its.length cp].toArray), (1, nt i)] args2 rfl ?_
  have hfew := h.few
  repeat' (first
    | (refine m_box (d := 2) hm (by rfl) (by rfl) (by rfl) (by rfl) ?_; clear hm; intro b2 _ hm)
    | refine m_load1 hm (by rfl) (by rfl) (by rfl) (by first | exact gt0 | exact gt1 | exact gt2 | exact gt3 | exact gt4 | exact gt5 | exact gt6) (by rfl) ?_
    | refine op_move (by rfl) (by rfl) (by rfl) ?_
    | refine op_assign (by rfl) (by rfl) (by rfl) ?_
    | refine op_pick_false (by rfl) (by rfl) (by rfl) (by rfl) ?_
    | refine op_lss (by rfl) (by rfl) (by rfl) (by rfl) ?_
    | refine op_geq (by rfl) (by rfl) (by rfl) (by rfl) ?_
    | refine op_len_slice (by rfl) (by rfl) (by rfl) ?_
    | refine op_fieldAddr (by rfl) (by rfl) (by rfl) ?_
    | refine wl_nil ?_
    | refine at_then_normal ?_
    | refine wc_seq ?_
    | refine wc_region ?_
    | refine wc_skip ?_
    | (refine wc_cond_dec (by rfl) (fun _ => ?_) (fun _ => ?_) <;> (try first | contradiction | (exfalso; omega))))
  all_goals try (exfalso; omega)
  obtain ⟨I2, hle2, hm2, hpf⟩ := hm.freezeO
  clear hm
  have hm := hm2
  clear hm2
  have hck := f_check i hi (-1) b2 I2 hpf (h.le hle2) hlab hF
  generalize Sp.checkF its i (-1) = fin at hck ⊢
  repeat' (first
    | (refine m_call (d := 15) hm (by rfl) (by rfl) (by rfl) (by first | exact pm0 | exact pm1_0 | exact pm1_1 | exact pm1_2 | exact pm1_3 | exact pm2_0 | exact pm2_1 | exact pm2_2 | exact pm2_3 | exact pm2_4 | exact pm3_0 | exact pm3_1 | exact pm3_2) (hck) ?_; clear hm; rintro _ I3 _ _ ⟨bc, pi, vf, sc, sa, sp, da, dp, rfl, rfl⟩ hle hm; have hleI3 := hle; try simp only [setn] at hm)
    | refine m_load1 hm (by rfl) (by rfl) (by rfl) (by first | exact gt0 | exact gt1 | exact gt2 | exact gt3 | exact gt4 | exact gt5 | exact gt6) (by rfl) ?_
    | refine op_assign (by rfl) (by rfl) (by rfl) ?_
    | refine op_nilCheck (by rfl) (by rfl) (by rfl) ?_
    | refine op_fieldAddr (by rfl) (by rfl) (by rfl) ?_
    | refine wl_nil ?_
    | refine at_then_normal ?_
    | refine wc_ret ?_
    | refine at_ret1 (by rfl) (by rfl) ?_)
  all_goals try (exfalso; omega)
  obtain ⟨I4, hle4, hm4, hrow⟩ := (hm.front 2 rfl).freeze
  exact ⟨I4, [], ⟨rfl, da, dp, rfl, hrow⟩, hm4.left (H := [])⟩
theorem f_label (i : Nat) (hi : i < its.length) (at_ : Int) (h0 : 0 ≤ at_) (I : Imm) (h : FE I its a cp xs) (hlab : Sp.itLab its) (hF : ∀ x ∈ its, Sp.ItF x) :
    CalM Tryd.prog 58 #[.agg [.slice a its.length cp].toArray, nt i, .int .i64 at_] I [] (fun v _ H' => v = .tuple #[nt ((Sp.checkF its i at_).hv.getD 0), .bool (Sp.checkF its i at_).hv.isSome] ∧ H' = []) := by
  refine CalM.of fun w E hm => enter (N := 33) Tryd.func58 rfl [(0, .agg [.slice a its.length cp].toArray), (1, nt i), (2, .int .i64 at_)] args3 rfl ?_
  have hfew := h.few
  repeat' (first
    | (refine m_box (d := 3) hm (by rfl) (by rfl) (by rfl) (by rfl) ?_; clear hm; intro b3 _ hm)
    | refine m_load1 hm (by rfl) (by rfl) (by rfl) (by first | exact gt0 | exact gt1 | exact gt2 | exact gt3 | exact gt4 | exact gt5 | exact gt6) (by rfl) ?_
    | refine op_move (by rfl) (by rfl) (by rfl) ?_
    | refine op_assign (by rfl) (by rfl) (by rfl) ?_
    | refine op_pick_false (by rfl) (by rfl) (by rfl) (by rfl) ?_
    | refine op_lss (by rfl) (by rfl) (by rfl) (by rfl) ?_
    | refine op_geq (by rfl) (by rfl) (by rfl) (by rfl) ?_
    | refine op_len_slice (by rfl) (by rfl) (by rfl) ?_
    | refine op_fieldAddr (by rfl) (by rfl) (by rfl) ?_
    | (refine wl_split_dec (by rfl) (by rfl) (by rfl) (fun _ => ?_) (fun _ => ?_) <;> (try first | contradiction | (exfalso; omega)))
    | refine wl_nil ?_
    | refine at_then_normal ?_
    | refine wc_seq ?_
    | refine wc_region ?_
    | refine wc_skip ?_
    | (refine wc_cond_dec (by rfl) (fun _ => ?_) (fun _ => ?_) <;> (try first | contradiction | (exfalso; omega))))
  all_goals try (exfalso; omega)
  obtain ⟨I2, hle2, hm2, hpf⟩ := hm.freezeO
  clear hm
  have hm := hm2
  clear hm2
  have hck := f_check i hi at_ b3 I2 hpf (h.le hle2) hlab hF
  generalize Sp.checkF its i at_ = fin at hck ⊢
  repeat' (first
    | (refine m_call (d := 24) hm (by rfl) (by rfl) (by rfl) (by first | exact pm0 | exact pm1_0 | exact pm1_1 | exact pm1_2 | exact pm1_3 | exact pm2_0 | exact pm2_1 | exact pm2_2 | exact pm2_3 | exact pm2_4 | exact pm3_0 | exact pm3_1 | exact pm3_2) (hck) ?_; clear hm; rintro _ I3 _ _ ⟨bc, pi, vf, sc, sa, sp, da, dp, rfl, rfl⟩ hle hm; have hleI3 := hle; try simp only [setn] at hm)
    | refine mq_load1 hm (by rfl) (by rfl) (by rfl) (by first | exact gt0 | exact gt1 | exact gt2 | exact gt3 | exact gt4 | exact gt5 | exact gt6) (by rfl) ?_
    | refine op_assign (by rfl) (by rfl) (by rfl) ?_
    | refine wl_nil ?_
    | refine at_then_normal ?_
    | refine wc_seq ?_
    | refine wc_ret ?_
    | refine at_ret2 (by rfl) (by rfl) (by rfl) ?_
    | refine wc_quiet (by kernel_rfl) ?_
    | (refine wq_nil ?_; intro _ hkq; replace hm := hm.kept0 hkq; clear hkq)
    | refine q_move (by rfl) (by rfl) (by rfl) ?_
    | refine q_assign (by rfl) (by rfl) (by rfl) ?_
    | refine q_nilCheck (by rfl) (by rfl) (by rfl) ?_
    | refine q_fieldAddr (by rfl) (by rfl) (by rfl) ?_)
  all_goals try (exfalso; omega)
  exact ⟨I3, [], ⟨rfl, rfl⟩, hm.left (H := [])⟩
theorem f_sound (I : Imm) (h : FE I its a cp xs) (hlab : Sp.itLab its) (hF : ∀ x ∈ its, Sp.ItF x) :
    CalM Tryd.prog 29 #[.agg [.slice a its.length cp].toArray] I [] (fun v _ H' => H' = [] ∧ ∃ b, v = .bool b ∧ (b = true ↔ Sp.soundF its)) := by
  refine CalM.of fun w E hm => enter (N := 16) Tryd.func29 rfl [(0, .agg [.slice a its.length cp].toArray)] args1 rfl ?_
  have hfew := h.few
  repeat' (first
    | (refine m_box (d := 1) hm (by rfl) (by rfl) (by rfl) (by rfl) ?_; clear hm; intro b1 _ hm)
    | refine m_load1 hm (by rfl) (by rfl) (by rfl) (by first | exact gt0 | exact gt1 | exact gt2 | exact gt3 | exact gt4 | exact gt5 | exact gt6) (by rfl) ?_
    | refine op_move (by rfl) (by rfl) (by rfl) ?_
    | refine op_assign (by rfl) (by rfl) (by rfl) ?_
    | refine op_len_slice (by rfl) (by rfl) (by rfl) ?_
    | refine op_fieldAddr (by rfl) (by rfl) (by rfl) ?_
    | refine wl_nil ?_
    | refine at_then_normal ?_
    | refine wc_seq ?_
    | refine wc_region ?_
    | refine wc_block ?_)
  refine wc_loop (fun x : NI => [(1, ptr b1), (6, nt its.length), (7, nt x.k)]) (fun x w' => Mem E x.I [.cell b1 [.slice a its.length cp] 24] w' ∧ Le I x.I ∧ x.k ≤ its.length ∧ ∀ j, j < x.k → (Sp.checkF its j (-1)).ds = []) (fun x => its.length - x.k) ⟨0, I⟩
    (by exact ⟨rfl, rfl, rfl, trivial⟩) ⟨hm, Le.refl _, Nat.zero_le _, fun j hj => absurd hj (Nat.not_lt_zero j)⟩ ?_
  clear hm
  rintro ⟨k, I1⟩ w1 ⟨hm, hle1, hk, hno⟩
  dsimp only at hm hle1 hk hno ⊢
  by_cases hlt : k < its.length
  · have hd := f_diags k hlt I1 (h.le hle1) hlab hF
    obtain ⟨n, hn⟩ : ∃ n, n = (Sp.checkF its k (-1)).ds.length := ⟨_, rfl⟩
    rw [← hn] at hd
    by_cases h0 : n = 0
    · subst h0
      have h0' := List.length_eq_zero_iff.1 hn.symm
      repeat' (first
        | (refine m_call (d := 12) hm (by rfl) (by rfl) (by rfl) (by first | exact pm0 | exact pm1_0 | exact pm1_1 | exact pm1_2 | exact pm1_3 | exact pm2_0 | exact pm2_1 | exact pm2_2 | exact pm2_3 | exact pm2_4 | exact pm3_0 | exact pm3_1 | exact pm3_2) (hd) ?_; clear hm; rintro _ I2 _ _ ⟨rfl, da, dp, rfl, _⟩ hle hm; have hleI2 := hle; try simp only [setn] at hm)
        | refine m_loadAll hm (by rfl) (by rfl) (by rfl) (by first | exact gt0 | exact gt1 | exact gt2 | exact gt3 | exact gt4 | exact gt5 | exact gt6) (by rfl) ?_
        | refine op_move (by rfl) (by rfl) (by rfl) ?_
        | refine op_assign (by rfl) (by rfl) (by rfl) ?_
        | refine op_lss (by rfl) (by rfl) (by rfl) (by rfl) ?_
        | refine op_gtr (by rfl) (by rfl) (by rfl) (by rfl) ?_
        | refine op_len_slice (by rfl) (by rfl) (by rfl) ?_
        | refine op_add (by rfl) (by rfl) (by rfl) (by rfl) (by omega) ?_
        | refine wl_nil ?_
        | refine at_then_normal ?_
        | refine at_block_normal ?_
        | refine wc_seq ?_
        | refine wc_region ?_
        | refine wc_block ?_
        | refine wc_skip ?_
        | refine wc_cond_false (by rfl) ?_
        | (refine wc_cond_dec (by rfl) (fun _ => ?_) (fun _ => ?_) <;> (try first | contradiction | (exfalso; omega))))
      all_goals try (exfalso; omega)
      refine at_round (⟨k + 1, I2⟩ : NI) (by exact ⟨rfl, rfl, rfl, trivial⟩) ⟨hm, hle1.trans hleI2, by dsimp only; omega, fun j hj => ?_⟩ (by dsimp only; omega)
      rcases Nat.lt_or_ge j k with hjk | hjk
      · exact hno j hjk
      · obtain rfl : j = k := by dsimp only at hj; omega
        exact h0'
    · skip
      repeat' (first
        | (refine m_call (d := 12) hm (by rfl) (by rfl) (by rfl) (by first | exact pm0 | exact pm1_0 | exact pm1_1 | exact pm1_2 | exact pm1_3 | exact pm2_0 | exact pm2_1 | exact pm2_2 | exact pm2_3 | exact pm2_4 | exact pm3_0 | exact pm3_1 | exact pm3_2) (hd) ?_; clear hm; rintro _ I2 _ _ ⟨rfl, da, dp, rfl, _⟩ hle hm; have hleI2 := hle; try simp only [setn] at hm)
        | refine m_loadAll hm (by rfl) (by rfl) (by rfl) (by first | exact gt0 | exact gt1 | exact gt2 | exact gt3 | exact gt4 | exact gt5 | exact gt6) (by rfl) ?_
        | refine op_move (by rfl) (by rfl) (by rfl) ?_
        | refine op_assign (by rfl) (by rfl) (by rfl) ?_
        | refine op_lss (by rfl) (by rfl) (by rfl) (by rfl) ?_
        | refine op_gtr (by rfl) (by rfl) (by rfl) (by rfl) ?_
        | refine op_len_slice (by rfl) (by rfl) (by rfl) ?_
        | refine wl_nil ?_
        | refine at_then_normal ?_
        | refine at_then_ret ?_
        | refine at_block_ret ?_
        | refine wc_seq ?_
        | refine wc_region ?_
        | refine wc_block ?_
        | refine wc_skip ?_
        | refine wc_ret ?_
        | refine at_ret1 (by rfl) (by rfl) ?_
        | (refine wc_cond_dec (by rfl) (fun _ => ?_) (fun _ => ?_) <;> (try first | contradiction | (exfalso; omega))))
      all_goals try (exfalso; omega)
      refine ⟨I2, [], ⟨rfl, false, rfl, fun hf => (by cases hf), fun hs => ?_⟩, hm.left (H := [])⟩
      exfalso
      have := hs k hlt
      rw [this] at hn
      exact h0 hn
  · obtain rfl : k = its.length := by omega
    repeat' (first
      | refine op_assign (by rfl) (by rfl) (by rfl) ?_
      | refine op_lss (by rfl) (by rfl) (by rfl) (by rfl) ?_
      | refine wl_nil ?_
      | refine at_then_normal ?_
      | refine at_then_exit ?_
      | refine at_block_exit ?_
      | refine wc_seq ?_
      | refine wc_region ?_
      | refine wc_exit ?_
      | refine wc_ret ?_
      | refine at_ret1 (by rfl) (by rfl) ?_
      | (refine wc_cond_dec (by rfl) (fun _ => ?_) (fun _ => ?_) <;> (try first | contradiction | (exfalso; omega))))
    all_goals try (exfalso; omega)
    exact ⟨I1, [], ⟨rfl, true, rfl, fun _ => hno, fun _ => rfl⟩, hm.left (H := [])⟩
end
end Go.Proofs.YtkbiakajlfmakaaDoor
end
section
namespace Go.Sp
theorem item_itF (src : List UInt8) (at_ : Int) (h : src.length ≤ 1048576) : ItF (item src at_) ∧ (item src at_).label < 256 ∧ ∀ p ∈ (item src at_).params, p.label < 256 := by
  have hA := item_all (src := src) (p := anyP) (q := labS) (r := fun p => p.label < 256) (t := fun _ => True) at_ ⟨trivial, fun _ => trivial, fun _ _ _ _ => trivial, fun _ _ => trivial, fun _ _ _ _ _ => trivial, fun _ _ _ _ _ _ _ _ _ _ _ _ _ _ _ _ => trivial⟩
    ⟨by show 0 < 256; omega, fun _ _ lb _ _ h => Nat.lt_succ_of_le h, fun _ _ _ => (by show 0 < 256; omega), fun _ _ _ _ => (by show 0 < 256; omega), fun _ _ _ => (by show 0 < 256; omega)⟩ (fun _ lb h => Nat.lt_succ_of_le h) (fun _ => trivial)
  have hc := item_cnt src at_
  exact ⟨⟨item_small src at_ h, hA.body, by omega⟩, Nat.lt_succ_of_le hA.label, hA.params⟩
theorem file_itF (s : List UInt8) : (∀ x ∈ fileItems s, ItF x) ∧ itLab (fileItems s) := by
  have key : ∀ x ∈ fileItems s, ItF x ∧ x.label < 256 ∧ ∀ p ∈ x.params, p.label < 256 := by
    intro x hx
    by_cases h0 : fileErr s = 0
    · have hl : s.length ≤ 4000 := by
        rw [fileErr] at h0
        split at h0
        · cases h0
        · omega
      rw [fileItems, if_pos h0, items] at hx
      obtain ⟨j, _, rfl⟩ := List.mem_map.1 hx
      exact item_itF _ _ (by rw [piece, List.length_take, List.length_drop]; omega)
    · rw [fileItems, if_neg h0] at hx
      simp at hx
  exact ⟨fun x hx => (key x hx).1, fun x hx => (key x hx).2⟩
def flowT1 : List UInt8 := [99, 104, 97, 110, 32, 110, 101, 116, 58, 32, 123, 125, 59, 10, 102, 110, 32, 102, 40, 120, 58, 32, 123, 97, 125, 41, 58, 32, 123, 125, 32, 123, 32, 115, 101, 110, 100, 32, 110, 101, 116, 32, 120, 59, 32, 125]
def flowT2 : List UInt8 := [102, 110, 32, 102, 40, 120, 58, 32, 123, 97, 125, 41, 58, 32, 123, 97, 125, 32, 123, 32, 114, 101, 116, 117, 114, 110, 32, 120, 59, 32, 125]
theorem flow1_err : fileErr flowT1 = 0 := by decide +kernel
theorem flow2_err : fileErr flowT2 = 0 := by decide +kernel
theorem flow1_len : (fileItems flowT1).length = 2 := by decide +kernel
theorem flow2_len : (fileItems flowT2).length = 1 := by decide +kernel
theorem flow2_label : (checkF (fileItems flowT2) 0 27).hv = some 1 := by decide +kernel
theorem flow2_ds : (checkF (fileItems flowT2) 0 (-1)).ds.length = 0 := by decide +kernel
theorem flow1_ds : ((checkF (fileItems flowT1) 1 (-1)).ds.map (·.err)) = [9] := by decide +kernel
end Go.Sp
namespace Go.Proofs.YtkbiakajlfmakaaDoor
open Go.Fw
theorem fe_of {I : Imm} {its : List Sp.Itm} {a : Option Addr} {cp : Nat} {xs : List Value} (h1 : RowI I 33 10 (.slice a its.length cp) its.length xs) (h2 : ItsAt I its xs) (h3 : its.length ≤ 30) : FE I its a cp xs := ⟨h1, h2, by omega⟩
set_option maxHeartbeats 16000000 in
theorem f_alive (I : Imm) (hC : Conv I) : CalM Tryd.prog 27 #[] I [] (fun v _ H' => v = .bool true ∧ H' = []) := by
  refine CalM.of fun w E hm => enter (N := 73) Tryd.func27 rfl [] args0 rfl ?_
  have h1 := fun (J : Imm) (m : Le I J) => p_file Sp.flowT1 J (hC.le m) (by decide)
  have h2 := fun (J : Imm) (m : Le I J) => p_file Sp.flowT2 J (hC.le m) (by decide)
  rw [Sp.flow1_err] at h1
  rw [Sp.flow2_err] at h2
  obtain ⟨g1, g2⟩ := Sp.file_itF Sp.flowT1
  obtain ⟨k1, k2⟩ := Sp.file_itF Sp.flowT2
  have l1 := Sp.flow1_len
  have l2 := Sp.flow2_len
  have e1 := Sp.flow1_ds
  have e2 := Sp.flow2_ds
  have e3 := Sp.flow2_label
  generalize Sp.fileItems Sp.flowT1 = i1 at h1 g1 g2 l1 e1
  generalize Sp.fileItems Sp.flowT2 = i2 at h2 k1 k2 l2 e2 e3
  have hlab := fun (J : Imm) (a cp xs) (h : FE J i2 a cp xs) => f_label 0 (by omega) 27 (by decide) J h k2 k1
  rw [e3] at hlab
  have hdg := fun (J : Imm) (a cp xs) (h : FE J i1 a cp xs) => f_diags 1 (by omega) J h g2 g1
  have hs1 := fun (J : Imm) (a cp xs) (h : FE J i1 a cp xs) => f_sound J h g2 g1
  have hs2 := fun (J : Imm) (a cp xs) (h : FE J i2 a cp xs) => f_sound J h k2 k1
  have n1 : ¬ Sp.soundF i1 := fun h => by
    have := h 1 (by omega)
    rw [this] at e1
    cases e1
  have n2 : Sp.soundF i2 := fun j hj => by
    obtain rfl : j = 0 := by omega
    exact List.length_eq_zero_iff.1 e2
  have hfl := fun (J : Imm) (a cp xs) (h : FE J i1 a cp xs) => f_floors J h g2 (fun x hx => (g1 x hx).small)
  obtain ⟨d, hd1, hd2⟩ : ∃ d, (Sp.checkF i1 1 (-1)).ds = [d] ∧ d.err = 9 := by
    match h : (Sp.checkF i1 1 (-1)).ds, e1 with
    | [d], e1 => exact ⟨d, rfl, by simpa [h] using e1⟩
    | [], e1 => simp [h] at e1
    | _ :: _ :: _, e1 => simp [h] at e1
  rw [hd1] at hdg
  clear e1 e2 e3 hd1
  repeat' (first
    | (refine m_call (d := 9) hm (by rfl) (by rfl) (by rfl) (by first | exact pm0 | exact pm1_0 | exact pm1_1 | exact pm1_2 | exact pm1_3 | exact pm2_0 | exact pm2_1 | exact pm2_2 | exact pm2_3 | exact pm2_4 | exact pm3_0 | exact pm3_1 | exact pm3_2) (h1 I (Le.refl _)) ?_; clear hm; rintro _ I2 _ _ ⟨a1, c1, x1, rfl, hr1, ht1, rfl⟩ hle hm; have hleI2 := hle; try simp only [setn] at hm)
    | (refine m_call (d := 13) hm (by rfl) (by rfl) (by rfl) (by first | exact pm0 | exact pm1_0 | exact pm1_1 | exact pm1_2 | exact pm1_3 | exact pm2_0 | exact pm2_1 | exact pm2_2 | exact pm2_3 | exact pm2_4 | exact pm3_0 | exact pm3_1 | exact pm3_2) (h2 I2 hleI2) ?_; clear hm; rintro _ I3 _ _ ⟨a2, c2, x2, rfl, hr2, ht2, rfl⟩ hle hm; have hleI3 := hle; try simp only [setn] at hm; have q1 := (fe_of hr1 ht1 (by omega)).le hleI3; have q2 := fe_of hr2 ht2 (by omega))
    | (refine m_call (d := 36) hm (by rfl) (by rfl) (by rfl) (by first | exact pm0 | exact pm1_0 | exact pm1_1 | exact pm1_2 | exact pm1_3 | exact pm2_0 | exact pm2_1 | exact pm2_2 | exact pm2_3 | exact pm2_4 | exact pm3_0 | exact pm3_1 | exact pm3_2) (hlab I3 _ _ _ q2) ?_; clear hm; rintro _ I4 _ _ ⟨rfl, rfl⟩ hle hm; have hleI4 := hle; try simp only [setn] at hm)
    | (refine m_call (d := 40) hm (by rfl) (by rfl) (by rfl) (by first | exact pm0 | exact pm1_0 | exact pm1_1 | exact pm1_2 | exact pm1_3 | exact pm2_0 | exact pm2_1 | exact pm2_2 | exact pm2_3 | exact pm2_4 | exact pm3_0 | exact pm3_1 | exact pm3_2) (hdg I4 _ _ _ (q1.le hleI4)) ?_; clear hm; rintro _ I5 _ _ ⟨rfl, da, dp, rfl, hrd⟩ hle hm; have hleI5 := hle; try simp only [setn] at hm)
    | (refine i_indexFlat (d := 46) (enc := encDg) (z := d) (by rfl) (by rfl) (by rfl) (by rfl) hrd (fun _ => rfl) (by omega) (by simp) (by rfl) ?_; intro bz oz hpz; replace hpz : PtrI I5 bz oz 116 [nt d.fr, nt d.to, nt 9, str d.name] := by rw [← hd2]; exact hpz)
    | (refine m_call (d := 53) hm (by rfl) (by rfl) (by rfl) (by first | exact pm0 | exact pm1_0 | exact pm1_1 | exact pm1_2 | exact pm1_3 | exact pm2_0 | exact pm2_1 | exact pm2_2 | exact pm2_3 | exact pm2_4 | exact pm3_0 | exact pm3_1 | exact pm3_2) (hs2 I5 _ _ _ ((q2.le hleI4).le hleI5)) ?_; clear hm; rintro _ I6 _ _ ⟨rfl, sb2, rfl, hsb2⟩ hle hm; have hleI6 := hle; try simp only [setn] at hm; have := hsb2.2 n2; subst this)
    | (refine m_call (d := 57) hm (by rfl) (by rfl) (by rfl) (by first | exact pm0 | exact pm1_0 | exact pm1_1 | exact pm1_2 | exact pm1_3 | exact pm2_0 | exact pm2_1 | exact pm2_2 | exact pm2_3 | exact pm2_4 | exact pm3_0 | exact pm3_1 | exact pm3_2) (hs1 I6 _ _ _ (((q1.le hleI4).le hleI5).le hleI6)) ?_; clear hm; rintro _ I7 _ _ ⟨rfl, sb1, rfl, hsb1⟩ hle hm; have hleI7 := hle; try simp only [setn] at hm; have : sb1 = false := (by cases sb1; rfl; exact absurd (hsb1.1 rfl) n1); subst this)
    | (refine m_call (d := 69) hm (by rfl) (by rfl) (by rfl) (by first | exact pm0 | exact pm1_0 | exact pm1_1 | exact pm1_2 | exact pm1_3 | exact pm2_0 | exact pm2_1 | exact pm2_2 | exact pm2_3 | exact pm2_4 | exact pm3_0 | exact pm3_1 | exact pm3_2) (hfl I7 _ _ _ ((((q1.le hleI4).le hleI5).le hleI6).le hleI7)) ?_; clear hm; rintro _ I8 _ _ ⟨rfl, fa, fp, rfl, _⟩ hle hm; have hleI8 := hle; try simp only [setn] at hm)
    | (refine m_varS (d := 1) hm (by rfl) (by rfl) (by rfl) (by rfl) (by rfl) ?_; clear hm; intro b1 _ hm)
    | (refine m_varS (d := 3) hm (by rfl) (by rfl) (by rfl) (by rfl) (by rfl) ?_; clear hm; intro b3 _ hm)
    | refine m_load1 hm (by rfl) (by rfl) (by rfl) (by first | exact gt0 | exact gt1 | exact gt2 | exact gt3 | exact gt4 | exact gt5 | exact gt6) (by rfl) ?_
    | refine i_load1 hm (by rfl) (by rfl) (by rfl) (by assumption) (by rfl) ?_
    | refine m_loadAll hm (by rfl) (by rfl) (by rfl) (by first | exact gt0 | exact gt1 | exact gt2 | exact gt3 | exact gt4 | exact gt5 | exact gt6) (by rfl) ?_
    | refine op_move (by rfl) (by rfl) (by rfl) ?_
    | refine op_assign (by rfl) (by rfl) (by rfl) ?_
    | refine op_pick_true (by rfl) (by rfl) (by rfl) (by rfl) ?_
    | refine op_pick_false (by rfl) (by rfl) (by rfl) (by rfl) ?_
    | refine op_eql (by rfl) (by rfl) (by rfl) (by rfl) ?_
    | refine op_neq (by rfl) (by rfl) (by rfl) (by rfl) ?_
    | refine op_len_slice (by rfl) (by rfl) (by rfl) ?_
    | refine op_not (by rfl) (by rfl) (by rfl) ?_
    | refine op_extract (by rfl) (by rfl) (by rfl) (by rfl) ?_
    | refine op_fieldAddr (by rfl) (by rfl) (by rfl) ?_
    | (refine wl_split_dec (by rfl) (by rfl) (by rfl) (fun _ => ?_) (fun _ => ?_) <;> (try first | contradiction | (exfalso; omega)))
    | refine wl_nil ?_
    | refine at_then_normal ?_
    | refine wc_seq ?_
    | refine wc_region ?_
    | refine wc_skip ?_
    | refine wc_ret ?_
    | refine at_ret1 (by rfl) (by rfl) ?_
    | (refine wc_cond_dec (by rfl) (fun _ => ?_) (fun _ => ?_) <;> (try first | contradiction | (exfalso; omega))))
  all_goals try (exfalso; omega)
  exact ⟨I8, [], ⟨by rw [l1]; rfl, rfl⟩, hm.left (H := [])⟩
end Go.Proofs.YtkbiakajlfmakaaDoor
end
section
namespace Go.Sp
theorem small_label {it : Itm} (h : it.small) (m : Nat) : ({ it with label := m } : Itm).small := by
  constructor <;> first | exact h.params | exact h.sends | exact h.diags | exact h.body | exact h.stms
end Go.Sp
namespace Go.Proofs.YtkbiakajlfmakaaDoor
open Go.Fw
theorem its_set {I : Imm} (m : Nat) : ∀ {its : List Sp.Itm} {xs : List Value} {i : Nat}, ItsAt I its xs → i < its.length → ItsAt I (its.set i { Sp.itNo its i with label := m }) (xs.set (i * 10 + 2) (nt m))
  | [], xs, i, _, hi => by simp at hi
  | it :: its, xs, 0, ⟨c, r, e1, h1, h2⟩, _ => by
    obtain ⟨ap, cp, as_, cs', ab, cb, ad, cd, xb, rfl, r1, r2, r3, r4, r5⟩ := h1
    refine ⟨_, r, ?_, ⟨ap, cp, as_, cs', ab, cb, ad, cd, xb, rfl, r1, r2, r3, r4, r5⟩, h2⟩
    rw [e1]; rfl
  | it :: its, xs, i + 1, ⟨c, r, e1, h1, h2⟩, hi => by
    have hl := h1.len
    have h3 := its_set m h2 (show i < its.length by simpa using hi)
    refine ⟨c, _, ?_, h1, h3⟩
    rw [e1, List.set_append, if_neg (by omega), hl, show (i + 1) * 10 + 2 - 10 = i * 10 + 2 by omega]
theorem its_one {I : Imm} : ∀ {its : List Sp.Itm} {xs : List Value}, ItsAt I its xs → xs.all (·.oneCell') = true
  | [], xs, h => by obtain rfl : xs = [] := h; rfl
  | it :: its, xs, ⟨c, r, e1, h1, h2⟩ => by
    obtain ⟨ap, cp, as_, cs', ab, cb, ad, cd, xb, rfl, _⟩ := h1
    rw [e1, List.all_append, its_one h2, Bool.and_true]; rfl
theorem its_label {I : Imm} : ∀ {its : List Sp.Itm} {xs : List Value} {i : Nat}, ItsAt I its xs → i < its.length → xs[i * 10 + 2]? = some (nt (Sp.itNo its i).label)
  | [], xs, i, _, hi => by simp at hi
  | it :: its, xs, 0, ⟨c, r, e1, h1, h2⟩, _ => by
    obtain ⟨ap, cp, as_, cs', ab, cb, ad, cd, xb, rfl, _⟩ := h1
    rw [e1]; rfl
  | it :: its, xs, i + 1, ⟨c, r, e1, h1, h2⟩, hi => by
    have hl := h1.len
    have h3 := its_label h2 (show i < its.length by simpa using hi)
    rw [e1, List.getElem?_append_right (by omega), hl, show (i + 1) * 10 + 2 - 10 = i * 10 + 2 by omega, h3]; rfl
theorem joinR (I : Imm) (a b : Nat) (ha : a < 256) (hb : b < 256) : CalR Tryd.prog 31 #[nt a, nt b] I [] (nt (a ||| b)) :=
  ⟨fun w _ _ => (c_join a b ha hb w).mono (fun v w' ⟨h1, h2⟩ => ⟨h1, by rw [h2]; exact Kept.refl _ _⟩)⟩
set_option maxHeartbeats 16000000 in
theorem sp_fmore (s : List UInt8) (iv mv : Int) (hs : s.length ≤ 1048576) (I : Imm) (hC : Conv I) : CalM Tryd.prog 10 #[str s, .int .i64 iv, .int .i64 mv] I [] (fun v _ H' => v = .bool true ∧ H' = []) := by
  refine CalM.of fun w E hm => enter (N := 69) Tryd.func10 rfl [(0, str s), (1, .int .i64 iv), (2, .int .i64 mv)] args3 rfl ?_
  have hA := fun (I' : Imm) (m : Le I I') => f_alive I' (hC.le m)
  have hF := fun (I' : Imm) (m : Le I I') => p_file s I' (hC.le m) (by omega)
  obtain ⟨g1, g2⟩ := Sp.file_itF s
  have hfew := Sp.file_few s
  generalize Sp.fileErr s = er at hF
  generalize Sp.fileItems s = its at hF g1 g2 hfew
  by_cases h0 : er ≠ 0 ∨ iv < 0 ∨ iv ≥ its.length
  · skip
    repeat' (first
      | (refine m_call (d := 10) hm (by rfl) (by rfl) (by rfl) (by first | exact pm0 | exact pm1_0 | exact pm1_1 | exact pm1_2 | exact pm1_3 | exact pm2_0 | exact pm2_1 | exact pm2_2 | exact pm2_3 | exact pm2_4 | exact pm3_0 | exact pm3_1 | exact pm3_2) (hA _ (Le.refl _)) ?_; clear hm; rintro _ I2 _ _ ⟨rfl, rfl⟩ hle hm; have hleI2 := hle; try simp only [setn] at hm)
      | (refine m_call (d := 14) hm (by rfl) (by rfl) (by rfl) (by first | exact pm0 | exact pm1_0 | exact pm1_1 | exact pm1_2 | exact pm1_3 | exact pm2_0 | exact pm2_1 | exact pm2_2 | exact pm2_3 | exact pm2_4 | exact pm3_0 | exact pm3_1 | exact pm3_2) (hF _ hleI2) ?_; clear hm; rintro _ I3 _ _ ⟨a, cp, xs, rfl, hrow, hits, rfl⟩ hle hm; have hleI3 := hle; try simp only [setn] at hm)
      | (refine m_varS (d := 7) hm (by rfl) (by rfl) (by rfl) (by rfl) (by rfl) ?_; clear hm; intro b7 _ hm)
      | refine m_load1 hm (by rfl) (by rfl) (by rfl) (by first | exact gt0 | exact gt1 | exact gt2 | exact gt3 | exact gt4 | exact gt5 | exact gt6) (by rfl) ?_
      | refine op_move (by rfl) (by rfl) (by rfl) ?_
      | refine op_assign (by rfl) (by rfl) (by rfl) ?_
      | refine op_pick_true (by rfl) (by rfl) (by rfl) (by rfl) ?_
      | refine op_pick_false (by rfl) (by rfl) (by rfl) (by rfl) ?_
      | refine op_lss (by rfl) (by rfl) (by rfl) (by rfl) ?_
      | refine op_geq (by rfl) (by rfl) (by rfl) (by rfl) ?_
      | refine op_neq (by rfl) (by rfl) (by rfl) (by rfl) ?_
      | refine op_len_slice (by rfl) (by rfl) (by rfl) ?_
      | refine op_not (by rfl) (by rfl) (by rfl) ?_
      | refine op_extract (by rfl) (by rfl) (by rfl) (by rfl) ?_
      | refine op_fieldAddr (by rfl) (by rfl) (by rfl) ?_
      | refine wl_skip (by rfl) (by rfl) (by rfl) ?_
      | (refine wl_split_dec (by rfl) (by rfl) (by rfl) (fun _ => ?_) (fun _ => ?_) <;> (try first | contradiction | (exfalso; omega)))
      | refine wl_nil ?_
      | refine at_then_normal ?_
      | refine at_then_ret ?_
      | refine wc_seq ?_
      | refine wc_region ?_
      | refine wc_skip ?_
      | refine wc_ret ?_
      | refine at_ret1 (by rfl) (by rfl) ?_
      | refine wc_cond_true (by rfl) ?_
      | refine wc_cond_false (by rfl) ?_)
    all_goals try (exfalso; omega)
    all_goals exact ⟨I3, [], ⟨rfl, rfl⟩, hm.left (H := [])⟩
  obtain rfl : er = 0 := by omega
  obtain ⟨i, rfl⟩ := Int.eq_ofNat_of_zero_le (show 0 ≤ iv by omega)
  have hi : i < its.length := by omega
  have hR := c_right mv
  by_cases hr : 0 ≤ mv ∧ mv ≤ 255
  case neg =>
    rw [decide_eq_false hr] at hR
    repeat' (first
      | (refine m_call (d := 10) hm (by rfl) (by rfl) (by rfl) (by first | exact pm0 | exact pm1_0 | exact pm1_1 | exact pm1_2 | exact pm1_3 | exact pm2_0 | exact pm2_1 | exact pm2_2 | exact pm2_3 | exact pm2_4 | exact pm3_0 | exact pm3_1 | exact pm3_2) (hA _ (Le.refl _)) ?_; clear hm; rintro _ I2 _ _ ⟨rfl, rfl⟩ hle hm; have hleI2 := hle; try simp only [setn] at hm)
      | (refine m_call (d := 14) hm (by rfl) (by rfl) (by rfl) (by first | exact pm0 | exact pm1_0 | exact pm1_1 | exact pm1_2 | exact pm1_3 | exact pm2_0 | exact pm2_1 | exact pm2_2 | exact pm2_3 | exact pm2_4 | exact pm3_0 | exact pm3_1 | exact pm3_2) (hF _ hleI2) ?_; clear hm; rintro _ I3 _ _ ⟨a, cp, xs, rfl, hrow, hits, rfl⟩ hle hm; have hleI3 := hle; try simp only [setn] at hm)
      | (refine op_call (d := 32) (by rfl) (by rfl) (by rfl) (by exact hR _) ?_; rintro _ _ ⟨rfl, rfl⟩)
      | (refine m_varS (d := 7) hm (by rfl) (by rfl) (by rfl) (by rfl) (by rfl) ?_; clear hm; intro b7 _ hm)
      | refine m_load1 hm (by rfl) (by rfl) (by rfl) (by first | exact gt0 | exact gt1 | exact gt2 | exact gt3 | exact gt4 | exact gt5 | exact gt6) (by rfl) ?_
      | refine op_move (by rfl) (by rfl) (by rfl) ?_
      | refine op_assign (by rfl) (by rfl) (by rfl) ?_
      | refine op_pick_true (by rfl) (by rfl) (by rfl) (by rfl) ?_
      | refine op_pick_false (by rfl) (by rfl) (by rfl) (by rfl) ?_
      | refine op_lss (by rfl) (by rfl) (by rfl) (by rfl) ?_
      | refine op_geq (by rfl) (by rfl) (by rfl) (by rfl) ?_
      | refine op_neq (by rfl) (by rfl) (by rfl) (by rfl) ?_
      | refine op_len_slice (by rfl) (by rfl) (by rfl) ?_
      | refine op_not (by rfl) (by rfl) (by rfl) ?_
      | refine op_extract (by rfl) (by rfl) (by rfl) (by rfl) ?_
      | refine op_fieldAddr (by rfl) (by rfl) (by rfl) ?_
      | refine wl_skip (by rfl) (by rfl) (by rfl) ?_
      | (refine wl_split_dec (by rfl) (by rfl) (by rfl) (fun _ => ?_) (fun _ => ?_) <;> (try first | contradiction | (exfalso; omega)))
      | refine wl_nil ?_
      | refine at_then_normal ?_
      | refine at_then_ret ?_
      | refine wc_seq ?_
      | refine wc_region ?_
      | refine wc_skip ?_
      | refine wc_ret ?_
      | refine at_ret1 (by rfl) (by rfl) ?_
      | refine wc_cond_true (by rfl) ?_
      | refine wc_cond_false (by rfl) ?_)
    all_goals try (exfalso; omega)
    all_goals exact ⟨I3, [], ⟨rfl, rfl⟩, hm.left (H := [])⟩
  rw [decide_eq_true hr] at hR
  obtain ⟨m, rfl⟩ := Int.eq_ofNat_of_zero_le hr.1
  have hm8 : m < 256 := by omega
  have hg := Sp.itNo_get hi
  have hup := fun hk => Sp.up_set hi hk m
  by_cases hk : (Sp.itNo its i).kind = 1
  case neg =>
    have hcell := fun (J : Imm) (a cp xs) (h : FE J its a cp xs) => h.get hg
    repeat' (first
      | (refine m_call (d := 10) hm (by rfl) (by rfl) (by rfl) (by first | exact pm0 | exact pm1_0 | exact pm1_1 | exact pm1_2 | exact pm1_3 | exact pm2_0 | exact pm2_1 | exact pm2_2 | exact pm2_3 | exact pm2_4 | exact pm3_0 | exact pm3_1 | exact pm3_2) (hA _ (Le.refl _)) ?_; clear hm; rintro _ I2 _ _ ⟨rfl, rfl⟩ hle hm; have hleI2 := hle; try simp only [setn] at hm)
      | (refine m_call (d := 14) hm (by rfl) (by rfl) (by rfl) (by first | exact pm0 | exact pm1_0 | exact pm1_1 | exact pm1_2 | exact pm1_3 | exact pm2_0 | exact pm2_1 | exact pm2_2 | exact pm2_3 | exact pm2_4 | exact pm3_0 | exact pm3_1 | exact pm3_2) (hF _ hleI2) ?_; clear hm; rintro _ I3 _ _ ⟨a, cp, xs, rfl, hrow, hits, rfl⟩ hle hm; have hleI3 := hle; try simp only [setn] at hm; obtain ⟨ci, hci, ⟨pa, pc, sa9, sc9, ba, bc9, da9, dc9, xb, rfl, _⟩, _⟩ := hcell I3 a cp xs (fe_of hrow hits (by omega)))
      | (refine op_call (d := 32) (by rfl) (by rfl) (by rfl) (by exact hR _) ?_; rintro _ _ ⟨rfl, rfl⟩)
      | (refine i_indexAddr (d := 39) (by rfl) (by rfl) (by rfl) (by rfl) hrow (by omega) (by omega) ?_; intro bt ot hpt; rw [show ((i : Int).toNat * 10) = i * 10 from rfl, hci] at hpt)
      | (refine m_varS (d := 7) hm (by rfl) (by rfl) (by rfl) (by rfl) (by rfl) ?_; clear hm; intro b7 _ hm)
      | refine m_load1 hm (by rfl) (by rfl) (by rfl) (by first | exact gt0 | exact gt1 | exact gt2 | exact gt3 | exact gt4 | exact gt5 | exact gt6) (by rfl) ?_
      | refine i_load1 hm (by rfl) (by rfl) (by rfl) (by assumption) (by rfl) ?_
      | refine op_move (by rfl) (by rfl) (by rfl) ?_
      | refine op_assign (by rfl) (by rfl) (by rfl) ?_
      | refine op_pick_true (by rfl) (by rfl) (by rfl) (by rfl) ?_
      | refine op_pick_false (by rfl) (by rfl) (by rfl) (by rfl) ?_
      | refine op_lss (by rfl) (by rfl) (by rfl) (by rfl) ?_
      | refine op_geq (by rfl) (by rfl) (by rfl) (by rfl) ?_
      | refine op_neq (by rfl) (by rfl) (by rfl) (by rfl) ?_
      | refine op_len_slice (by rfl) (by rfl) (by rfl) ?_
      | refine op_not (by rfl) (by rfl) (by rfl) ?_
      | refine op_extract (by rfl) (by rfl) (by rfl) (by rfl) ?_
      | refine op_fieldAddr (by rfl) (by rfl) (by rfl) ?_
      | refine wl_skip (by rfl) (by rfl) (by rfl) ?_
      | (refine wl_split_dec (by rfl) (by rfl) (by rfl) (fun _ => ?_) (fun _ => ?_) <;> (try first | contradiction | (exfalso; omega)))
      | refine wl_nil ?_
      | refine at_then_normal ?_
      | refine at_then_ret ?_
      | refine wc_seq ?_
      | refine wc_region ?_
      | refine wc_skip ?_
      | refine wc_ret ?_
      | refine at_ret1 (by rfl) (by rfl) ?_
      | refine wc_cond_true (by rfl) ?_
      | refine wc_cond_false (by rfl) ?_)
    all_goals try (exfalso; omega)
    all_goals exact ⟨I3, [], ⟨rfl, rfl⟩, hm.left (H := [])⟩
  have hcell := fun (J : Imm) (a cp xs) (h : FE J its a cp xs) => h.get hg
  have hsd := fun (J : Imm) (a cp xs) (h : FE J its a cp xs) => f_sound J h g2 g1
  repeat' (first
    | (refine m_call (d := 10) hm (by rfl) (by rfl) (by rfl) (by first | exact pm0 | exact pm1_0 | exact pm1_1 | exact pm1_2 | exact pm1_3 | exact pm2_0 | exact pm2_1 | exact pm2_2 | exact pm2_3 | exact pm2_4 | exact pm3_0 | exact pm3_1 | exact pm3_2) (hA _ (Le.refl _)) ?_; clear hm; rintro _ I2 _ _ ⟨rfl, rfl⟩ hle hm; have hleI2 := hle; try simp only [setn] at hm)
    | (refine m_call (d := 14) hm (by rfl) (by rfl) (by rfl) (by first | exact pm0 | exact pm1_0 | exact pm1_1 | exact pm1_2 | exact pm1_3 | exact pm2_0 | exact pm2_1 | exact pm2_2 | exact pm2_3 | exact pm2_4 | exact pm3_0 | exact pm3_1 | exact pm3_2) (hF _ hleI2) ?_; clear hm; rintro _ I3 _ _ ⟨a, cp, xs, rfl, hrow, hits, rfl⟩ hle hm; have hleI3 := hle; try simp only [setn] at hm; obtain ⟨ci, hci, ⟨pa, pc, sa9, sc9, ba, bc9, da9, dc9, xb, rfl, _⟩, _⟩ := hcell I3 a cp xs (fe_of hrow hits (by omega)))
    | (refine op_call (d := 32) (by rfl) (by rfl) (by rfl) (by exact hR _) ?_; rintro _ _ ⟨rfl, rfl⟩)
    | (refine i_indexAddr (d := 39) (by rfl) (by rfl) (by rfl) (by rfl) hrow (by omega) (by omega) ?_; intro bt ot hpt; rw [show ((i : Int).toNat * 10) = i * 10 from rfl, hci] at hpt)
    | (refine m_call (d := 46) hm (by rfl) (by rfl) (by rfl) (by first | exact pm0 | exact pm1_0 | exact pm1_1 | exact pm1_2 | exact pm1_3 | exact pm2_0 | exact pm2_1 | exact pm2_2 | exact pm2_3 | exact pm2_4 | exact pm3_0 | exact pm3_1 | exact pm3_2) (hsd I3 _ _ _ (fe_of hrow hits (by omega))) ?_; clear hm; rintro _ I4 _ _ ⟨rfl, b1, rfl, hb1⟩ hle hm; have hleI4 := hle; try simp only [setn] at hm; cases b1)
    | (refine m_buildRow (d := 49) hm (by rfl) (by rfl) (by rfl) (by rfl) (by rfl) (by rfl) (by rfl) (by rfl) (by rfl) ?_; clear hm; intro bb _ hm)
    | (refine m_varS (d := 7) hm (by rfl) (by rfl) (by rfl) (by rfl) (by rfl) ?_; clear hm; intro b7 _ hm)
    | refine m_load1 hm (by rfl) (by rfl) (by rfl) (by first | exact gt0 | exact gt1 | exact gt2 | exact gt3 | exact gt4 | exact gt5 | exact gt6) (by rfl) ?_
    | refine i_load1 hm (by rfl) (by rfl) (by rfl) (by assumption) (by rfl) ?_
    | refine m_loadAll hm (by rfl) (by rfl) (by rfl) (by first | exact gt0 | exact gt1 | exact gt2 | exact gt3 | exact gt4 | exact gt5 | exact gt6) (by rfl) ?_
    | refine op_move (by rfl) (by rfl) (by rfl) ?_
    | refine op_assign (by rfl) (by rfl) (by rfl) ?_
    | refine op_pick_false (by rfl) (by rfl) (by rfl) (by rfl) ?_
    | refine op_lss (by rfl) (by rfl) (by rfl) (by rfl) ?_
    | refine op_geq (by rfl) (by rfl) (by rfl) (by rfl) ?_
    | refine op_neq (by rfl) (by rfl) (by rfl) (by rfl) ?_
    | refine op_len_slice (by rfl) (by rfl) (by rfl) ?_
    | refine op_not (by rfl) (by rfl) (by rfl) ?_
    | refine op_extract (by rfl) (by rfl) (by rfl) (by rfl) ?_
    | refine op_fieldAddr (by rfl) (by rfl) (by rfl) ?_
    | (refine wl_split_dec (by rfl) (by rfl) (by rfl) (fun _ => ?_) (fun _ => ?_) <;> (try first | contradiction | (exfalso; omega)))
    | refine wl_nil ?_
    | refine at_then_normal ?_
    | refine at_then_ret ?_
    | refine wc_seq ?_
    | refine wc_region ?_
    | refine wc_skip ?_
    | refine wc_ret ?_
    | refine at_ret1 (by rfl) (by rfl) ?_
    | refine wc_cond_true (by rfl) ?_
    | refine wc_cond_false (by rfl) ?_)
  all_goals try (exfalso; omega)
  all_goals first
    | exact ⟨I4, [], ⟨rfl, rfl⟩, hm.left (H := [])⟩
    | skip
  have hsound := hb1.1 rfl
  have hlab := (g2 _ (Sp.itNo_mem hi)).1
  have hxl := hits.len
  have hone := its_one hits
  have hl2 := its_label hits hi
  have hset := its_set ((Sp.itNo its i).label ||| m) hits hi
  have hups := (hup hk).sound hsound
  generalize hits' : its.set i { Sp.itNo its i with label := (Sp.itNo its i).label ||| m } = its' at hset hups
  have hlen' : its'.length = its.length := by rw [← hits']; simp
  have g1' : ∀ x ∈ its', Sp.ItF x := fun x hx => by
    rw [← hits'] at hx
    rcases List.mem_or_eq_of_mem_set hx with hx | rfl
    · exact g1 x hx
    · have := g1 _ (Sp.itNo_mem hi)
      exact ⟨Sp.small_label this.small _, this.body, this.cnt⟩
  have g2' : Sp.itLab its' := fun x hx => by
    rw [← hits'] at hx
    rcases List.mem_or_eq_of_mem_set hx with hx | rfl
    · exact g2 x hx
    · exact ⟨Sp.or_lt hlab hm8, (g2 _ (Sp.itNo_mem hi)).2⟩
  cases a with
  | none =>
    exfalso
    have := hrow.none
    omega
  | some ad =>
  have hrow4 := hrow.le hleI4
  repeat' (first
    | refine wc_hold 7 ?_
    | (refine m_appendR (d := 52) hm (by rfl) (by rfl) (by rfl) (by rfl) (by first | exact gt0 | exact gt1 | exact gt2 | exact gt3 | exact gt4 | exact gt5 | exact gt6) hrow4 hone (by omega) (by omega) ?_; clear hm; intro a2 cp2 _ hm; try simp only [setn] at hm)
    | (refine m_varS (d := 9) hm (by rfl) (by rfl) (by rfl) (by rfl) (by rfl) ?_; clear hm; intro b9 _ hm)
    | refine op_struct (by rfl) (by rfl) (by rfl) (by rfl) ?_
    | refine wl_nil ?_
    | refine at_then_normal ?_
    | refine wc_seq ?_)
  refine ⟨?_⟩
  simp only [Nat.zero_add, List.nil_append] at hm ⊢
  obtain ⟨gb, cap, cur, hv, hm2, hc, hcm, hsz, ht⟩ := (hm.front 1 rfl).openRow (by omega)
  obtain ⟨rfl, _, rfl⟩ := Value.slice.inj hv
  clear hm hv
  obtain ⟨cL, rfl⟩ : ∃ cL : List Value, cur = cL.toArray := ⟨cur.toList, by simp⟩
  have hm := hm2
  clear hm2
  have hsz' : cL.length = cp2 * 10 := by simpa using hsz
  have ht' : cL.take (its.length * 10) = xs := by simpa using ht
  have hin : i * 10 + 2 < its.length * 10 := by omega
  have hcn : its.length * 10 ≤ cp2 * 10 := Nat.mul_le_mul_right _ hc
  have hoff : 0 + (i : Int).toNat * 10 + 2 = i * 10 + 2 := by rw [Int.toNat_natCast]; omega
  have hcl : cL[0 + (i : Int).toNat * 10 + 2]? = some (nt (Sp.itNo its i).label) := by
    rw [hoff, ← hl2, ← ht', List.getElem?_take_of_lt hin]
  have hbl : Nat.blt (0 + (i : Int).toNat * 10 + 2) cL.length = true := by rw [hoff, Nat.blt_eq]; omega
  have hjr := joinR I4 (Sp.itNo its i).label m hlab hm8
  repeat' (first
    | (refine wc_quiet_tail (id := 7) 11 (by kernel_rfl) ?_)
    | (refine mq_load1 (d := 62) hm (by rfl) (by rfl) (by rfl) (by first | exact gt0 | exact gt1 | exact gt2 | exact gt3 | exact gt4 | exact gt5 | exact gt6) (by exact hcl) ?_)
    | (refine mq_readC (d := 64) hm (by rfl) (by rfl) (by rfl) (by first | exact sub_nil | exact sub1_0 | exact sub1_1 | exact sub1_2 | exact sub1_3 | exact sub2_0 | exact sub2_1 | exact sub2_2 | exact sub2_3 | exact sub2_4) (hjr) ?_)
    | (refine m_store1 hm (by rfl) (by rfl) (by rfl) (by rfl) (by first | exact gt0 | exact gt1 | exact gt2 | exact gt3 | exact gt4 | exact gt5 | exact gt6) (by rfl) (by exact hbl) (by rfl) ?_; clear hm; intro _ hm; try simp only [setn] at hm)
    | refine m_loadAll hm (by rfl) (by rfl) (by rfl) (by first | exact gt0 | exact gt1 | exact gt2 | exact gt3 | exact gt4 | exact gt5 | exact gt6) (by rfl) ?_
    | refine mq_load1 hm (by rfl) (by rfl) (by rfl) (by first | exact gt0 | exact gt1 | exact gt2 | exact gt3 | exact gt4 | exact gt5 | exact gt6) (by rfl) ?_
    | refine op_fieldAddr (by rfl) (by rfl) (by rfl) ?_
    | refine op_indexAddr (by rfl) (by rfl) (by rfl) (by rfl) (by omega) (by omega) ?_
    | refine wl_nil ?_
    | refine at_then_normal ?_
    | refine wc_seq ?_
    | refine wc_region ?_
    | (refine wq_nil_tail ?_; intro _ hkq; replace hm := hm.kept0 hkq; clear hkq)
    | refine q_move (by rfl) (by rfl) (by rfl) ?_
    | refine q_fieldAddr (by rfl) (by rfl) (by rfl) ?_
    | refine q_indexAddr (by rfl) (by rfl) (by rfl) (by rfl) (by omega) (by omega) ?_)
  all_goals try (exfalso; omega)
  rw [hoff] at hm
  have htt : (cL.set (i * 10 + 2) (nt ((Sp.itNo its i).label ||| m))).take (its.length * 10) = xs.set (i * 10 + 2) (nt ((Sp.itNo its i).label ||| m)) := by
    rw [← ht', List.take_set]
  obtain ⟨I5, hle5, hm5, hrow5⟩ := ((hm.front 0 rfl).shutRow (n := its.length) (cap := cp2) (sz := 10) (xs := xs.set (i * 10 + 2) (nt ((Sp.itNo its i).label ||| m))) hc hcm (by simpa using hsz') (by simpa using htt)).freeze
  clear hm
  have hm := hm5
  clear hm5
  rw [← hlen'] at hrow5
  have hsn := f_sound I5 ⟨hrow5, (hset.le hleI4).le hle5, by omega⟩ g2' g1'
  rw [hlen'] at hsn
  repeat' (first
    | (refine m_call (d := 68) hm (by rfl) (by rfl) (by rfl) (by first | exact pm0 | exact pm1_0 | exact pm1_1 | exact pm1_2 | exact pm1_3 | exact pm2_0 | exact pm2_1 | exact pm2_2 | exact pm2_3 | exact pm2_4 | exact pm3_0 | exact pm3_1 | exact pm3_2) (hsn) ?_; clear hm; rintro _ I6 _ _ ⟨rfl, b2, rfl, hb2⟩ hle hm; have hleI6 := hle; try simp only [setn] at hm; have := hb2.2 hups; subst this)
    | refine op_assign (by rfl) (by rfl) (by rfl) ?_
    | refine wl_nil ?_
    | refine at_then_normal ?_
    | refine wc_ret ?_
    | refine at_ret1 (by rfl) (by rfl) ?_)
  all_goals try (exfalso; omega)
  exact ⟨I6, [], ⟨rfl, rfl⟩, hm.left (H := [])⟩
end Go.Proofs.YtkbiakajlfmakaaDoor
end
