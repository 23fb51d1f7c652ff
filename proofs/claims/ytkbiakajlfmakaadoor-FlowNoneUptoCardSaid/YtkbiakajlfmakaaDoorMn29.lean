/- Own work: texts FlJ, one behind the other. -/
import Derived.Test.YtkbiakajlfmakaaDoorMn28
section
namespace Go.Sp
theorem item_itF (src : List UInt8) (at_ : Int) (h : src.length ≤ 1048576) : ItF (item src at_) ∧ (item src at_).label < 256 ∧ ∀ p ∈ (item src at_).params, p.label < 256 := by
  have hA := item_all (src := src) (p := anyP) (q := labS) (r := fun p => p.label < 256) (t := fun _ => True) at_ ⟨trivial, fun _ => trivial, fun _ _ _ _ => trivial, fun _ _ => trivial, fun _ _ _ _ _ => trivial, fun _ _ _ _ _ _ _ _ _ _ _ _ _ _ _ _ => trivial⟩
    ⟨by show 0 < 256; omega, fun _ _ lb _ _ h => Nat.lt_succ_of_le h, fun _ _ _ => (by show 0 < 256; omega), fun _ _ _ _ => (by show 0 < 256; omega), fun _ _ _ => (by show 0 < 256; omega)⟩ (fun _ lb h => Nat.lt_succ_of_le h) (fun _ => trivial)
  have hc := item_cnt src at_
  exact ⟨⟨item_small src at_ h, hA.body, by omega⟩, Nat.lt_succ_of_le hA.label, hA.params⟩
theorem file_itF (s : List UInt8) : (∀ x ∈ fileItems s, ItF x) ∧ itLab (fileItems s) := by
  have key : ∀ x ∈ fileItems s, ItF x ∧ x.label < 256 ∧ ∀ p ∈ x.params, p.label < 256 := by
    intro x hx
    by_cases h0 : fileErr s = 0
    · have hl : s.length ≤ 4000 := by
        rw [fileErr] at h0
        split at h0
        · cases h0
        · omega
      rw [fileItems, if_pos h0, items] at hx
      obtain ⟨j, _, rfl⟩ := List.mem_map.1 hx
      exact item_itF _ _ (by rw [piece, List.length_take, List.length_drop]; omega)
    · rw [fileItems, if_neg h0] at hx
      simp at hx
  exact ⟨fun x hx => (key x hx).1, fun x hx => (key x hx).2⟩
def flowT1 : List UInt8 := [99, 104, 97, 110, 32, 110, 101, 116, 58, 32, 123, 125, 59, 10, 102, 110, 32, 102, 40, 120, 58, 32, 123, 97, 125, 41, 58, 32, 123, 125, 32, 123, 32, 115, 101, 110, 100, 32, 110, 101, 116, 32, 120, 59, 32, 125]
def flowT2 : List UInt8 := [102, 110, 32, 102, 40, 120, 58, 32, 123, 97, 125, 41, 58, 32, 123, 97, 125, 32, 123, 32, 114, 101, 116, 117, 114, 110, 32, 120, 59, 32, 125]
theorem flow1_err : fileErr flowT1 = 0 := by decide +kernel
theorem flow2_err : fileErr flowT2 = 0 := by decide +kernel
theorem flow1_len : (fileItems flowT1).length = 2 := by decide +kernel
theorem flow2_len : (fileItems flowT2).length = 1 := by decide +kernel
theorem flow2_label : (checkF (fileItems flowT2) 0 27).hv = some 1 := by decide +kernel
theorem flow2_ds : (checkF (fileItems flowT2) 0 (-1)).ds.length = 0 := by decide +kernel
theorem flow1_ds : ((checkF (fileItems flowT1) 1 (-1)).ds.map (·.err)) = [9] := by decide +kernel
end Go.Sp
namespace Go.Proofs.YtkbiakajlfmakaaDoor
open Go.Fw
theorem fe_of {I : Imm} {its : List Sp.Itm} {a : Option Addr} {cp : Nat} {xs : List Value} (h1 : RowI I 33 10 (.slice a its.length cp) its.length xs) (h2 : ItsAt I its xs) (h3 : its.length ≤ 30) : FE I its a cp xs := ⟨h1, h2, by omega⟩
set_option maxHeartbeats 16000000 in
theorem f_alive (I : Imm) (hC : Conv I) : CalM Tryd.prog 27 #[] I [] (fun v _ H' => v = .bool true ∧ H' = []) := by
  refine CalM.of fun w E hm => enter (N := 73) Tryd.func27 rfl [] args0 rfl ?_
  have h1 := fun (J : Imm) (m : Le I J) => p_file Sp.flowT1 J (hC.le m) (by decide)
  have h2 := fun (J : Imm) (m : Le I J) => p_file Sp.flowT2 J (hC.le m) (by decide)
  rw [Sp.flow1_err] at h1
  rw [Sp.flow2_err] at h2
  obtain ⟨g1, g2⟩ := Sp.file_itF Sp.flowT1
  obtain ⟨k1, k2⟩ := Sp.file_itF Sp.flowT2
  have l1 := Sp.flow1_len
  have l2 := Sp.flow2_len
  have e1 := Sp.flow1_ds
  have e2 := Sp.flow2_ds
  have e3 := Sp.flow2_label
  generalize Sp.fileItems Sp.flowT1 = i1 at h1 g1 g2 l1 e1
  generalize Sp.fileItems Sp.flowT2 = i2 at h2 k1 k2 l2 e2 e3
  have hlab := fun (J : Imm) (a cp xs) (h : FE J i2 a cp xs) => f_label 0 (by omega) 27 (by decide) J h k2 k1
  rw [e3] at hlab
  have hdg := fun (J : Imm) (a cp xs) (h : FE J i1 a cp xs) => f_diags 1 (by omega) J h g2 g1
  have hs1 := fun (J : Imm) (a cp xs) (h : FE J i1 a cp xs) => f_sound J h g2 g1
  have hs2 := fun (J : Imm) (a cp xs) (h : FE J i2 a cp xs) => f_sound J h k2 k1
  have n1 : ¬ Sp.soundF i1 := fun h => by
    have := h 1 (by omega)
    rw [this] at e1
    cases e1
  have n2 : Sp.soundF i2 := fun j hj => by
    obtain rfl : j = 0 := by omega
    exact List.length_eq_zero_iff.1 e2
  have hfl := fun (J : Imm) (a cp xs) (h : FE J i1 a cp xs) => f_floors J h g2 (fun x hx => (g1 x hx).small)
  obtain ⟨d, hd1, hd2⟩ : ∃ d, (Sp.checkF i1 1 (-1)).ds = [d] ∧ d.err = 9 := by
    match h : (Sp.checkF i1 1 (-1)).ds, e1 with
    | [d], e1 => exact ⟨d, rfl, by simpa [h] using e1⟩
    | [], e1 => simp [h] at e1
    | _ :: _ :: _, e1 => simp [h] at e1
  rw [hd1] at hdg
  clear e1 e2 e3 hd1
  repeat' (first
    | (refine m_call (d := 9) hm (by rfl) (by rfl) (by rfl) (by first | exact pm0 | exact pm1_0 | exact pm1_1 | exact pm1_2 | exact pm1_3 | exact pm2_0 | exact pm2_1 | exact pm2_2 | exact pm2_3 | exact pm2_4 | exact pm3_0 | exact pm3_1 | exact pm3_2) (h1 I (Le.refl _)) ?_; clear hm; rintro _ I2 _ _ ⟨a1, c1, x1, rfl, hr1, ht1, rfl⟩ hle hm; have hleI2 := hle; try simp only [setn] at hm)
    | (refine m_call (d := 13) hm (by rfl) (by rfl) (by rfl) (by first | exact pm0 | exact pm1_0 | exact pm1_1 | exact pm1_2 | exact pm1_3 | exact pm2_0 | exact pm2_1 | exact pm2_2 | exact pm2_3 | exact pm2_4 | exact pm3_0 | exact pm3_1 | exact pm3_2) (h2 I2 hleI2) ?_; clear hm; rintro _ I3 _ _ ⟨a2, c2, x2, rfl, hr2, ht2, rfl⟩ hle hm; have hleI3 := hle; try simp only [setn] at hm; have q1 := (fe_of hr1 ht1 (by omega)).le hleI3; have q2 := fe_of hr2 ht2 (by omega))
    | (refine m_call (d := 36) hm (by rfl) (by rfl) (by rfl) (by first | exact pm0 | exact pm1_0 | exact pm1_1 | exact pm1_2 | exact pm1_3 | exact pm2_0 | exact pm2_1 | exact pm2_2 | exact pm2_3 | exact pm2_4 | exact pm3_0 | exact pm3_1 | exact pm3_2) (hlab I3 _ _ _ q2) ?_; clear hm; rintro _ I4 _ _ ⟨rfl, rfl⟩ hle hm; have hleI4 := hle; try simp only [setn] at hm)
    | (refine m_call (d := 40) hm (by rfl) (by rfl) (by rfl) (by first | exact pm0 | exact pm1_0 | exact pm1_1 | exact pm1_2 | exact pm1_3 | exact pm2_0 | exact pm2_1 | exact pm2_2 | exact pm2_3 | exact pm2_4 | exact pm3_0 | exact pm3_1 | exact pm3_2) (hdg I4 _ _ _ (q1.le hleI4)) ?_; clear hm; rintro _ I5 _ _ ⟨rfl, da, dp, rfl, hrd⟩ hle hm; have hleI5 := hle; try simp only [setn] at hm)
    | (refine i_indexFlat (d := 46) (enc := encDg) (z := d) (by rfl) (by rfl) (by rfl) (by rfl) hrd (fun _ => rfl) (by omega) (by simp) (by rfl) ?_; intro bz oz hpz; replace hpz : PtrI I5 bz oz 116 [nt d.fr, nt d.to, nt 9, str d.name] := by rw [← hd2]; exact hpz)
    | (refine m_call (d := 53) hm (by rfl) (by rfl) (by rfl) (by first | exact pm0 | exact pm1_0 | exact pm1_1 | exact pm1_2 | exact pm1_3 | exact pm2_0 | exact pm2_1 | exact pm2_2 | exact pm2_3 | exact pm2_4 | exact pm3_0 | exact pm3_1 | exact pm3_2) (hs2 I5 _ _ _ ((q2.le hleI4).le hleI5)) ?_; clear hm; rintro _ I6 _ _ ⟨rfl, sb2, rfl, hsb2⟩ hle hm; have hleI6 := hle; try simp only [setn] at hm; have := hsb2.2 n2; subst this)
    | (refine m_call (d := 57) hm (by rfl) (by rfl) (by rfl) (by first | exact pm0 | exact pm1_0 | exact pm1_1 | exact pm1_2 | exact pm1_3 | exact pm2_0 | exact pm2_1 | exact pm2_2 | exact pm2_3 | exact pm2_4 | exact pm3_0 | exact pm3_1 | exact pm3_2) (hs1 I6 _ _ _ (((q1.le hleI4).le hleI5).le hleI6)) ?_; clear hm; rintro _ I7 _ _ ⟨rfl, sb1, rfl, hsb1⟩ hle hm; have hleI7 := hle; try simp only [setn] at hm; have : sb1 = false := (by cases sb1; rfl; exact absurd (hsb1.1 rfl) n1); subst this)
    | (refine m_call (d := 69) hm (by rfl) (by rfl) (by rfl) (by first | exact pm0 | exact pm1_0 | exact pm1_1 | exact pm1_2 | exact pm1_3 | exact pm2_0 | exact pm2_1 | exact pm2_2 | exact pm2_3 | exact pm2_4 | exact pm3_0 | exact pm3_1 | exact pm3_2) (hfl I7 _ _ _ ((((q1.le hleI4).le hleI5).le hleI6).le hleI7)) ?_; clear hm; rintro _ I8 _ _ ⟨rfl, fa, fp, rfl, _⟩ hle hm; have hleI8 := hle; try simp only [setn] at hm)
    | (refine m_varS (d := 1) hm (by rfl) (by rfl) (by rfl) (by rfl) (by rfl) ?_; clear hm; intro b1 _ hm)
    | (refine m_var1 (d := 1) hm (by rfl) (by rfl) (by rfl) (by rfl) (by rfl) ?_; clear hm; intro b1 _ hm)
    | (refine m_varS (d := 3) hm (by rfl) (by rfl) (by rfl) (by rfl) (by rfl) ?_; clear hm; intro b3 _ hm)
    | (refine m_var1 (d := 3) hm (by rfl) (by rfl) (by rfl) (by rfl) (by rfl) ?_; clear hm; intro b3 _ hm)
    | refine m_load1 hm (by rfl) (by rfl) (by rfl) (by first | exact gt0 | exact gt1 | exact gt2 | exact gt3 | exact gt4 | exact gt5 | exact gt6) (by rfl) ?_
    | refine i_load1 hm (by rfl) (by rfl) (by rfl) (by assumption) (by rfl) ?_
    | refine m_loadAll hm (by rfl) (by rfl) (by rfl) (by first | exact gt0 | exact gt1 | exact gt2 | exact gt3 | exact gt4 | exact gt5 | exact gt6) (by rfl) ?_
    | refine i_loadN hm (by rfl) (by rfl) (by rfl) (by assumption) (by rfl) ?_
    | refine i_load1z hm (by rfl) (by rfl) (by rfl) (by assumption) (by rfl) ?_
    | (refine m_storeAll hm (by rfl) (by rfl) (by rfl) (by rfl) (by first | exact gt0 | exact gt1 | exact gt2 | exact gt3 | exact gt4 | exact gt5 | exact gt6) (by rfl) (by rfl) (by rfl) ?_; clear hm; intro _ hm; try simp only [setn] at hm)
    | (refine m_store1 hm (by rfl) (by rfl) (by rfl) (by rfl) (by first | exact gt0 | exact gt1 | exact gt2 | exact gt3 | exact gt4 | exact gt5 | exact gt6) (by rfl) (by rfl) (by rfl) ?_; clear hm; intro _ hm; try simp only [setn] at hm)
    | (refine m_storeN hm (by rfl) (by rfl) (by rfl) (by rfl) (by first | exact gt0 | exact gt1 | exact gt2 | exact gt3 | exact gt4 | exact gt5 | exact gt6) (by rfl) (by rfl) (by rfl) ?_; clear hm; intro _ hm; try simp only [setn] at hm)
    | refine m_ret_agg hm (by rfl) (by rfl) (by first | exact gt0 | exact gt1 | exact gt2 | exact gt3 | exact gt4 | exact gt5 | exact gt6) (by rfl) ?_
    | refine m_ret2_agg hm (by rfl) (by rfl) (by rfl) (by first | exact gt0 | exact gt1 | exact gt2 | exact gt3 | exact gt4 | exact gt5 | exact gt6) (by rfl) ?_
    | refine op_move (by rfl) (by rfl) (by rfl) ?_
    | refine op_assign (by rfl) (by rfl) (by rfl) ?_
    | refine op_pick_true (by rfl) (by rfl) (by rfl) (by rfl) ?_
    | refine op_pick_false (by rfl) (by rfl) (by rfl) (by rfl) ?_
    | refine op_eql (by rfl) (by rfl) (by rfl) (by rfl) ?_
    | refine op_neq (by rfl) (by rfl) (by rfl) (by rfl) ?_
    | refine op_eql_str (by rfl) (by rfl) (by rfl) (by rfl) ?_
    | refine op_eql_bool (by rfl) (by rfl) (by rfl) (by rfl) ?_
    | refine op_eql_flat (by rfl) (by rfl) (by rfl) (by rfl) (by rfl) (by rfl) ?_
    | refine op_neq_str (by rfl) (by rfl) (by rfl) (by rfl) ?_
    | refine op_neq_bool (by rfl) (by rfl) (by rfl) (by rfl) ?_
    | refine op_neq_flat (by rfl) (by rfl) (by rfl) (by rfl) (by rfl) (by rfl) ?_
    | refine op_len_str (by rfl) (by rfl) (by rfl) ?_
    | refine op_len_slice (by rfl) (by rfl) (by rfl) ?_
    | refine op_not (by rfl) (by rfl) (by rfl) ?_
    | refine op_extract (by rfl) (by rfl) (by rfl) (by rfl) ?_
    | refine op_indexAddr_arr (by rfl) (by rfl) (by rfl) (by rfl) (by omega) (by omega) ?_
    | refine op_fieldAddr (by rfl) (by rfl) (by rfl) ?_
    | refine op_indexAddr (by rfl) (by rfl) (by rfl) (by rfl) (by omega) (by omega) ?_
    | refine op_load1 (by rfl) (by rfl) (by rfl) (by assumption) (by rfl) ?_
    | refine wl_skip (by rfl) (by rfl) (by rfl) ?_
    | (refine wl_split_dec (by rfl) (by rfl) (by rfl) (fun _ => ?_) (fun _ => ?_) <;> (try first | contradiction | (exfalso; omega)))
    | (refine wl_split (by rfl) (by rfl) (by rfl) (fun _ => ?_) (fun _ => ?_) <;> (fail_if_success contradiction))
    | refine wl_nil ?_
    | refine at_then_normal ?_
    | refine at_then_ret ?_
    | refine wc_seq ?_
    | refine wc_region ?_
    | refine wc_skip ?_
    | refine wc_ret ?_
    | refine at_ret1 (by rfl) (by rfl) ?_
    | refine wc_cond_true (by rfl) ?_
    | refine wc_cond_false (by rfl) ?_
    | (refine wc_cond_dec (by rfl) (fun _ => ?_) (fun _ => ?_) <;> (try first | contradiction | (exfalso; omega)))
    | refine wc_cond (by rfl) (fun _ => ?_) (fun _ => ?_))
  all_goals try (exfalso; omega)
  exact ⟨I8, [], ⟨by rw [l1]; rfl, rfl⟩, hm.left (H := [])⟩
end Go.Proofs.YtkbiakajlfmakaaDoor
end
