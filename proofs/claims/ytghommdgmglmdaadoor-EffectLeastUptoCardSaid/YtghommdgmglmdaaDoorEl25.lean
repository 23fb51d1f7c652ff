/- Own work: texts LawElA, one behind the other. -/
import Derived.Test.YtghommdgmglmdaaDoorEl24
section
namespace Go.Sp
theorem joinE_self {l : List Nm} (h : Srt l) (hn : [] ∉ l) : joinE [] l = l :=
  srt_ext (joinE_srt _ Srt.nil) h (fun x => by
    rw [joinE_mem]
    exact ⟨fun h => by rcases h with h | h; cases h; exact h.1, fun hx => .inr ⟨hx, fun e => hn (e ▸ hx)⟩⟩)
end Go.Sp
namespace Go.Proofs.YtghommdgmglmdaaDoor
open Go.Fw
structure ElJ where
  j : Nat
  es : Ents
structure ElK where
  j : Nat
  I : Imm
  es : Ents
structure ElV where
  v : Value
structure ElQ where
  q : Nat
  sa : Option Addr
  sp : Nat
abbrev refsE (l : List (List UInt8)) : List Sp.Rf := l.map (fun n => (⟨n, 0⟩ : Sp.Rf))
theorem setE_nil : Sp.SetE [] [] := ⟨List.nodup_nil, fun _ h => (by cases h), fun n => by simp⟩
theorem refsE_step {l : List (List UInt8)} {k : Nat} {n : List UInt8} (h : l[k]? = some n) : refsE (l.take (k + 1)) = refsE (l.take k) ++ [⟨n, 0⟩] := by
  rw [List.take_add_one, h, refsE, List.map_append]; rfl
theorem e_rise {b : Nat} {es : Ents} {v : Value} {al : List (List UInt8)} (hs : Sp.Srt al) (hl : al.length ≤ 1000000000) (I : Imm) (hM : MapI I b es)
    (h : v = .map (some b) ∧ Sp.SetE es al ∨ v = .map none ∧ al = []) :
    CalM Tryd.prog 10 #[v] I [] (fun v J H' => ∃ a cp, v = .slice a al.length cp ∧ H' = [] ∧ RowI J 9 1 (.slice a al.length cp) al.length (al.flatMap encS)) := by
  rcases h with ⟨rfl, hE⟩ | ⟨rfl, rfl⟩
  · exact r_rising hE hs hl I hM
  · refine (r_rising_nil I).mono (fun v J H' _ hp => ?_)
    exact ⟨none, 0, hp.1, hp.2, rowI_nil _ _ _ _ _⟩
set_option maxHeartbeats 16000000 in
theorem e_alive (I : Imm) (hC : Conv I) : CalM Tryd.prog 4 #[] I [] (fun v _ H' => v = .bool true ∧ H' = []) := by
  refine CalM.of fun w E hm => enter (N := 65) Tryd.func4 rfl [] args0 rfl ?_
  have hF := p_file Sp.effT I hC (by decide)
  obtain ⟨g1, few1⟩ := Sp.file_eff Sp.effT
  rw [Sp.effT_err] at hF
  have l3 := Sp.effT_len
  obtain ⟨o1, o2⟩ := Sp.effT_own
  have a2 := Sp.effT_all
  have d2 := Sp.effT_d2
  have d1 := Sp.effT_d1
  generalize Sp.fileItems Sp.effT = its at hF g1 few1 l3 o1 o2 a2 d2 d1
  have hN := Sp.names_len g1 few1
  have hft : ∀ it ∈ its, it.fit ∧ Sp.stmsCnt it.body ≤ 400000000 := fun it h => ⟨(g1 it h).1.fit, by have := (g1 it h).2; omega⟩
  repeat' (first
  | (refine m_call (d:=7) hm (hc:=hF) (k:=?_); clear hm; rintro _ I2 _ _ ⟨a, cp, xs, rfl, hrow, hits, rfl⟩ hle hm; have hleI2 := hle; try simp only [setn] at hm)
  | refine wc_hold 2 ?_
  | (refine m_varS (d:=1) hm (k:=?_); clear hm; intro b1 _ hm)
  | (refine m_var1 (d:=1) hm (k:=?_); clear hm; intro b1 _ hm)
  | refine m_load1 hm (k:=?_)
  | refine i_load1 hm (k:=?_)
  | refine m_loadAll hm (k:=?_)
  | refine i_loadN hm (k:=?_)
  | refine i_load1z hm (k:=?_)
  | (refine m_storeAll hm (k:=?_); clear hm; intro _ hm; try simp only [setn] at hm)
  | (refine m_store1 hm (k:=?_); clear hm; intro _ hm; try simp only [setn] at hm)
  | (refine m_storeN hm (k:=?_); clear hm; intro _ hm; try simp only [setn] at hm)
  | refine m_ret_agg hm (h:=?_)
  | refine m_ret2_agg hm (h:=?_)
  | refine op_move (k:=?_)
  | refine op_assign (k:=?_)
  | refine op_pick_true (k:=?_)
  | refine op_pick_false (k:=?_)
  | refine op_eql (k:=?_)
  | refine op_neq (k:=?_)
  | refine op_eql_str (k:=?_)
  | refine op_eql_bool (k:=?_)
  | refine op_eql_flat (k:=?_)
  | refine op_neq_str (k:=?_)
  | refine op_neq_bool (k:=?_)
  | refine op_neq_flat (k:=?_)
  | refine op_len_str (k:=?_)
  | refine op_len_slice (k:=?_)
  | refine op_extract (k:=?_)
  | refine op_indexAddr_arr (k:=?_)
  | refine op_fieldAddr (k:=?_)
  | refine op_indexAddr (k:=?_)
  | refine op_load1 (k:=?_)
  | refine wl_skip (k:=?_)
  | (refine wl_split_dec (h1:=fun _ => ?_) (h0:=fun _ => ?_)<;> (try first | contradiction | (exfalso; omega)))
  | (refine wl_split (h1:=fun _ => ?_) (h0:=fun _ => ?_)<;> (fail_if_success contradiction))
  | refine wl_nil ?_
  | refine at_then_normal ?_
  | refine at_then_ret ?_
  | refine wc_seq ?_
  | refine wc_region ?_
  | refine wc_skip ?_
  | refine wc_ret ?_
  | refine at_ret1 (h:=?_)
  | refine wc_cond_true (ht:=?_)
  | refine wc_cond_false (hf:=?_)
  | (refine wc_cond_dec (ht:=fun _ => ?_) (hf:=fun _ => ?_)<;> (try first | contradiction | (exfalso; omega)))
  | refine wc_cond (ht:=fun _ => ?_) (hf:=fun _ => ?_))
  all_goals try (exfalso; first | omega | contradiction)
  have q1 : FE I2 its a cp xs := fe_of hrow hits (by omega)
  obtain ⟨I3, hle3, hm3, hpf⟩ := hm.freezeO
  clear hm
  have hm := hm3
  clear hm3
  have q3 := q1.le hle3
  have hA := e_all (its := its) I3 a cp xs q3 hft (by omega)
  refine ⟨?_⟩
  repeat' (first
  | (refine i_loadN (d:=10) hm (hp:=hpf) (k:=?_))
  | (refine m_call (d:=11) hm (hp:=pm0) (hc:=hA) (k:=?_); clear hm; rintro _ I4 _ w4 ⟨ob, T, hT, rfl, rfl⟩ hleI4 hm)
  | refine wc_hold 3 ?_
  | (refine m_varS (d:=1) hm (k:=?_); clear hm; intro b1 _ hm)
  | (refine m_var1 (d:=1) hm (k:=?_); clear hm; intro b1 _ hm)
  | refine m_load1 hm (k:=?_)
  | refine i_load1 hm (k:=?_)
  | refine m_loadAll hm (k:=?_)
  | refine i_loadN hm (k:=?_)
  | refine i_load1z hm (k:=?_)
  | (refine m_storeAll hm (k:=?_); clear hm; intro _ hm; try simp only [setn] at hm)
  | (refine m_store1 hm (k:=?_); clear hm; intro _ hm; try simp only [setn] at hm)
  | (refine m_storeN hm (k:=?_); clear hm; intro _ hm; try simp only [setn] at hm)
  | refine m_ret_agg hm (h:=?_)
  | refine m_ret2_agg hm (h:=?_)
  | refine op_move (k:=?_)
  | refine op_assign (k:=?_)
  | refine op_pick_true (k:=?_)
  | refine op_pick_false (k:=?_)
  | refine op_eql (k:=?_)
  | refine op_neq (k:=?_)
  | refine op_eql_str (k:=?_)
  | refine op_eql_bool (k:=?_)
  | refine op_eql_flat (k:=?_)
  | refine op_neq_str (k:=?_)
  | refine op_neq_bool (k:=?_)
  | refine op_neq_flat (k:=?_)
  | refine op_len_str (k:=?_)
  | refine op_len_slice (k:=?_)
  | refine op_extract (k:=?_)
  | refine op_indexAddr_arr (k:=?_)
  | refine op_fieldAddr (k:=?_)
  | refine op_indexAddr (k:=?_)
  | refine op_load1 (k:=?_)
  | refine wl_skip (k:=?_)
  | (refine wl_split_dec (h1:=fun _ => ?_) (h0:=fun _ => ?_)<;> (try first | contradiction | (exfalso; omega)))
  | (refine wl_split (h1:=fun _ => ?_) (h0:=fun _ => ?_)<;> (fail_if_success contradiction))
  | refine wl_nil ?_
  | refine at_then_normal ?_
  | refine at_then_ret ?_
  | refine wc_seq ?_
  | refine wc_region ?_
  | refine wc_skip ?_
  | refine wc_ret ?_
  | refine at_ret1 (h:=?_)
  | refine wc_cond_true (ht:=?_)
  | refine wc_cond_false (hf:=?_)
  | (refine wc_cond_dec (ht:=fun _ => ?_) (hf:=fun _ => ?_)<;> (try first | contradiction | (exfalso; omega)))
  | refine wc_cond (ht:=fun _ => ?_) (hf:=fun _ => ?_))
  all_goals try (exfalso; first | omega | contradiction)
  obtain ⟨I5, hle5, hm5, hro⟩ := Mem.freeze (H := T.map triS ++ []) hm
  obtain ⟨I6, hle6, hm6, hrt⟩ := triS_freeze T hm5
  clear hm hm5
  have hm := hm6
  clear hm6
  have hle46 : Le I4 I6 := hle5.trans hle6
  have q6 := (q3.le hleI4).le hle46
  have hpf6 := (hpf.le hleI4).le hle46
  have hro6 := hro.le hle6
  rw [← flat_one] at hro6
  have hri := q6.row
  have hg : its[2]? = some its[2] := List.getElem?_eq_getElem (by omega)
  obtain ⟨cs, hcs, hat, hl10⟩ := q6.get hg
  have hno : Sp.itNo its 2 = its[2] := by rw [Sp.itNo, List.getD_eq_getElem?_getD, hg]; rfl
  have hmk := hft _ (List.getElem_mem (show 2 < its.length by omega))
  rw [← hno] at hat hmk
  have hP := e_own _ hmk.1 hmk.2 I6 cs hat
  unfold ToOwn at hP
  obtain ⟨ta, tc, hti, _⟩ := tri_at hT (show 2 < its.length by omega)
  have hD2 := fun (J : Imm) (m : Le I6 J) => e_diags (its := its) 2 (by omega) J a cp xs (q6.le m) hft (by omega)
  have hD1 := fun (J : Imm) (m : Le I6 J) => e_diags (its := its) 1 (by omega) J a cp xs (q6.le m) hft (by omega)
  generalize Sp.effD its 2 = e2 at hD2 d2
  generalize Sp.effD its 1 = e1 at hD1 d1
  generalize Sp.allE its 2 = al at hti a2
  generalize Sp.ownE (Sp.itNo its 2) = ow at hP o1 o2
  generalize Sp.itNo its 2 = it at hat hP
  obtain ⟨ap, cp', as_, cs', ab, cb', ad, cd, xb, rfl, _⟩ := hat
  have hti2 : T[(2 : Int).toNat]? = some (al, ta, tc) := hti
  rw [show (2 * 10 : Nat) = ((2 : Int).toNat * 10) from rfl] at hcs
  refine ⟨?_⟩
  repeat' (first
  | (refine i_indexAddr (d:=28) (hr:=hri) (k:=?_); intro bt ot hpt; rw [hcs] at hpt)
  | (refine i_loadN (d:=29) hm (hp:=hpt) (k:=?_))
  | (refine m_call (d:=30) hm (hp:=pm0) (hc:=hP) (k:=?_); clear hm; rintro _ I8 _ _ ⟨sa, sp, ca, cp8, rfl, rfl⟩ hleI8 hm; try simp only [setn] at hm)
  | (refine i_indexFlat (d:=38) (enc:=fun t => [triV t]) (z:=(al, ta, tc)) (hr:=hro6.le hleI8) (he:=fun _ => rfl) (hz:=hti2) (k:=?_); intro bo oo hpo)
  | (refine i_load1z (d:=39) hm (hp:=hpo) (k:=?_))
  | (refine i_loadN (d:=54) hm (hp:=hpf6.le hleI8) (k:=?_))
  | (refine m_call (d:=55) hm (hp:=pm0) (hc:=hD2 _ hleI8) (k:=?_); clear hm; rintro _ I9 _ _ ⟨rfl, da, dp, rfl, hd1⟩ hleI9 hm; try simp only [setn] at hm)
  | (refine i_loadN (d:=60) hm (hp:=(hpf6.le hleI8).le hleI9) (k:=?_))
  | (refine m_call (d:=61) hm (hp:=pm0) (hc:=hD1 _ (hleI8.trans hleI9)) (k:=?_); clear hm; rintro _ Ia _ _ ⟨rfl, da2, dp2, rfl, hd2⟩ hleIa hm; try simp only [setn] at hm)
  | (refine m_varS (d:=1) hm (k:=?_); clear hm; intro b1 _ hm)
  | (refine m_var1 (d:=1) hm (k:=?_); clear hm; intro b1 _ hm)
  | refine m_load1 hm (k:=?_)
  | refine i_load1 hm (k:=?_)
  | refine m_loadAll hm (k:=?_)
  | refine i_loadN hm (k:=?_)
  | refine i_load1z hm (k:=?_)
  | (refine m_storeAll hm (k:=?_); clear hm; intro _ hm; try simp only [setn] at hm)
  | (refine m_store1 hm (k:=?_); clear hm; intro _ hm; try simp only [setn] at hm)
  | (refine m_storeN hm (k:=?_); clear hm; intro _ hm; try simp only [setn] at hm)
  | refine m_ret_agg hm (h:=?_)
  | refine m_ret2_agg hm (h:=?_)
  | refine op_move (k:=?_)
  | refine op_assign (k:=?_)
  | refine op_pick_true (k:=?_)
  | refine op_pick_false (k:=?_)
  | refine op_eql (k:=?_)
  | refine op_neq (k:=?_)
  | refine op_eql_str (k:=?_)
  | refine op_eql_bool (k:=?_)
  | refine op_eql_flat (k:=?_)
  | refine op_neq_str (k:=?_)
  | refine op_neq_bool (k:=?_)
  | refine op_neq_flat (k:=?_)
  | refine op_len_str (k:=?_)
  | refine op_len_slice (k:=?_)
  | refine op_extract (k:=?_)
  | refine op_indexAddr_arr (k:=?_)
  | refine op_fieldAddr (k:=?_)
  | refine op_indexAddr (k:=?_)
  | refine op_load1 (k:=?_)
  | refine wl_skip (k:=?_)
  | (refine wl_split_dec (h1:=fun _ => ?_) (h0:=fun _ => ?_)<;> (try first | contradiction | (exfalso; omega)))
  | (refine wl_split (h1:=fun _ => ?_) (h0:=fun _ => ?_)<;> (fail_if_success contradiction))
  | refine wl_nil ?_
  | refine at_then_normal ?_
  | refine at_then_ret ?_
  | refine wc_seq ?_
  | refine wc_region ?_
  | refine wc_skip ?_
  | refine wc_ret ?_
  | refine at_ret1 (h:=?_)
  | refine wc_cond_true (ht:=?_)
  | refine wc_cond_false (hf:=?_)
  | (refine wc_cond_dec (ht:=fun _ => ?_) (hf:=fun _ => ?_)<;> (try first | contradiction | (exfalso; omega)))
  | refine wc_cond (ht:=fun _ => ?_) (hf:=fun _ => ?_))
  all_goals try (exfalso; first | omega | contradiction)
  all_goals try (exfalso; rename_i hx; dsimp only at hx; omega)
  exact ⟨Ia, _, ⟨by rw [d1]; rfl, rfl⟩, hm.left (H := [])⟩
end Go.Proofs.YtghommdgmglmdaaDoor
end
