/-
  THE STATEMENT of the law FrameTells, where what it reads is small: it returns true, whatever it is given; the listed variables as the program lays them. By the prover.
-/
import Derived.Test.YtkbiakajlfmakaaDoorFt12
import Derived.Test.YtkbiakajlfmakaaDoorCards
import Derived.Test.YtkbiakajlfmakaaDoorTie
import Derived.Deep.DeepHandedRow
import Derived.Lay
section
namespace Go.Sp
theorem hd_str (o : List UInt8) (q : Qn) : o ++ Lib.itoa q.id ++ [32] ++ Lib.itoa q.kind ++ [32] ++ Lib.itoa q.fr ++ [32] ++ Lib.itoa q.to ++ [32] ++ Lib.itoa (q.args.length : Int) ++ [32] ++ Lib.itoa (q.text.length : Int) ++ [10] = o ++ wr (hdN q) hdr := by
  simp [wr, hdN, hdr]
end Go.Sp
namespace Go.Proofs.YtkbiakajlfmakaaDoor
open Go.Fw
structure RL where
  i : Nat
  o : List UInt8
set_option maxHeartbeats 16000000 in
theorem fr_frame {I : Imm} {qs : List Sp.Qn} {la : Option Addr} {lc : Nat} {xs : List Value} (hr : RowI I 41 6 (.slice la qs.length lc) qs.length xs) (hat : AsksAt I qs xs) (hl : qs.length ≤ 2097152) (hf : ∀ q ∈ qs, q.fits) (hC : ConvF I) :
    CalM Tryd.prog 19 #[.slice la qs.length lc] I [] (ToBytes qs) := by
  refine CalM.of fun w E hm => enter (N := 78) Tryd.func19 rfl [(0, .slice la qs.length lc)] args1 rfl ?_
  repeat' (first
    | (refine m_allocS (d := 3) hm (by rfl) (by rfl) ?_; clear hm; intro b3 _ hm)
    | refine op_move (by rfl) (by rfl) (by rfl) ?_
    | refine op_assign (by rfl) (by rfl) (by rfl) ?_
    | refine op_len_slice (by rfl) (by rfl) (by rfl) ?_
    | refine wl_nil ?_
    | refine at_then_normal ?_
    | refine wc_seq ?_
    | refine wc_region ?_
    | refine wc_block ?_)
  refine wc_loop (fun x : RL => [(3, ptr b3), (10, .slice la qs.length lc), (11, nt qs.length), (12, nt x.i), (4, str x.o)])
    (fun x w' => Mem E I [.cell b3 [nt 0, nt 0] 44] w' ∧ x.i ≤ qs.length ∧ x.o = (qs.take x.i).flatMap Sp.qBytes ∧ x.o.length ≤ x.i * 5000 ∧ Sp.badAt qs 0 = Sp.badAt (qs.drop x.i) x.i) (fun x => qs.length - x.i) ⟨0, []⟩
    (by exact ⟨rfl, rfl, rfl, rfl, rfl, trivial⟩) ⟨hm, Nat.zero_le _, rfl, Nat.zero_le _, rfl⟩ ?_
  clear hm
  rintro ⟨i, o⟩ w1 ⟨hm, hi, ho, hol, hbad⟩
  dsimp only at hm hi ho hol hbad ⊢
  by_cases hlt : i < qs.length
  · have hg : qs[i]? = some qs[i] := List.getElem?_eq_getElem hlt
    have hd : qs.drop i = qs[i] :: qs.drop (i + 1) := List.drop_eq_getElem_cons hlt
    have htk : (qs.take (i + 1)).flatMap Sp.qBytes = (qs.take i).flatMap Sp.qBytes ++ Sp.qBytes qs[i] := by rw [List.take_add_one, hg, List.flatMap_append]; simp
    have hfq := hf _ (List.getElem_mem hlt)
    have hcell := hat.get hg
    generalize qs[i] = q at hg hd htk hfq hcell
    rw [← ho] at htk
    rw [hd, Sp.badAt] at hbad
    obtain ⟨aa, ac, hci, hargs⟩ := hcell
    have hwr := fr_wrongAsk q aa ac
    by_cases hq0 : Sp.qErr q = 0
    case neg =>
      rw [if_pos hq0] at hbad
      repeat' (first
        | (refine i_indexAddr (d := 15) (by rfl) (by rfl) (by rfl) (by rfl) hr (by omega) (by omega) ?_; intro bt ot hpt; rw [show ((i : Int).toNat * 6) = i * 6 from rfl, hci] at hpt)
        | (refine m_readC (d := 18) hm (by rfl) (by rfl) (by rfl) (by first | exact sub_nil | exact sub1_0 | exact sub1_1 | exact sub1_2 | exact sub1_3 | exact sub2_0 | exact sub2_1 | exact sub2_2 | exact sub2_3 | exact sub2_4) (hwr I) ?_; clear hm; intro _ hm)
        | (refine m_ret2b_agg hm (by rfl) (by rfl) (by rfl) (by first | exact gt0 | exact gt1 | exact gt2 | exact gt3 | exact gt4 | exact gt5 | exact gt6) (by rfl) ?_)
        | (refine m_allocS (d := 6) hm (by rfl) (by rfl) ?_; clear hm; intro b6 _ hm)
        | refine m_loadAll hm (by rfl) (by rfl) (by rfl) (by first | exact gt0 | exact gt1 | exact gt2 | exact gt3 | exact gt4 | exact gt5 | exact gt6) (by rfl) ?_
        | refine i_loadN hm (by rfl) (by rfl) (by rfl) (by assumption) (by rfl) ?_
        | (refine m_storeAll hm (by rfl) (by rfl) (by rfl) (by rfl) (by first | exact gt0 | exact gt1 | exact gt2 | exact gt3 | exact gt4 | exact gt5 | exact gt6) (by rfl) (by rfl) (by rfl) ?_; clear hm; intro _ hm; try simp only [setn] at hm)
        | refine op_move (by rfl) (by rfl) (by rfl) ?_
        | refine op_assign (by rfl) (by rfl) (by rfl) ?_
        | refine op_lss (by rfl) (by rfl) (by rfl) (by rfl) ?_
        | refine op_neq (by rfl) (by rfl) (by rfl) (by rfl) ?_
        | refine op_struct (by rfl) (by rfl) (by rfl) (by rfl) ?_
        | refine wl_nil ?_
        | refine at_then_normal ?_
        | refine at_then_ret ?_
        | refine at_block_ret ?_
        | refine wc_seq ?_
        | refine wc_region ?_
        | refine wc_block ?_
        | refine wc_skip ?_
        | refine wc_ret ?_
        | (refine wc_cond_dec (by rfl) (fun _ => ?_) (fun _ => ?_) <;> (try first | contradiction | (exfalso; omega))))
      all_goals try (exfalso; omega)
      exact ⟨I, [], ⟨rfl, by rw [hbad]; exact ⟨rfl, hq0⟩⟩, hm.left (H := [])⟩
    rw [if_neg (by omega)] at hbad
    rw [hq0] at hwr
    have hal := Sp.arP_len hfq
    have hhl6 := Sp.hdP_len hfq hq0 6
    obtain ⟨hq5, hq4⟩ := Sp.qErr_args hq0
    have i0 : Sp.i64 q.id := hfq.1
    have i1 : Sp.i64 q.kind := hfq.2.1
    have i2 : Sp.i64 q.fr := hfq.2.2.1
    have i3 : Sp.i64 q.to := hfq.2.2.2.1
    have i4 : Sp.i64 (q.args.length : Int) := ⟨by omega, by omega⟩
    have i5 : Sp.i64 (q.text.length : Int) := ⟨by omega, by omega⟩
    have l0 := Sp.itoa_len20 i0
    have l1 := Sp.itoa_len20 i1
    have l2 := Sp.itoa_len20 i2
    have l3 := Sp.itoa_len20 i3
    have l4 := Sp.itoa_len20 i4
    have l5 := Sp.itoa_len20 i5
    have hstr := Sp.hd_str o q
    repeat' (first
      | (refine i_indexAddr (d := 15) (by rfl) (by rfl) (by rfl) (by rfl) hr (by omega) (by omega) ?_; intro bt ot hpt; rw [show ((i : Int).toNat * 6) = i * 6 from rfl, hci] at hpt)
      | (refine m_readC (d := 18) hm (by rfl) (by rfl) (by rfl) (by first | exact sub_nil | exact sub1_0 | exact sub1_1 | exact sub1_2 | exact sub1_3 | exact sub2_0 | exact sub2_1 | exact sub2_2 | exact sub2_3 | exact sub2_4) (hwr I) ?_; clear hm; intro _ hm)
      | (refine wc_mix_mem (id := 8) (hm.perm pm0) [([0,1,2,6,7,11,12,16,17,21,22,23,27,28,29],[3]),([4,5],[8]),([9,10],[13]),([14,15],[18]),([19,20],[24]),([25,26],[30]),([31,32],[])] 33 (by kernel_rfl) ?_; clear hm; intro wd hR hm)
      | (refine mt_call (d := 27) hm (by rfl) (by rfl) (by rfl) (by first | exact pm0 | exact pm1_0 | exact pm1_1 | exact pm1_2 | exact pm1_3 | exact pm2_0 | exact pm2_1 | exact pm2_2 | exact pm2_3 | exact pm2_4 | exact pm3_0 | exact pm3_1 | exact pm3_2) (r_itoa _ i0 hC) ?_; clear hm; rintro _ I2 _ _ ⟨rfl, rfl, rfl⟩ hle hm; have hleI2 := hle; try simp only [setn] at hm)
      | (refine mt_call (d := 32) hm (by rfl) (by rfl) (by rfl) (by first | exact pm0 | exact pm1_0 | exact pm1_1 | exact pm1_2 | exact pm1_3 | exact pm2_0 | exact pm2_1 | exact pm2_2 | exact pm2_3 | exact pm2_4 | exact pm3_0 | exact pm3_1 | exact pm3_2) (r_itoa _ i1 hC) ?_; clear hm; rintro _ I3 _ _ ⟨rfl, rfl, rfl⟩ hle hm; have hleI3 := hle; try simp only [setn] at hm)
      | (refine mt_call (d := 37) hm (by rfl) (by rfl) (by rfl) (by first | exact pm0 | exact pm1_0 | exact pm1_1 | exact pm1_2 | exact pm1_3 | exact pm2_0 | exact pm2_1 | exact pm2_2 | exact pm2_3 | exact pm2_4 | exact pm3_0 | exact pm3_1 | exact pm3_2) (r_itoa _ i2 hC) ?_; clear hm; rintro _ I4 _ _ ⟨rfl, rfl, rfl⟩ hle hm; have hleI4 := hle; try simp only [setn] at hm)
      | (refine mt_call (d := 42) hm (by rfl) (by rfl) (by rfl) (by first | exact pm0 | exact pm1_0 | exact pm1_1 | exact pm1_2 | exact pm1_3 | exact pm2_0 | exact pm2_1 | exact pm2_2 | exact pm2_3 | exact pm2_4 | exact pm3_0 | exact pm3_1 | exact pm3_2) (r_itoa _ i3 hC) ?_; clear hm; rintro _ I5 _ _ ⟨rfl, rfl, rfl⟩ hle hm; have hleI5 := hle; try simp only [setn] at hm)
      | (refine mt_call (d := 48) hm (by rfl) (by rfl) (by rfl) (by first | exact pm0 | exact pm1_0 | exact pm1_1 | exact pm1_2 | exact pm1_3 | exact pm2_0 | exact pm2_1 | exact pm2_2 | exact pm2_3 | exact pm2_4 | exact pm3_0 | exact pm3_1 | exact pm3_2) (r_itoa _ i4 hC) ?_; clear hm; rintro _ I6 _ _ ⟨rfl, rfl, rfl⟩ hle hm; have hleI6 := hle; try simp only [setn] at hm)
      | (refine mt_call (d := 54) hm (by rfl) (by rfl) (by rfl) (by first | exact pm0 | exact pm1_0 | exact pm1_1 | exact pm1_2 | exact pm1_3 | exact pm2_0 | exact pm2_1 | exact pm2_2 | exact pm2_3 | exact pm2_4 | exact pm3_0 | exact pm3_1 | exact pm3_2) (r_itoa _ i5 hC) ?_; clear hm; rintro _ I7 _ _ ⟨rfl, rfl, rfl⟩ hle hm; have hleI7 := hle; try simp only [setn] at hm)
      | (refine v_add_str (by rfl) (by rfl) (by rfl) (by rfl) (by first | (simp only [List.length_append, List.length_singleton]; omega) | omega) ?_)
      | refine mw_load1 hR (by rfl) (by rfl) (by rfl) (by first | exact gt0 | exact gt1 | exact gt2 | exact gt3 | exact gt4 | exact gt5 | exact gt6) (by rfl) ?_
      | refine wx_cons ?_
      | refine wv_nilX ?_
      | refine ws_nil ?_
      | refine at_X ?_
      | (refine wx_nil ?_; replace hm := hR.back hm; clear hR; try simp only [setn] at hm)
      | (refine m_allocS (d := 6) hm (by rfl) (by rfl) ?_; clear hm; intro b6 _ hm)
      | refine m_load1 hm (by rfl) (by rfl) (by rfl) (by first | exact gt0 | exact gt1 | exact gt2 | exact gt3 | exact gt4 | exact gt5 | exact gt6) (by rfl) ?_
      | refine m_loadAll hm (by rfl) (by rfl) (by rfl) (by first | exact gt0 | exact gt1 | exact gt2 | exact gt3 | exact gt4 | exact gt5 | exact gt6) (by rfl) ?_
      | refine i_loadN hm (by rfl) (by rfl) (by rfl) (by assumption) (by rfl) ?_
      | (refine m_storeAll hm (by rfl) (by rfl) (by rfl) (by rfl) (by first | exact gt0 | exact gt1 | exact gt2 | exact gt3 | exact gt4 | exact gt5 | exact gt6) (by rfl) (by rfl) (by rfl) ?_; clear hm; intro _ hm; try simp only [setn] at hm)
      | refine op_move (by rfl) (by rfl) (by rfl) ?_
      | refine op_assign (by rfl) (by rfl) (by rfl) ?_
      | refine op_lss (by rfl) (by rfl) (by rfl) (by rfl) ?_
      | refine op_neq (by rfl) (by rfl) (by rfl) (by rfl) ?_
      | refine op_len_slice (by rfl) (by rfl) (by rfl) ?_
      | refine op_fieldAddr (by rfl) (by rfl) (by rfl) ?_
      | refine wl_nil ?_
      | refine at_then_normal ?_
      | refine wc_seq ?_
      | refine wc_region ?_
      | refine wc_block ?_
      | refine wc_skip ?_
      | refine wc_cond_false (by rfl) ?_
      | (refine wc_cond_dec (by rfl) (fun _ => ?_) (fun _ => ?_) <;> (try first | contradiction | (exfalso; omega)))
      | refine v_move (by rfl) (by rfl) (by rfl) ?_
      | refine v_len_str (by rfl) (by rfl) (by rfl) ?_
      | refine v_len_slice (by rfl) (by rfl) (by rfl) ?_
      | refine v_fieldAddr (by rfl) (by rfl) (by rfl) ?_)
    all_goals try (exfalso; omega)
    have hwl : (Sp.wr (Sp.hdN q) Sp.hdr).length ≤ 127 := by
      rw [← Sp.hdP_all, List.length_append, List.length_singleton]; omega
    refine wc_loop (fun x : RL => [(3, ptr b3), (10, .slice la qs.length lc), (11, nt qs.length), (12, nt i), (6, ptr b6), (4, str x.o), (58, .slice aa q.args.length ac), (59, nt q.args.length), (60, nt x.i)])
      (fun x w' => Mem E I7 [askO b6 q.id q.kind q.fr q.to q.text aa q.args.length ac, .cell b3 [nt 0, nt 0] 44] w' ∧ x.i ≤ q.args.length ∧ x.o = o ++ Sp.wr (Sp.hdN q) Sp.hdr ++ Sp.arP q x.i) (fun x => q.args.length - x.i) ⟨0, o ++ Sp.wr (Sp.hdN q) Sp.hdr⟩
      (by exact ⟨rfl, rfl, rfl, rfl, rfl, by dsimp only; rw [← hstr]; rfl, rfl, rfl, rfl, trivial⟩) ⟨hm, Nat.zero_le _, by simp [Sp.arP]⟩ ?_
    clear hm
    rintro ⟨k, o2⟩ w3 ⟨hm, hk, ho2⟩
    dsimp only at hm hk ho2 ⊢
    have hk2 := hal k
    have hol2 : o2.length ≤ o.length + 127 + (Sp.arP q k).length := by rw [ho2, List.length_append, List.length_append]; omega
    by_cases hk6 : k < q.args.length
    · have hgk : q.args[((k : Nat) : Int).toNat]? = some q.args[k] := List.getElem?_eq_getElem hk6
      have hz := hfq.2.2.2.2 _ (List.getElem_mem hk6)
      have hsu := Sp.arP_succ (List.getElem?_eq_getElem hk6)
      generalize q.args[k] = z at hgk hz hsu
      have hz20 := Sp.itoa_len20 hz
      repeat' (first
        | (refine i_indexFlat (d := 62) (enc := encZ) (z := z) (by rfl) (by rfl) (by rfl) (by rfl) hargs (fun _ => rfl) (by omega) (by omega) hgk ?_; intro bt2 ot2 hpt2)
        | (refine m_call (d := 66) hm (by rfl) (by rfl) (by rfl) (by first | exact pm0 | exact pm1_0 | exact pm1_1 | exact pm1_2 | exact pm1_3 | exact pm2_0 | exact pm2_1 | exact pm2_2 | exact pm2_3 | exact pm2_4 | exact pm3_0 | exact pm3_1 | exact pm3_2) (r_itoa _ hz hC) ?_; clear hm; rintro _ I8 _ _ ⟨rfl, rfl, rfl⟩ hle hm; have hleI8 := hle; try simp only [setn] at hm)
        | (refine op_add_str (by rfl) (by rfl) (by rfl) (by rfl) (by first | (simp only [List.length_append, List.length_singleton]; omega) | omega) ?_)
        | refine i_load1z hm (by rfl) (by rfl) (by rfl) (by assumption) (by rfl) ?_
        | refine op_move (by rfl) (by rfl) (by rfl) ?_
        | refine op_assign (by rfl) (by rfl) (by rfl) ?_
        | refine op_lss (by rfl) (by rfl) (by rfl) (by rfl) ?_
        | refine op_add (by rfl) (by rfl) (by rfl) (by rfl) (by omega) ?_
        | refine wl_nil ?_
        | refine at_then_normal ?_
        | refine at_block_normal ?_
        | refine wc_seq ?_
        | refine wc_region ?_
        | refine wc_block ?_
        | refine wc_skip ?_
        | (refine wc_cond_dec (by rfl) (fun _ => ?_) (fun _ => ?_) <;> (try first | contradiction | (exfalso; omega))))
      all_goals try (exfalso; omega)
      exact at_round (⟨k + 1, o2 ++ Lib.itoa z ++ [10]⟩ : RL) (by exact ⟨rfl, rfl, rfl, rfl, rfl, rfl, rfl, rfl, rfl, trivial⟩) ⟨hm, by dsimp only; omega, by dsimp only; rw [hsu, ho2]; simp only [List.append_assoc]⟩ (by dsimp only; omega)
    · obtain rfl : k = q.args.length := by omega
      repeat' (first
        | (refine op_add_str (by rfl) (by rfl) (by rfl) (by rfl) (by first | (simp only [List.length_append, List.length_singleton]; omega) | omega) ?_)
        | refine m_load1 hm (by rfl) (by rfl) (by rfl) (by first | exact gt0 | exact gt1 | exact gt2 | exact gt3 | exact gt4 | exact gt5 | exact gt6) (by rfl) ?_
        | refine op_move (by rfl) (by rfl) (by rfl) ?_
        | refine op_assign (by rfl) (by rfl) (by rfl) ?_
        | refine op_lss (by rfl) (by rfl) (by rfl) (by rfl) ?_
        | refine op_add (by rfl) (by rfl) (by rfl) (by rfl) (by omega) ?_
        | refine op_fieldAddr (by rfl) (by rfl) (by rfl) ?_
        | refine wl_nil ?_
        | refine at_then_normal ?_
        | refine at_then_exit ?_
        | refine at_block_normal ?_
        | refine at_block_exit ?_
        | refine wc_seq ?_
        | refine wc_region ?_
        | refine wc_exit ?_
        | (refine wc_cond_dec (by rfl) (fun _ => ?_) (fun _ => ?_) <;> (try first | contradiction | (exfalso; omega))))
      all_goals try (exfalso; omega)
      have hqb : o ++ Sp.qBytes q = o2 ++ q.text := by rw [ho2, Sp.arP_all]; simp only [Sp.qBytes, List.append_assoc]
      exact at_round (⟨i + 1, o ++ Sp.qBytes q⟩ : RL) (by exact ⟨rfl, rfl, rfl, rfl, by dsimp only; rw [hqb]; rfl, trivial⟩) ⟨hm.tl, by dsimp only; omega, htk.symm, by dsimp only; rw [hqb, List.length_append]; omega, hbad⟩ (by dsimp only; omega)
  · obtain rfl : i = qs.length := by omega
    rw [List.drop_length] at hbad
    rw [List.take_length] at ho
    subst ho
    repeat' (first
      | (refine i_strBytes (d := 76) hm (by rfl) (by rfl) (by rfl) ?_; clear hm; intro I8 a8 c8 w8 hle8 hm hrow)
      | (refine m_ret2b_agg hm (by rfl) (by rfl) (by rfl) (by first | exact gt0 | exact gt1 | exact gt2 | exact gt3 | exact gt4 | exact gt5 | exact gt6) (by rfl) ?_)
      | (refine m_storeAll hm (by rfl) (by rfl) (by rfl) (by rfl) (by first | exact gt0 | exact gt1 | exact gt2 | exact gt3 | exact gt4 | exact gt5 | exact gt6) (by rfl) (by rfl) (by rfl) ?_; clear hm; intro _ hm; try simp only [setn] at hm)
      | refine op_move (by rfl) (by rfl) (by rfl) ?_
      | refine op_assign (by rfl) (by rfl) (by rfl) ?_
      | refine op_lss (by rfl) (by rfl) (by rfl) (by rfl) ?_
      | refine op_struct (by rfl) (by rfl) (by rfl) (by rfl) ?_
      | refine wl_nil ?_
      | refine at_then_normal ?_
      | refine at_then_exit ?_
      | refine at_block_exit ?_
      | refine wc_seq ?_
      | refine wc_region ?_
      | refine wc_exit ?_
      | refine wc_ret ?_
      | (refine wc_cond_dec (by rfl) (fun _ => ?_) (fun _ => ?_) <;> (try first | contradiction | (exfalso; omega))))
    all_goals try (exfalso; omega)
    rw [show (qs.flatMap Sp.qBytes).flatMap encB = (qs.flatMap Sp.qBytes).map byteV from flat_sing _ _] at hrow
    exact ⟨I8, [], ⟨rfl, by rw [hbad]; exact ⟨a8, c8, rfl, hrow, hol⟩⟩, hm.left (H := [])⟩
end Go.Proofs.YtkbiakajlfmakaaDoor
end
section
namespace Go.Proofs.YtkbiakajlfmakaaDoor
open Go.Fw
theorem flt_same (e p : Nat) : eqCells [nt e, nt p] [nt e, nt p] = true := by simp [eqCells, eqCell]
theorem nilE : ∀ q ∈ ([] : List Sp.Qn), Sp.qErr q = 0 := fun q hq => by cases hq
set_option maxHeartbeats 16000000 in
theorem sp_ftells {qs : List Sp.Qn} {b : List UInt8} {la ab : Option Addr} {lc cb : Nat} {lv : List Value} (I : Imm) (hC : ConvF I) (hr : RowI I 41 6 (.slice la qs.length lc) qs.length lv) (hat : AsksAt I qs lv) (hf : ∀ q ∈ qs, q.fits)
    (hb : RowI I 5 1 (.slice ab b.length cb) b.length (b.map byteV)) (hlq : qs.length ≤ 1048576) (hlb : b.length ≤ 1048576) :
    CalM Tryd.prog 4 #[.slice la qs.length lc, .slice ab b.length cb] I [] (fun v _ H' => v = .bool true ∧ H' = []) := by
  refine CalM.of fun w E hm => enter (N := 63) Tryd.func4 rfl [(0, .slice la qs.length lc), (1, .slice ab b.length cb)] args2 rfl ?_
  repeat' (first
    | refine op_move (by rfl) (by rfl) (by rfl) ?_
    | refine op_assign (by rfl) (by rfl) (by rfl) ?_
    | refine op_len_slice (by rfl) (by rfl) (by rfl) ?_
    | refine wl_nil ?_
    | refine at_then_normal ?_
    | refine wc_seq ?_
    | refine wc_region ?_
    | refine wc_block ?_)
  refine wc_loop (fun k : Nat => [(0, .slice la qs.length lc), (1, .slice ab b.length cb), (13, .slice la qs.length lc), (14, nt qs.length), (15, nt k)])
    (fun k w' => Mem E I [] w' ∧ k ≤ qs.length) (fun k => qs.length - k) 0 (by exact ⟨rfl, rfl, rfl, rfl, rfl, trivial⟩) ⟨hm, Nat.zero_le _⟩ ?_
  clear hm
  rintro k w1 ⟨hm, hk⟩
  try dsimp only at hm hk ⊢
  by_cases hlt : k < qs.length
  · have hg : qs[k]? = some qs[k] := List.getElem?_eq_getElem hlt
    obtain ⟨a1, c1, hc1, _⟩ := hat.get hg
    generalize qs[k] = q at hg hc1
    have h1 := fr_wrong q a1 c1
    have h2 := fr_wrongAsk q a1 c1
    generalize Sp.qErr q = er at h1 h2
    repeat' (first
      | (refine i_indexAddr (d := 17) (by rfl) (by rfl) (by rfl) (by rfl) hr (by omega) (by omega) ?_; intro bt ot hpt; rw [show ((k : Int).toNat * 6) = k * 6 from rfl, hc1] at hpt)
      | (refine mq_readC (d := 20) hm (by rfl) (by rfl) (by rfl) (by first | exact sub_nil | exact sub1_0 | exact sub1_1 | exact sub1_2 | exact sub1_3 | exact sub2_0 | exact sub2_1 | exact sub2_2 | exact sub2_3 | exact sub2_4) (h1 I) ?_)
      | (refine mq_readC (d := 22) hm (by rfl) (by rfl) (by rfl) (by first | exact sub_nil | exact sub1_0 | exact sub1_1 | exact sub1_2 | exact sub1_3 | exact sub2_0 | exact sub2_1 | exact sub2_2 | exact sub2_3 | exact sub2_4) (h2 I) ?_)
      | (refine m_varS (d := 6) hm (by rfl) (by rfl) (by rfl) (by rfl) (by rfl) ?_; clear hm; intro b6 _ hm)
      | refine i_loadN hm (by rfl) (by rfl) (by rfl) (by assumption) (by rfl) ?_
      | refine mq_loadAll hm (by rfl) (by rfl) (by rfl) (by first | exact gt0 | exact gt1 | exact gt2 | exact gt3 | exact gt4 | exact gt5 | exact gt6) (by rfl) ?_
      | refine op_move (by rfl) (by rfl) (by rfl) ?_
      | refine op_lss (by rfl) (by rfl) (by rfl) (by rfl) ?_
      | refine op_add (by rfl) (by rfl) (by rfl) (by rfl) (by omega) ?_
      | refine wl_nil ?_
      | refine at_then_normal ?_
      | refine at_block_normal ?_
      | refine wc_seq ?_
      | refine wc_region ?_
      | refine wc_block ?_
      | refine wc_skip ?_
      | refine wc_quiet (by kernel_rfl) ?_
      | (refine wq_nil ?_; intro _ hkq; replace hm := hm.kept0 hkq; clear hkq)
      | (refine wc_cond_dec (by rfl) (fun _ => ?_) (fun _ => ?_) <;> (try first | contradiction | (exfalso; omega)))
      | refine q_neq (by rfl) (by rfl) (by rfl) (by rfl) ?_)
    all_goals try (exfalso; first | omega | contradiction)
    exact at_round (k + 1 : Nat) (by exact ⟨rfl, rfl, rfl, rfl, rfl, trivial⟩) ⟨hm.left (H := []), by omega⟩ (by omega)
  · obtain rfl : k = qs.length := by omega
    have hBy := fun (J : Imm) (m : Le I J) => fr_bytes (hr.le m) (hat.le m) (by omega) hf (hC.le m)
    have hFr := fun (J : Imm) (m : Le I J) => fr_frame (hr.le m) (hat.le m) (by omega) hf (hC.le m)
    have hPa := fun (J : Imm) (m : Le I J) => fr_parse (by rw [← flat_sing byteV b] at hb; exact hb.le m) (by omega) (hC.le m)
    have hUn := fun (J : Imm) (m : Le I J) => fr_unframe (by rw [← flat_sing byteV b] at hb; exact hb.le m) (by omega) (hC.le m)
    have hasE : ∀ ms, Sp.asks b = .ok ms → ∀ q ∈ ms, Sp.qErr q = 0 := fun ms h q hq => ((Sp.asks_wr b ms h).2 q hq).2
    cases hbad : Sp.badAt qs 0 with
    | some r =>
      obtain ⟨e, p⟩ := r
      have hB := fun (J : Imm) (m : Le I J) => (hBy J m).mono (Post' := fun v _ H' => H' = [] ∧ v = .tuple #[.slice none 0 0, .agg #[nt e, nt p]] ∧ e ≠ 0) (fun v I' H' _ ⟨h1, h2⟩ => ⟨h1, by rw [hbad] at h2; exact h2⟩)
      have hG := fun (J : Imm) (m : Le I J) => (hFr J m).mono (Post' := fun v _ H' => H' = [] ∧ v = .tuple #[.slice none 0 0, .agg #[nt e, nt p]] ∧ e ≠ 0) (fun v I' H' _ ⟨h1, h2⟩ => ⟨h1, by rw [hbad] at h2; exact h2⟩)
      clear hBy hFr
      cases hy : Sp.asks b with
      | error r2 =>
        obtain ⟨e2, p2⟩ := r2
        have hP := fun (J : Imm) (m : Le I J) => (hPa J m).mono (Post' := fun v _ H' => H' = [] ∧ v = .tuple #[.slice none 0 0, .agg #[nt e2, nt p2]]) (fun v I' H' _ ⟨h1, h2⟩ => ⟨h1, by rw [hy] at h2; exact h2.1⟩)
        have hU := fun (J : Imm) (m : Le I J) => (hUn J m).mono (Post' := fun v _ H' => H' = [] ∧ v = .tuple #[.slice none 0 0, .agg #[nt e2, nt p2]]) (fun v I' H' _ ⟨h1, h2⟩ => ⟨h1, by rw [hy] at h2; exact h2.1⟩)
        clear hPa hUn
        repeat' (first
          | (refine op_neq_flat (d := 37) (by rfl) (by rfl) (by rfl) (by rfl) (by rfl) (by rfl) ?_; rw [flt_same])
          | (refine op_eql_flat (d := 57) (by rfl) (by rfl) (by rfl) (by rfl) (by rfl) (by rfl) ?_; rw [flt_same])
          | (refine m_call (d := 27) hm (by rfl) (by rfl) (by rfl) (by first | exact pm0 | exact pm1_0 | exact pm1_1 | exact pm1_2 | exact pm1_3 | exact pm2_0 | exact pm2_1 | exact pm2_2 | exact pm2_3 | exact pm2_4 | exact pm3_0 | exact pm3_1 | exact pm3_2) (hB I (Le.refl _)) ?_; clear hm; rintro _ I2 _ _ ⟨rfl, rfl, _⟩ hle hm; have hleI2 := hle; try simp only [setn] at hm)
          | (refine m_call (d := 32) hm (by rfl) (by rfl) (by rfl) (by first | exact pm0 | exact pm1_0 | exact pm1_1 | exact pm1_2 | exact pm1_3 | exact pm2_0 | exact pm2_1 | exact pm2_2 | exact pm2_3 | exact pm2_4 | exact pm3_0 | exact pm3_1 | exact pm3_2) (hG I2 hleI2) ?_; clear hm; rintro _ I3 _ _ ⟨rfl, rfl, _⟩ hle hm; have hleI3 := hle; try simp only [setn] at hm)
          | (refine i_bytesStr (d := 40) (s := []) hm (by rfl) (by rfl) (by rfl) (rowI_nil _ _ _ _ _) (by rfl) ?_)
          | (refine i_bytesStr (d := 42) (s := []) hm (by rfl) (by rfl) (by rfl) (rowI_nil _ _ _ _ _) (by rfl) ?_)
          | (refine m_call (d := 47) hm (by rfl) (by rfl) (by rfl) (by first | exact pm0 | exact pm1_0 | exact pm1_1 | exact pm1_2 | exact pm1_3 | exact pm2_0 | exact pm2_1 | exact pm2_2 | exact pm2_3 | exact pm2_4 | exact pm3_0 | exact pm3_1 | exact pm3_2) (hP I3 (hleI2.trans hleI3)) ?_; clear hm; rintro _ I4 _ _ ⟨rfl, rfl⟩ hle hm; have hleI4 := hle; try simp only [setn] at hm)
          | (refine m_call (d := 52) hm (by rfl) (by rfl) (by rfl) (by first | exact pm0 | exact pm1_0 | exact pm1_1 | exact pm1_2 | exact pm1_3 | exact pm2_0 | exact pm2_1 | exact pm2_2 | exact pm2_3 | exact pm2_4 | exact pm3_0 | exact pm3_1 | exact pm3_2) (hU I4 ((hleI2.trans hleI3).trans hleI4)) ?_; clear hm; rintro _ I5 _ _ ⟨rfl, rfl⟩ hle hm; have hleI5 := hle; try simp only [setn] at hm)
          | (refine m_call (d := 61) hm (by rfl) (by rfl) (by rfl) (by first | exact pm0 | exact pm1_0 | exact pm1_1 | exact pm1_2 | exact pm1_3 | exact pm2_0 | exact pm2_1 | exact pm2_2 | exact pm2_3 | exact pm2_4 | exact pm3_0 | exact pm3_1 | exact pm3_2) (fr_same' (qs := []) rfl rfl (rowI_nil _ _ _ _ _) rfl (rowI_nil _ _ _ _ _) rfl (by decide) nilE) ?_; clear hm; rintro _ I6 _ _ ⟨rfl, rfl⟩ hle hm; have hleI6 := hle; try simp only [setn] at hm)
          | (refine m_allocS (d := 8) hm (by rfl) (by rfl) ?_; clear hm; intro b8 _ hm)
          | (refine m_allocS (d := 10) hm (by rfl) (by rfl) ?_; clear hm; intro b10 _ hm)
          | refine m_loadAll hm (by rfl) (by rfl) (by rfl) (by first | exact gt0 | exact gt1 | exact gt2 | exact gt3 | exact gt4 | exact gt5 | exact gt6) (by rfl) ?_
          | (refine m_storeAll hm (by rfl) (by rfl) (by rfl) (by rfl) (by first | exact gt0 | exact gt1 | exact gt2 | exact gt3 | exact gt4 | exact gt5 | exact gt6) (by rfl) (by rfl) (by rfl) ?_; clear hm; intro _ hm; try simp only [setn] at hm)
          | refine op_move (by rfl) (by rfl) (by rfl) ?_
          | refine op_assign (by rfl) (by rfl) (by rfl) ?_
          | refine op_pick_true (by rfl) (by rfl) (by rfl) (by rfl) ?_
          | refine op_pick_false (by rfl) (by rfl) (by rfl) (by rfl) ?_
          | refine op_lss (by rfl) (by rfl) (by rfl) (by rfl) ?_
          | refine op_neq_str (by rfl) (by rfl) (by rfl) (by rfl) ?_
          | refine op_extract (by rfl) (by rfl) (by rfl) (by rfl) ?_
          | refine wl_nil ?_
          | refine at_then_normal ?_
          | refine at_then_exit ?_
          | refine at_block_exit ?_
          | refine wc_seq ?_
          | refine wc_region ?_
          | refine wc_skip ?_
          | refine wc_exit ?_
          | refine wc_ret ?_
          | refine at_ret1 (by rfl) (by rfl) ?_
          | refine wc_cond_false (by rfl) ?_
          | (refine wc_cond_dec (by rfl) (fun _ => ?_) (fun _ => ?_) <;> (try first | contradiction | (exfalso; omega))))
        all_goals try (exfalso; first | omega | contradiction)
        all_goals exact ⟨I6, [], ⟨rfl, rfl⟩, hm.left (H := [])⟩
      | ok ms =>
        have hE := hasE ms hy
        have hP := fun (J : Imm) (m : Le I J) => (hPa J m).mono (Post' := fun v I' H' => H' = [] ∧ ∃ a cp xs, v = .tuple #[.slice a ms.length cp, .agg #[nt 0, nt 0]] ∧ RowI I' 41 6 (.slice a ms.length cp) ms.length xs ∧ AsksAt I' ms xs ∧ ms.length ≤ b.length) (fun v I' H' _ ⟨h1, h2⟩ => ⟨h1, by rw [hy] at h2; exact h2⟩)
        have hU := fun (J : Imm) (m : Le I J) => (hUn J m).mono (Post' := fun v I' H' => H' = [] ∧ ∃ a cp xs, v = .tuple #[.slice a ms.length cp, .agg #[nt 0, nt 0]] ∧ RowI I' 41 6 (.slice a ms.length cp) ms.length xs ∧ AsksAt I' ms xs ∧ ms.length ≤ b.length) (fun v I' H' _ ⟨h1, h2⟩ => ⟨h1, by rw [hy] at h2; exact h2⟩)
        clear hPa hUn
        repeat' (first
          | (refine op_neq_flat (d := 37) (by rfl) (by rfl) (by rfl) (by rfl) (by rfl) (by rfl) ?_; rw [flt_same])
          | (refine op_eql_flat (d := 57) (by rfl) (by rfl) (by rfl) (by rfl) (by rfl) (by rfl) ?_; rw [flt_same])
          | (refine m_call (d := 27) hm (by rfl) (by rfl) (by rfl) (by first | exact pm0 | exact pm1_0 | exact pm1_1 | exact pm1_2 | exact pm1_3 | exact pm2_0 | exact pm2_1 | exact pm2_2 | exact pm2_3 | exact pm2_4 | exact pm3_0 | exact pm3_1 | exact pm3_2) (hB I (Le.refl _)) ?_; clear hm; rintro _ I2 _ _ ⟨rfl, rfl, _⟩ hle hm; have hleI2 := hle; try simp only [setn] at hm)
          | (refine m_call (d := 32) hm (by rfl) (by rfl) (by rfl) (by first | exact pm0 | exact pm1_0 | exact pm1_1 | exact pm1_2 | exact pm1_3 | exact pm2_0 | exact pm2_1 | exact pm2_2 | exact pm2_3 | exact pm2_4 | exact pm3_0 | exact pm3_1 | exact pm3_2) (hG I2 hleI2) ?_; clear hm; rintro _ I3 _ _ ⟨rfl, rfl, _⟩ hle hm; have hleI3 := hle; try simp only [setn] at hm)
          | (refine i_bytesStr (d := 40) (s := []) hm (by rfl) (by rfl) (by rfl) (rowI_nil _ _ _ _ _) (by rfl) ?_)
          | (refine i_bytesStr (d := 42) (s := []) hm (by rfl) (by rfl) (by rfl) (rowI_nil _ _ _ _ _) (by rfl) ?_)
          | (refine m_call (d := 47) hm (by rfl) (by rfl) (by rfl) (by first | exact pm0 | exact pm1_0 | exact pm1_1 | exact pm1_2 | exact pm1_3 | exact pm2_0 | exact pm2_1 | exact pm2_2 | exact pm2_3 | exact pm2_4 | exact pm3_0 | exact pm3_1 | exact pm3_2) (hP I3 (hleI2.trans hleI3)) ?_; clear hm; rintro _ I4 _ _ ⟨rfl, ma, mc, mv, rfl, hmr, hmt, hml⟩ hle hm; have hleI4 := hle; try simp only [setn] at hm)
          | (refine m_call (d := 52) hm (by rfl) (by rfl) (by rfl) (by first | exact pm0 | exact pm1_0 | exact pm1_1 | exact pm1_2 | exact pm1_3 | exact pm2_0 | exact pm2_1 | exact pm2_2 | exact pm2_3 | exact pm2_4 | exact pm3_0 | exact pm3_1 | exact pm3_2) (hU I4 ((hleI2.trans hleI3).trans hleI4)) ?_; clear hm; rintro _ I5 _ _ ⟨rfl, na, nc, nv, rfl, hnr, hnt, _⟩ hle hm; have hleI5 := hle; try simp only [setn] at hm)
          | (refine m_call (d := 61) hm (by rfl) (by rfl) (by rfl) (by first | exact pm0 | exact pm1_0 | exact pm1_1 | exact pm1_2 | exact pm1_3 | exact pm2_0 | exact pm2_1 | exact pm2_2 | exact pm2_3 | exact pm2_4 | exact pm3_0 | exact pm3_1 | exact pm3_2) (fr_same' rfl rfl (hmr.le hleI5) (hmt.le hleI5) hnr hnt (by omega) hE) ?_; clear hm; rintro _ I6 _ _ ⟨rfl, rfl⟩ hle hm; have hleI6 := hle; try simp only [setn] at hm)
          | (refine m_allocS (d := 8) hm (by rfl) (by rfl) ?_; clear hm; intro b8 _ hm)
          | (refine m_allocS (d := 10) hm (by rfl) (by rfl) ?_; clear hm; intro b10 _ hm)
          | refine m_loadAll hm (by rfl) (by rfl) (by rfl) (by first | exact gt0 | exact gt1 | exact gt2 | exact gt3 | exact gt4 | exact gt5 | exact gt6) (by rfl) ?_
          | (refine m_storeAll hm (by rfl) (by rfl) (by rfl) (by rfl) (by first | exact gt0 | exact gt1 | exact gt2 | exact gt3 | exact gt4 | exact gt5 | exact gt6) (by rfl) (by rfl) (by rfl) ?_; clear hm; intro _ hm; try simp only [setn] at hm)
          | refine op_move (by rfl) (by rfl) (by rfl) ?_
          | refine op_assign (by rfl) (by rfl) (by rfl) ?_
          | refine op_pick_true (by rfl) (by rfl) (by rfl) (by rfl) ?_
          | refine op_pick_false (by rfl) (by rfl) (by rfl) (by rfl) ?_
          | refine op_lss (by rfl) (by rfl) (by rfl) (by rfl) ?_
          | refine op_neq_str (by rfl) (by rfl) (by rfl) (by rfl) ?_
          | refine op_extract (by rfl) (by rfl) (by rfl) (by rfl) ?_
          | refine wl_nil ?_
          | refine at_then_normal ?_
          | refine at_then_exit ?_
          | refine at_block_exit ?_
          | refine wc_seq ?_
          | refine wc_region ?_
          | refine wc_skip ?_
          | refine wc_exit ?_
          | refine wc_ret ?_
          | refine at_ret1 (by rfl) (by rfl) ?_
          | refine wc_cond_false (by rfl) ?_
          | (refine wc_cond_dec (by rfl) (fun _ => ?_) (fun _ => ?_) <;> (try first | contradiction | (exfalso; omega))))
        all_goals try (exfalso; first | omega | contradiction)
        all_goals exact ⟨I6, [], ⟨rfl, rfl⟩, hm.left (H := [])⟩
    | none =>
      have hqE := Sp.badAt_ok hbad
      have hB := fun (J : Imm) (m : Le I J) => (hBy J m).mono (Post' := fun v I' H' => H' = [] ∧ ∃ a cp, v = .tuple #[.slice a (qs.flatMap Sp.qBytes).length cp, .agg #[nt 0, nt 0]] ∧ RowI I' 5 1 (.slice a (qs.flatMap Sp.qBytes).length cp) (qs.flatMap Sp.qBytes).length ((qs.flatMap Sp.qBytes).map byteV) ∧ (qs.flatMap Sp.qBytes).length ≤ qs.length * 5000) (fun v I' H' _ ⟨h1, h2⟩ => ⟨h1, by rw [hbad] at h2; exact h2⟩)
      have hG := fun (J : Imm) (m : Le I J) => (hFr J m).mono (Post' := fun v I' H' => H' = [] ∧ ∃ a cp, v = .tuple #[.slice a (qs.flatMap Sp.qBytes).length cp, .agg #[nt 0, nt 0]] ∧ RowI I' 5 1 (.slice a (qs.flatMap Sp.qBytes).length cp) (qs.flatMap Sp.qBytes).length ((qs.flatMap Sp.qBytes).map byteV) ∧ (qs.flatMap Sp.qBytes).length ≤ qs.length * 5000) (fun v I' H' _ ⟨h1, h2⟩ => ⟨h1, by rw [hbad] at h2; exact h2⟩)
      clear hBy hFr
      generalize qs.flatMap Sp.qBytes = bs at hB hG
      cases hy : Sp.asks b with
      | error r2 =>
        obtain ⟨e2, p2⟩ := r2
        have hP := fun (J : Imm) (m : Le I J) => (hPa J m).mono (Post' := fun v _ H' => H' = [] ∧ v = .tuple #[.slice none 0 0, .agg #[nt e2, nt p2]]) (fun v I' H' _ ⟨h1, h2⟩ => ⟨h1, by rw [hy] at h2; exact h2.1⟩)
        have hU := fun (J : Imm) (m : Le I J) => (hUn J m).mono (Post' := fun v _ H' => H' = [] ∧ v = .tuple #[.slice none 0 0, .agg #[nt e2, nt p2]]) (fun v I' H' _ ⟨h1, h2⟩ => ⟨h1, by rw [hy] at h2; exact h2.1⟩)
        clear hPa hUn
        repeat' (first
          | (refine op_neq_flat (d := 37) (by rfl) (by rfl) (by rfl) (by rfl) (by rfl) (by rfl) ?_; rw [flt_same])
          | (refine op_eql_flat (d := 57) (by rfl) (by rfl) (by rfl) (by rfl) (by rfl) (by rfl) ?_; rw [flt_same])
          | (refine m_call (d := 27) hm (by rfl) (by rfl) (by rfl) (by first | exact pm0 | exact pm1_0 | exact pm1_1 | exact pm1_2 | exact pm1_3 | exact pm2_0 | exact pm2_1 | exact pm2_2 | exact pm2_3 | exact pm2_4 | exact pm3_0 | exact pm3_1 | exact pm3_2) (hB I (Le.refl _)) ?_; clear hm; rintro _ I2 _ _ ⟨rfl, xa, xc, rfl, hx, _⟩ hle hm; have hleI2 := hle; try simp only [setn] at hm)
          | (refine m_call (d := 32) hm (by rfl) (by rfl) (by rfl) (by first | exact pm0 | exact pm1_0 | exact pm1_1 | exact pm1_2 | exact pm1_3 | exact pm2_0 | exact pm2_1 | exact pm2_2 | exact pm2_3 | exact pm2_4 | exact pm3_0 | exact pm3_1 | exact pm3_2) (hG I2 hleI2) ?_; clear hm; rintro _ I3 _ _ ⟨rfl, ya, yc, rfl, hy2, _⟩ hle hm; have hleI3 := hle; try simp only [setn] at hm)
          | (refine i_bytesStr (d := 40) hm (by rfl) (by rfl) (by rfl) (hx.le hleI3) (by rfl) ?_)
          | (refine i_bytesStr (d := 42) hm (by rfl) (by rfl) (by rfl) hy2 (by rfl) ?_)
          | (refine m_call (d := 47) hm (by rfl) (by rfl) (by rfl) (by first | exact pm0 | exact pm1_0 | exact pm1_1 | exact pm1_2 | exact pm1_3 | exact pm2_0 | exact pm2_1 | exact pm2_2 | exact pm2_3 | exact pm2_4 | exact pm3_0 | exact pm3_1 | exact pm3_2) (hP I3 (hleI2.trans hleI3)) ?_; clear hm; rintro _ I4 _ _ ⟨rfl, rfl⟩ hle hm; have hleI4 := hle; try simp only [setn] at hm)
          | (refine m_call (d := 52) hm (by rfl) (by rfl) (by rfl) (by first | exact pm0 | exact pm1_0 | exact pm1_1 | exact pm1_2 | exact pm1_3 | exact pm2_0 | exact pm2_1 | exact pm2_2 | exact pm2_3 | exact pm2_4 | exact pm3_0 | exact pm3_1 | exact pm3_2) (hU I4 ((hleI2.trans hleI3).trans hleI4)) ?_; clear hm; rintro _ I5 _ _ ⟨rfl, rfl⟩ hle hm; have hleI5 := hle; try simp only [setn] at hm)
          | (refine m_call (d := 61) hm (by rfl) (by rfl) (by rfl) (by first | exact pm0 | exact pm1_0 | exact pm1_1 | exact pm1_2 | exact pm1_3 | exact pm2_0 | exact pm2_1 | exact pm2_2 | exact pm2_3 | exact pm2_4 | exact pm3_0 | exact pm3_1 | exact pm3_2) (fr_same' (qs := []) rfl rfl (rowI_nil _ _ _ _ _) rfl (rowI_nil _ _ _ _ _) rfl (by decide) nilE) ?_; clear hm; rintro _ I6 _ _ ⟨rfl, rfl⟩ hle hm; have hleI6 := hle; try simp only [setn] at hm)
          | (refine m_allocS (d := 8) hm (by rfl) (by rfl) ?_; clear hm; intro b8 _ hm)
          | (refine m_allocS (d := 10) hm (by rfl) (by rfl) ?_; clear hm; intro b10 _ hm)
          | refine m_loadAll hm (by rfl) (by rfl) (by rfl) (by first | exact gt0 | exact gt1 | exact gt2 | exact gt3 | exact gt4 | exact gt5 | exact gt6) (by rfl) ?_
          | (refine m_storeAll hm (by rfl) (by rfl) (by rfl) (by rfl) (by first | exact gt0 | exact gt1 | exact gt2 | exact gt3 | exact gt4 | exact gt5 | exact gt6) (by rfl) (by rfl) (by rfl) ?_; clear hm; intro _ hm; try simp only [setn] at hm)
          | refine op_move (by rfl) (by rfl) (by rfl) ?_
          | refine op_assign (by rfl) (by rfl) (by rfl) ?_
          | refine op_pick_true (by rfl) (by rfl) (by rfl) (by rfl) ?_
          | refine op_pick_false (by rfl) (by rfl) (by rfl) (by rfl) ?_
          | refine op_lss (by rfl) (by rfl) (by rfl) (by rfl) ?_
          | refine op_neq_str (by rfl) (by rfl) (by rfl) (by rfl) ?_
          | refine op_extract (by rfl) (by rfl) (by rfl) (by rfl) ?_
          | refine wl_nil ?_
          | refine at_then_normal ?_
          | refine at_then_exit ?_
          | refine at_block_exit ?_
          | refine wc_seq ?_
          | refine wc_region ?_
          | refine wc_skip ?_
          | refine wc_exit ?_
          | refine wc_ret ?_
          | refine at_ret1 (by rfl) (by rfl) ?_
          | (refine wc_cond_dec (by rfl) (fun _ => ?_) (fun _ => ?_) <;> (try first | contradiction | (exfalso; omega))))
        all_goals try (exfalso; first | omega | contradiction)
        all_goals exact ⟨I6, [], ⟨rfl, rfl⟩, hm.left (H := [])⟩
      | ok ms =>
        have hE := hasE ms hy
        have hP := fun (J : Imm) (m : Le I J) => (hPa J m).mono (Post' := fun v I' H' => H' = [] ∧ ∃ a cp xs, v = .tuple #[.slice a ms.length cp, .agg #[nt 0, nt 0]] ∧ RowI I' 41 6 (.slice a ms.length cp) ms.length xs ∧ AsksAt I' ms xs ∧ ms.length ≤ b.length) (fun v I' H' _ ⟨h1, h2⟩ => ⟨h1, by rw [hy] at h2; exact h2⟩)
        have hU := fun (J : Imm) (m : Le I J) => (hUn J m).mono (Post' := fun v I' H' => H' = [] ∧ ∃ a cp xs, v = .tuple #[.slice a ms.length cp, .agg #[nt 0, nt 0]] ∧ RowI I' 41 6 (.slice a ms.length cp) ms.length xs ∧ AsksAt I' ms xs ∧ ms.length ≤ b.length) (fun v I' H' _ ⟨h1, h2⟩ => ⟨h1, by rw [hy] at h2; exact h2⟩)
        clear hPa hUn
        repeat' (first
          | (refine op_neq_flat (d := 37) (by rfl) (by rfl) (by rfl) (by rfl) (by rfl) (by rfl) ?_; rw [flt_same])
          | (refine op_eql_flat (d := 57) (by rfl) (by rfl) (by rfl) (by rfl) (by rfl) (by rfl) ?_; rw [flt_same])
          | (refine m_call (d := 27) hm (by rfl) (by rfl) (by rfl) (by first | exact pm0 | exact pm1_0 | exact pm1_1 | exact pm1_2 | exact pm1_3 | exact pm2_0 | exact pm2_1 | exact pm2_2 | exact pm2_3 | exact pm2_4 | exact pm3_0 | exact pm3_1 | exact pm3_2) (hB I (Le.refl _)) ?_; clear hm; rintro _ I2 _ _ ⟨rfl, xa, xc, rfl, hx, _⟩ hle hm; have hleI2 := hle; try simp only [setn] at hm)
          | (refine m_call (d := 32) hm (by rfl) (by rfl) (by rfl) (by first | exact pm0 | exact pm1_0 | exact pm1_1 | exact pm1_2 | exact pm1_3 | exact pm2_0 | exact pm2_1 | exact pm2_2 | exact pm2_3 | exact pm2_4 | exact pm3_0 | exact pm3_1 | exact pm3_2) (hG I2 hleI2) ?_; clear hm; rintro _ I3 _ _ ⟨rfl, ya, yc, rfl, hy2, _⟩ hle hm; have hleI3 := hle; try simp only [setn] at hm)
          | (refine i_bytesStr (d := 40) hm (by rfl) (by rfl) (by rfl) (hx.le hleI3) (by rfl) ?_)
          | (refine i_bytesStr (d := 42) hm (by rfl) (by rfl) (by rfl) hy2 (by rfl) ?_)
          | (refine m_call (d := 47) hm (by rfl) (by rfl) (by rfl) (by first | exact pm0 | exact pm1_0 | exact pm1_1 | exact pm1_2 | exact pm1_3 | exact pm2_0 | exact pm2_1 | exact pm2_2 | exact pm2_3 | exact pm2_4 | exact pm3_0 | exact pm3_1 | exact pm3_2) (hP I3 (hleI2.trans hleI3)) ?_; clear hm; rintro _ I4 _ _ ⟨rfl, ma, mc, mv, rfl, hmr, hmt, hml⟩ hle hm; have hleI4 := hle; try simp only [setn] at hm)
          | (refine m_call (d := 52) hm (by rfl) (by rfl) (by rfl) (by first | exact pm0 | exact pm1_0 | exact pm1_1 | exact pm1_2 | exact pm1_3 | exact pm2_0 | exact pm2_1 | exact pm2_2 | exact pm2_3 | exact pm2_4 | exact pm3_0 | exact pm3_1 | exact pm3_2) (hU I4 ((hleI2.trans hleI3).trans hleI4)) ?_; clear hm; rintro _ I5 _ _ ⟨rfl, na, nc, nv, rfl, hnr, hnt, _⟩ hle hm; have hleI5 := hle; try simp only [setn] at hm)
          | (refine m_call (d := 61) hm (by rfl) (by rfl) (by rfl) (by first | exact pm0 | exact pm1_0 | exact pm1_1 | exact pm1_2 | exact pm1_3 | exact pm2_0 | exact pm2_1 | exact pm2_2 | exact pm2_3 | exact pm2_4 | exact pm3_0 | exact pm3_1 | exact pm3_2) (fr_same' rfl rfl (hmr.le hleI5) (hmt.le hleI5) hnr hnt (by omega) hE) ?_; clear hm; rintro _ I6 _ _ ⟨rfl, rfl⟩ hle hm; have hleI6 := hle; try simp only [setn] at hm)
          | (refine m_allocS (d := 8) hm (by rfl) (by rfl) ?_; clear hm; intro b8 _ hm)
          | (refine m_allocS (d := 10) hm (by rfl) (by rfl) ?_; clear hm; intro b10 _ hm)
          | refine m_loadAll hm (by rfl) (by rfl) (by rfl) (by first | exact gt0 | exact gt1 | exact gt2 | exact gt3 | exact gt4 | exact gt5 | exact gt6) (by rfl) ?_
          | (refine m_storeAll hm (by rfl) (by rfl) (by rfl) (by rfl) (by first | exact gt0 | exact gt1 | exact gt2 | exact gt3 | exact gt4 | exact gt5 | exact gt6) (by rfl) (by rfl) (by rfl) ?_; clear hm; intro _ hm; try simp only [setn] at hm)
          | refine op_move (by rfl) (by rfl) (by rfl) ?_
          | refine op_assign (by rfl) (by rfl) (by rfl) ?_
          | refine op_pick_true (by rfl) (by rfl) (by rfl) (by rfl) ?_
          | refine op_pick_false (by rfl) (by rfl) (by rfl) (by rfl) ?_
          | refine op_lss (by rfl) (by rfl) (by rfl) (by rfl) ?_
          | refine op_neq_str (by rfl) (by rfl) (by rfl) (by rfl) ?_
          | refine op_extract (by rfl) (by rfl) (by rfl) (by rfl) ?_
          | refine wl_nil ?_
          | refine at_then_normal ?_
          | refine at_then_exit ?_
          | refine at_block_exit ?_
          | refine wc_seq ?_
          | refine wc_region ?_
          | refine wc_skip ?_
          | refine wc_exit ?_
          | refine wc_ret ?_
          | refine at_ret1 (by rfl) (by rfl) ?_
          | (refine wc_cond_dec (by rfl) (fun _ => ?_) (fun _ => ?_) <;> (try first | contradiction | (exfalso; omega))))
        all_goals try (exfalso; first | omega | contradiction)
        all_goals exact ⟨I6, [], ⟨rfl, rfl⟩, hm.left (H := [])⟩
end Go.Proofs.YtkbiakajlfmakaaDoor
end
section
namespace Go.Proofs.YtkbiakajlfmakaaDoor.frameTellsTop
open Go.ChangeShapes Go.WideShapes Go.ChangeAt Go.RowKit
open Go.Fw (Kept Cal str Ret)
open Go.ChangeMaps (open_string shut_string)

set_option maxRecDepth 100000 in
theorem contract (H : Type) (enc : TypeId × Value → H) (W : World) (base : Nat) (args : Array Value) (ds gs : List (DataW H)) (before : List MemPlace)
    (hval : ∀ (j : Nat) t v, Tryd.f4.params[j]? = some t → args[j]? = some v → Value.okWide Tryd.prog W .any base t v)
    (hW : DataW.Whole enc Tryd.prog Tryd.f4.params.toList Rows.frameTellsSpec.vars false W args.toList ds gs before) (hk : Rows.uptoSmall H (ds ++ gs) = true) (hL : laidMetH Tryd.prog Rows.frameTellsUptoRow.laid W) :
    Calls Tryd.prog 4 args W fun e W' => ∃ v, e = .returned v ∧ Rows.frameTellsSpec.post enc Tryd.prog Tryd.f4 false true false false W args v W' := by
  have hC : ConvF (Go.Fw.immOf W) := ⟨rng_of hL (by kernel_rfl) (by kernel_rfl), syn_of hL (by kernel_rfl) (by kernel_rfl), tab_of hL (by kernel_rfl) (by kernel_rfl)⟩
  clear hL
  have hW' := hW
  obtain ⟨p, q, hA0, hV, rfl, hfz, hnd⟩ := hW
  have hA : DataW.TrodAll enc Tryd.prog W 0 (fun _ => true) true Tryd.f4.params.toList args.toList ds p := hA0
  rw [Tryd.params4] at hA hval
  obtain ⟨v0, vs0, d0, ds0, p0, q0, hargs, rfl, rfl, h0, r0⟩ := trodAll_cons hA
  obtain ⟨v1, vs1, d1, ds1, p1, q1, hx1, rfl, rfl, h1, r1⟩ := trodAll_cons r0
  obtain ⟨rfl, rfl, rfl⟩ := trodAll_nil r1
  obtain rfl : args = #[v0, v1] := by cases args; simp_all
  obtain ⟨rfl, rfl⟩ := trodVars_none hV
  have hv0 := hval 0 37 v0 rfl rfl
  have hv1 := hval 1 38 v1 rfl rfl
  have hlt := hW'.lt
  obtain ⟨a0, qs0, c0, xs0, rfl, hr0, ht0, hf0, hb0⟩ := open_asks hv0 h0
  obtain ⟨a1, bs1, c1, rfl, hr1, hb1⟩ := open_bytes hv1 h1
  clear hA0
  simp only [List.append_nil] at hW' hk
  have hk0 : Rows.uptoBulk d0 ≤ 1048576 := Nat.le_trans (bulk_part (l := [d0, d1]) (by simp)) (by simpa [Rows.uptoSmall] using hk)
  have hk1 : Rows.uptoBulk d1 ≤ 1048576 := Nat.le_trans (bulk_part (l := [d0, d1]) (by simp)) (by simpa [Rows.uptoSmall] using hk)
  refine ((run_keptF (sp_ftells (Go.Fw.immOf W) hC hr0 ht0 hf0 hr1 (by omega) (by omega))).run).mono fun e W' he => ?_
  cases e
  case returned v =>
    obtain ⟨rfl, hg⟩ := he
    refine ⟨_, rfl, post_kept2 (pv := []) hW' (fun _ _ _ => trodAll_cons_mk (shut_bool Tryd.underlying4 _) trodAll_mk0) (trodAll_cons_mk (Below.trod laidOutF (by kernel_rfl) (of_decide_eq_true (by kernel_rfl)) h0 (kept_below hg) (fun x hx => hlt x (by simp [hx]))) (trodAll_cons_mk (Below.trod laidOutF (by kernel_rfl) (of_decide_eq_true (by kernel_rfl)) h1 (kept_below hg) (fun x hx => hlt x (by simp [hx]))) trodAll_mk0)) (fun _ _ => rfl) hg⟩
  all_goals exact he.elim

/-- A world for the witness: the settled one, the listed variables holding what they are laid with. -/
noncomputable def laidWorld (os : Os) : World := World.laidAll Tryd.prog os Rows.frameTellsUptoRow.laid
theorem laid_met (os : Os) : laidMet Tryd.prog Rows.frameTellsUptoRow.laid ((laidWorld os).forCall (fun _ _ => 0) ⟨#[], #[.slice none 0 0, .slice none 0 0], []⟩).memory :=
  laidMet_laidAll _ (by kernel_rfl) (by kernel_rfl)
theorem reads (os : Os) {H : Type} (enc : TypeId × Value → H) : ∃ places, DataW.whole enc Tryd.prog ((laidWorld os).forCall (fun _ _ => 0) ⟨#[], #[.slice none 0 0, .slice none 0 0], []⟩).memory Tryd.f4.params.toList Rows.frameTellsSpec.vars false (#[.slice none 0 0, .slice none 0 0] : Array Value).toList 8 = some ([.nil, .nil], [], places) :=
  ⟨[], by kernel_rfl⟩

set_option maxRecDepth 100000 in
theorem lifted (os : Os) (started : os.Started) (H : Type) (enc : TypeId × Value → H) (F : Stop.Interp) :
    ReturnsInHanded {} Tryd.checked os 4 .any ((Rows.OpenSpec.upto Rows.frameTellsSpec).preRow enc Tryd.prog Tryd.f4 Rows.frameTellsUptoRow.domain false Rows.frameTellsUptoRow.laid) (((Rows.OpenSpec.upto Rows.frameTellsSpec).at F).post enc Tryd.prog Tryd.f4 false true false false) := by
  obtain ⟨places, hx⟩ := reads os enc
  refine returnsInHanded_of_row (C := Tryd.checked) (s := Rows.OpenSpec.upto Rows.frameTellsSpec) ownKnobNone started (by kernel_rfl) Tryd.func4
    (witness_row_at (enc := enc) (C := Tryd.checked) false (laidWorld os) #[.slice none 0 0, .slice none 0 0] (World.laidAll_os _ _ _) (by kernel_rfl) (by kernel_rfl) (by kernel_rfl)
      (OpenSpec.preRow_of_cond 8 hx (by kernel_rfl) (fun k hk => by cases hk; kernel_rfl) (by kernel_rfl) (laid_met os))) ?_
  intro W base args ds gs before hval hW _ hcond _ hL _ _
  exact contract H enc W base args ds gs before hval hW (hcond _ rfl) hL

theorem said : Rows.FrameTellsUptoSaid :=
  OpenClaim.holds_of_cond 4 Tryd.f4 rfl rfl rfl rfl rfl rfl rfl ⟨rfl, rfl, rfl, rfl, rfl⟩ rfl rfl rfl rfl rfl (by kernel_rfl) Tryd.func4 (by kernel_rfl)
    (of_decide_eq_true (by kernel_rfl)) (by unfold Func.isWrapper; first | (rw [if_pos (by decide +kernel)]; kernel_rfl) | (rw [if_neg (by decide +kernel)]; exact ⟨rfl, rfl⟩))
    (fun os started H enc _ F => by rw [OpenClaim.pre_eq_preRow]; exact lifted os started H enc F)

theorem plain (f : FuncId) (fn : Func) (hf : Tryd.pinned.checked.prog.funcNamed "undertone/underlaw11.FrameTells" = some f) (hfn : Tryd.pinned.checked.prog.funcs[f]? = some fn) :
    true = Tryd.pinned.checked.prog.looks [] ∧ ∀ (j : Nat) t, fn.params[j]? = some t → Tryd.pinned.checked.prog.wantsStandIn t = false := by
  obtain rfl : f = 4 := Option.some.inj ((show Tryd.prog.funcNamed "undertone/underlaw11.FrameTells" = some 4 by kernel_rfl).symm.trans hf) |>.symm
  obtain rfl : fn = Tryd.f4 := (Option.some.inj (Tryd.func4.symm.trans hfn)).symm
  refine ⟨by kernel_rfl, fun j t ht => ?_⟩
  rw [Tryd.params4] at ht
  have hm := Array.mem_of_getElem? ht
  simp only [List.mem_toArray, List.mem_cons, List.not_mem_nil, or_false] at hm
  rcases hm with rfl | rfl
  · exact (show Tryd.prog.wantsStandIn 37 = false by kernel_rfl)
  · exact (show Tryd.prog.wantsStandIn 38 = false by kernel_rfl)

theorem proved : Rows.FrameTellsUptoCardSaid :=
  Claim7.holds_tied_plain_at .later [] _ _ _ _ said (fun _ h => by cases h) (by kernel_rfl) (fun _ h => by cases h) frameTellsUpto_row_tie rfl ⟨rfl, rfl⟩ (by kernel_rfl) rfl plain (by kernel_rfl)
end Go.Proofs.YtkbiakajlfmakaaDoor.frameTellsTop
end
