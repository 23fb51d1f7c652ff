/- Own work: texts PsA2, one behind the other. -/
import Derived.Test.YtjfkjpbkmpofkaaIt21
section
namespace Go.Proofs.Ytjfkjpbkmpofkaa
open Go.Fw
structure KAB where
  a : Nat
  b : Nat
set_option maxHeartbeats 16000000 in
theorem p_sameStmts : ∀ (n : Nat) (l : List Sp.Stm), SizeOf.sizeOf l ≤ n → l.length ≤ 64 → Sp.stmsSmall l → ∀ (I : Imm) (a b : Option Addr) (c d : Nat) (xs ys : List Value), RowI I 113 15 (.slice a l.length c) l.length xs → StsAt I l xs →
    RowI I 113 15 (.slice b l.length d) l.length ys → StsAt I l ys →
    CalM Try.prog 41 #[.slice a l.length c, .slice b l.length d] I [] ToTrue := by
  intro n
  induction n with
  | zero => intro l h; cases l <;> simp at h
  | succ n ih =>
  intro l hsz hll hsm I a b c d xs ys hr hx hr2 hy
  refine CalM.of fun w E hm => enter (N := 96) Try.func41 rfl [(0, .slice a l.length c), (1, .slice b l.length d)] args2 rfl ?_
  repeat' (first
  | (refine m_allocS (d:=6) hm (k:=?_); clear hm; intro b6 _ hm)
  | (refine m_allocS (d:=7) hm (k:=?_); clear hm; intro b7 _ hm)
  | refine m_load1 hm (k:=?_)
  | refine i_load1 hm (k:=?_)
  | refine m_loadAll hm (k:=?_)
  | refine i_loadN hm (k:=?_)
  | refine i_load1z hm (k:=?_)
  | refine mq_load1 hm (k:=?_)
  | refine iq_load1 hm (k:=?_)
  | refine mq_loadAll hm (k:=?_)
  | refine iq_loadN hm (k:=?_)
  | refine iq_load1z hm (k:=?_)
  | (refine m_storeAll hm (k:=?_); clear hm; intro _ hm; try simp only [setn] at hm)
  | (refine m_store1 hm (k:=?_); clear hm; intro _ hm; try simp only [setn] at hm)
  | (refine m_storeN hm (k:=?_); clear hm; intro _ hm; try simp only [setn] at hm)
  | refine m_ret_agg hm (h:=?_)
  | refine m_ret2_agg hm (h:=?_)
  | refine op_move (k:=?_)
  | refine op_assign (k:=?_)
  | refine op_pick_true (k:=?_)
  | refine op_pick_false (k:=?_)
  | refine op_lss (k:=?_)
  | refine op_neq (k:=?_)
  | refine op_neq_str (k:=?_)
  | refine op_neq_bool (k:=?_)
  | refine op_neq_flat (k:=?_)
  | refine op_len_str (k:=?_)
  | refine op_len_slice (k:=?_)
  | refine op_not (k:=?_)
  | refine op_add (k:=?_)
  | refine op_add_u8 (k:=?_)
  | refine op_indexAddr_arr (k:=?_)
  | refine op_fieldAddr (k:=?_)
  | refine op_indexAddr (k:=?_)
  | refine op_load1 (k:=?_)
  | refine wl_skip (k:=?_)
  | (refine wl_split_dec (h1:=fun _ => ?_) (h0:=fun _ => ?_)<;> (try first | contradiction | (exfalso; omega)))
  | (refine wl_split (h1:=fun _ => ?_) (h0:=fun _ => ?_)<;> (fail_if_success contradiction))
  | refine wl_nil ?_
  | refine at_then_normal ?_
  | refine at_then_ret ?_
  | refine at_then_exit ?_
  | refine at_block_normal ?_
  | refine at_block_ret ?_
  | refine at_block_exit ?_
  | refine at_block_other (h:=?_)
  | refine wc_seq ?_
  | refine wc_region ?_
  | refine wc_block ?_
  | refine wc_skip ?_
  | refine wc_exit ?_
  | refine wc_ret ?_
  | refine at_ret1 (h:=?_)
  | refine wc_quiet (h:=?_)
  | (refine wq_nil ?_; intro _ hkq; replace hm := hm.kept0 hkq; clear hkq)
  | (refine wq_nil_tail ?_; intro _ hkq; replace hm := hm.kept0 hkq; clear hkq)
  | refine wc_cond_true (ht:=?_)
  | refine wc_cond_false (hf:=?_)
  | (refine wc_cond_dec (ht:=fun _ => ?_) (hf:=fun _ => ?_)<;> (try first | contradiction | (exfalso; omega)))
  | refine wc_cond (ht:=fun _ => ?_) (hf:=fun _ => ?_)
  | refine q_move (k:=?_)
  | refine q_assign (k:=?_)
  | refine q_pick_true (k:=?_)
  | refine q_pick_false (k:=?_)
  | refine q_lss (k:=?_)
  | refine q_neq (k:=?_)
  | refine q_neq_str (k:=?_)
  | refine q_neq_bool (k:=?_)
  | refine q_neq_flat (k:=?_)
  | refine q_len_str (k:=?_)
  | refine q_len_slice (k:=?_)
  | refine q_not (k:=?_)
  | refine q_add (k:=?_)
  | refine q_add_u8 (k:=?_)
  | refine q_indexAddr_arr (k:=?_)
  | refine q_fieldAddr (k:=?_)
  | refine q_indexAddr (k:=?_)
  | refine q_load1 (k:=?_)
  | refine wq_skip (k:=?_)
  | (refine wq_split_dec (h1:=fun _ => ?_) (h0:=fun _ => ?_)<;> (try first | contradiction | (exfalso; omega)))
  | (refine wq_split (h1:=fun _ => ?_) (h0:=fun _ => ?_)<;> (fail_if_success contradiction)))
  all_goals try (exfalso; omega)
  refine wc_loop (fun x : KI => [(0, .slice a l.length c), (1, .slice b l.length d), (14, nt l.length), (15, nt x.k)])
    (fun x w' => Mem E x.I [] w' ∧ Le I x.I ∧ x.k ≤ l.length)
    (fun x => l.length - x.k) ⟨0, I⟩ (by exact ⟨rfl, rfl, rfl, rfl, trivial⟩) ⟨hm, Le.refl _, Nat.zero_le _⟩ ?_
  clear hm
  rintro ⟨k, I1⟩ w2 ⟨hm, hle1, hk⟩
  dsimp only at hm hle1 hk ⊢
  by_cases hlt : k < l.length
  · have hg : l[k]? = some l[k] := List.getElem?_eq_getElem hlt
    have hme := Sp.sizeL_mem (List.getElem_mem hlt)
    obtain ⟨ea2, ec2, ex2, a2, c2, xs2, a3, c3, xs3, hc2, hr3, hx3, hr4, hx4, hr5, hx5⟩ := (hx.get hg).out
    obtain ⟨eb2, ed2, ey2, b2, d2, ys2, b3, d3, ys3, hd2, hs3, hy3, hs4, hy4, hs5, hy5⟩ := (hy.get hg).out
    have hsm2 := Sp.stmsSmall_get hsm hg
    generalize l[k] = y at hg hc2 hr3 hx3 hr4 hx4 hr5 hx5 hd2 hs3 hy3 hs4 hy4 hs5 hy5 hsm2 hme
    obtain ⟨s1, s2, s3, s4, s5⟩ := Sp.small_parts hsm2
    obtain ⟨z1, z2⟩ := Sp.size_thn (s := y)
    have hce := fun (I' : Imm) (m : Le I I') => p_sameExpr (SizeOf.sizeOf y.e) y.e (Nat.le_refl _) s1 I' ea2 eb2 ec2 ed2 ex2 ey2 (hr3.le m) (ExsAt.le m _ _ hx3) (hs3.le m) (ExsAt.le m _ _ hy3)
    have hct := fun (I' : Imm) (m : Le I I') => ih y.thn (by omega) s2 s3 I' a2 b2 c2 d2 xs2 ys2 (hr4.le m) (StsAt.le m _ _ hx4) (hs4.le m) (StsAt.le m _ _ hy4)
    have hcl := fun (I' : Imm) (m : Le I I') => ih y.els (by omega) s4 s5 I' a3 b3 c3 d3 xs3 ys3 (hr5.le m) (StsAt.le m _ _ hx5) (hs5.le m) (StsAt.le m _ _ hy5)
    have hri := hr.le hle1
    have hri2 := hr2.le hle1
    obtain ⟨cx, hcx⟩ : ∃ cx, cx = stCells y.kind y.name y.at_ y.label y.opn y.e ea2 ec2 (.slice a2 y.thn.length c2) (.slice a3 y.els.length c3) y.fr y.to := ⟨_, rfl⟩
    obtain ⟨cy, hcy⟩ : ∃ cy, cy = stCells y.kind y.name y.at_ y.label y.opn y.e eb2 ed2 (.slice b2 y.thn.length d2) (.slice b3 y.els.length d3) y.fr y.to := ⟨_, rfl⟩
    have lcx : cx.length = 15 := by rw [hcx]; rfl
    have lcy : cy.length = 15 := by rw [hcy]; rfl
    have ocx : cx.all (·.oneCell') = true := by rw [hcx]; rfl
    have ocy : cy.all (·.oneCell') = true := by rw [hcy]; rfl
    repeat' (first
    | refine wc_hold 6 ?_
    | (refine m_allocS (d:=6) hm (k:=?_); clear hm; intro b6 _ hm)
    | (refine m_allocS (d:=7) hm (k:=?_); clear hm; intro b7 _ hm)
    | refine m_load1 hm (k:=?_)
    | refine i_load1 hm (k:=?_)
    | refine m_loadAll hm (k:=?_)
    | refine i_loadN hm (k:=?_)
    | refine i_load1z hm (k:=?_)
    | refine mq_load1 hm (k:=?_)
    | refine iq_load1 hm (k:=?_)
    | refine mq_loadAll hm (k:=?_)
    | refine iq_loadN hm (k:=?_)
    | refine iq_load1z hm (k:=?_)
    | (refine m_storeAll hm (k:=?_); clear hm; intro _ hm; try simp only [setn] at hm)
    | (refine m_store1 hm (k:=?_); clear hm; intro _ hm; try simp only [setn] at hm)
    | (refine m_storeN hm (k:=?_); clear hm; intro _ hm; try simp only [setn] at hm)
    | refine m_ret_agg hm (h:=?_)
    | refine m_ret2_agg hm (h:=?_)
    | refine op_move (k:=?_)
    | refine op_assign (k:=?_)
    | refine op_pick_true (k:=?_)
    | refine op_pick_false (k:=?_)
    | refine op_lss (k:=?_)
    | refine op_neq (k:=?_)
    | refine op_neq_str (k:=?_)
    | refine op_neq_bool (k:=?_)
    | refine op_neq_flat (k:=?_)
    | refine op_len_str (k:=?_)
    | refine op_len_slice (k:=?_)
    | refine op_not (k:=?_)
    | refine op_add (k:=?_)
    | refine op_add_u8 (k:=?_)
    | refine op_indexAddr_arr (k:=?_)
    | refine op_fieldAddr (k:=?_)
    | refine op_indexAddr (k:=?_)
    | refine op_load1 (k:=?_)
    | refine wl_skip (k:=?_)
    | (refine wl_split_dec (h1:=fun _ => ?_) (h0:=fun _ => ?_)<;> (try first | contradiction | (exfalso; omega)))
    | (refine wl_split (h1:=fun _ => ?_) (h0:=fun _ => ?_)<;> (fail_if_success contradiction))
    | refine wl_nil ?_
    | refine at_then_normal ?_
    | refine at_then_ret ?_
    | refine at_then_exit ?_
    | refine at_block_normal ?_
    | refine at_block_ret ?_
    | refine at_block_exit ?_
    | refine at_block_other (h:=?_)
    | refine wc_seq ?_
    | refine wc_region ?_
    | refine wc_block ?_
    | refine wc_skip ?_
    | refine wc_exit ?_
    | refine wc_ret ?_
    | refine at_ret1 (h:=?_)
    | refine wc_quiet (h:=?_)
    | (refine wq_nil ?_; intro _ hkq; replace hm := hm.kept0 hkq; clear hkq)
    | (refine wq_nil_tail ?_; intro _ hkq; replace hm := hm.kept0 hkq; clear hkq)
    | refine wc_cond_true (ht:=?_)
    | refine wc_cond_false (hf:=?_)
    | (refine wc_cond_dec (ht:=fun _ => ?_) (hf:=fun _ => ?_)<;> (try first | contradiction | (exfalso; omega)))
    | refine wc_cond (ht:=fun _ => ?_) (hf:=fun _ => ?_)
    | refine q_move (k:=?_)
    | refine q_assign (k:=?_)
    | refine q_pick_true (k:=?_)
    | refine q_pick_false (k:=?_)
    | refine q_lss (k:=?_)
    | refine q_neq (k:=?_)
    | refine q_neq_str (k:=?_)
    | refine q_neq_bool (k:=?_)
    | refine q_neq_flat (k:=?_)
    | refine q_len_str (k:=?_)
    | refine q_len_slice (k:=?_)
    | refine q_not (k:=?_)
    | refine q_add (k:=?_)
    | refine q_add_u8 (k:=?_)
    | refine q_indexAddr_arr (k:=?_)
    | refine q_fieldAddr (k:=?_)
    | refine q_indexAddr (k:=?_)
    | refine q_load1 (k:=?_)
    | refine wq_skip (k:=?_)
    | (refine wq_split_dec (h1:=fun _ => ?_) (h0:=fun _ => ?_)<;> (try first | contradiction | (exfalso; omega)))
    | (refine wq_split (h1:=fun _ => ?_) (h0:=fun _ => ?_)<;> (fail_if_success contradiction)))
    refine ⟨wc_midF 6 (fun x : KAB => [(0, .slice a l.length c), (1, .slice b l.length d), (14, nt l.length), (15, nt k), (6, ptr x.a), (7, ptr x.b)]) (fun x w' => Mem E I1 [.cell x.b cy 113, .cell x.a cx 113] w') ?_ ?_⟩
    · skip
      repeat' (first
      | (refine wc_fork_mem (id:=6) (hm.perm pm0) [0,1,2,3,4,5,6,7] 11 (h:=?_); clear hm; intro wd hR hm)
      | (refine iw_indexAddr (d:=20) (hr:=hri) (k:=?_); intro bt ot hpt; rw [show ((k : Int).toNat * 15) = k * 15 from rfl, hc2, ← hcx] at hpt)
      | (refine iw_indexAddr (d:=24) (hr:=hri2) (k:=?_); intro bu ou hpu; rw [show ((k : Int).toNat * 15) = k * 15 from rfl, hd2, ← hcy] at hpu)
      | (refine iw_loadN (d:=21) hR (hp:=hpt) (hc:=by exact lcx) (k:=?_))
      | (refine iw_loadN (d:=25) hR (hp:=hpu) (hc:=by exact lcy) (k:=?_))
      | (refine wa_two (i:=8) (j:=9) (by decide +kernel) (h:=?_) (h2:=?_))
      | (refine wa_one (i:=8) (by decide +kernel) (h:=?_))
      | (refine wa_one (i:=9) (by decide +kernel) (h:=?_))
      | (refine wa_one (i:=10) (by decide +kernel) (h:=?_))
      | (refine mu_storeAll hm (hn:=by exact lcx) (h1:=by exact ocx) (k:=?_); clear hm; intro _ hm; try simp only [setn] at hm)
      | (refine m_storeAll hm (hn:=by exact lcy) (h1:=by exact ocy) (k:=?_); clear hm; intro _ hm; try simp only [setn] at hm)
      | (refine wa_nil (by decide +kernel) ?_; replace hm := hR.back hm; clear hR; try simp only [setn] at hm)
      | refine mw_loadAll hR (k:=?_)
      | refine mw_load1 hR (k:=?_)
      | refine iw_load1 hR (k:=?_)
      | refine mt_struct hm (k:=?_)
      | refine iw_loadN hR (k:=?_)
      | (refine mt_allocS (d:=6) hm (k:=?_); clear hm; intro b6 _ hm)
      | (refine mt_allocS (d:=7) hm (k:=?_); clear hm; intro b7 _ hm)
      | (refine ws_nil ?_; replace hm := hR.back hm; clear hR; try simp only [setn] at hm)
      | (refine mu_allocS (d:=6) hm (k:=?_); clear hm; intro b6 _ hm)
      | (refine mu_allocS (d:=7) hm (k:=?_); clear hm; intro b7 _ hm)
      | refine wv_nilA ?_
      | refine wa_one (by rfl) (h:=?_)
      | refine wa_two (by rfl) (h:=?_) (h2:=?_)
      | (refine wa_nil (by rfl) ?_; replace hm := hR.back hm; clear hR; try simp only [setn] at hm)
      | (refine mu_storeAll hm (k:=?_); clear hm; intro _ hm; try simp only [setn] at hm)
      | (refine m_allocS (d:=6) hm (k:=?_); clear hm; intro b6 _ hm)
      | (refine m_allocS (d:=7) hm (k:=?_); clear hm; intro b7 _ hm)
      | refine m_load1 hm (k:=?_)
      | refine i_load1 hm (k:=?_)
      | refine m_loadAll hm (k:=?_)
      | refine i_loadN hm (k:=?_)
      | refine i_load1z hm (k:=?_)
      | refine mq_load1 hm (k:=?_)
      | refine iq_load1 hm (k:=?_)
      | refine mq_loadAll hm (k:=?_)
      | refine iq_loadN hm (k:=?_)
      | refine iq_load1z hm (k:=?_)
      | (refine m_storeAll hm (k:=?_); clear hm; intro _ hm; try simp only [setn] at hm)
      | (refine m_store1 hm (k:=?_); clear hm; intro _ hm; try simp only [setn] at hm)
      | (refine m_storeN hm (k:=?_); clear hm; intro _ hm; try simp only [setn] at hm)
      | refine m_ret_agg hm (h:=?_)
      | refine m_ret2_agg hm (h:=?_)
      | refine op_move (k:=?_)
      | refine op_assign (k:=?_)
      | refine op_pick_true (k:=?_)
      | refine op_pick_false (k:=?_)
      | refine op_lss (k:=?_)
      | refine op_neq (k:=?_)
      | refine op_neq_str (k:=?_)
      | refine op_neq_bool (k:=?_)
      | refine op_neq_flat (k:=?_)
      | refine op_len_str (k:=?_)
      | refine op_len_slice (k:=?_)
      | refine op_not (k:=?_)
      | refine op_add (k:=?_)
      | refine op_add_u8 (k:=?_)
      | refine op_indexAddr_arr (k:=?_)
      | refine op_fieldAddr (k:=?_)
      | refine op_indexAddr (k:=?_)
      | refine op_load1 (k:=?_)
      | refine wl_skip (k:=?_)
      | (refine wl_split_dec (h1:=fun _ => ?_) (h0:=fun _ => ?_)<;> (try first | contradiction | (exfalso; omega)))
      | (refine wl_split (h1:=fun _ => ?_) (h0:=fun _ => ?_)<;> (fail_if_success contradiction))
      | refine wl_nil ?_
      | refine at_then_normal ?_
      | refine at_then_ret ?_
      | refine at_then_exit ?_
      | refine at_block_normal ?_
      | refine at_block_ret ?_
      | refine at_block_exit ?_
      | refine at_block_other (h:=?_)
      | refine wc_seq ?_
      | refine wc_region ?_
      | refine wc_block ?_
      | refine wc_skip ?_
      | refine wc_exit ?_
      | refine wc_ret ?_
      | refine at_ret1 (h:=?_)
      | refine wc_quiet (h:=?_)
      | (refine wq_nil ?_; intro _ hkq; replace hm := hm.kept0 hkq; clear hkq)
      | (refine wq_nil_tail ?_; intro _ hkq; replace hm := hm.kept0 hkq; clear hkq)
      | refine wc_cond_true (ht:=?_)
      | refine wc_cond_false (hf:=?_)
      | (refine wc_cond_dec (ht:=fun _ => ?_) (hf:=fun _ => ?_)<;> (try first | contradiction | (exfalso; omega)))
      | refine wc_cond (ht:=fun _ => ?_) (hf:=fun _ => ?_)
      | refine q_move (k:=?_)
      | refine q_assign (k:=?_)
      | refine q_pick_true (k:=?_)
      | refine q_pick_false (k:=?_)
      | refine q_lss (k:=?_)
      | refine q_neq (k:=?_)
      | refine q_neq_str (k:=?_)
      | refine q_neq_bool (k:=?_)
      | refine q_neq_flat (k:=?_)
      | refine q_len_str (k:=?_)
      | refine q_len_slice (k:=?_)
      | refine q_not (k:=?_)
      | refine q_add (k:=?_)
      | refine q_add_u8 (k:=?_)
      | refine q_indexAddr_arr (k:=?_)
      | refine q_fieldAddr (k:=?_)
      | refine q_indexAddr (k:=?_)
      | refine q_load1 (k:=?_)
      | refine wq_skip (k:=?_)
      | (refine wq_split_dec (h1:=fun _ => ?_) (h0:=fun _ => ?_)<;> (try first | contradiction | (exfalso; omega)))
      | (refine wq_split (h1:=fun _ => ?_) (h0:=fun _ => ?_)<;> (fail_if_success contradiction))
      | refine v_move (k:=?_)
      | refine v_assign (k:=?_)
      | refine v_pick_true (k:=?_)
      | refine v_pick_false (k:=?_)
      | refine v_lss (k:=?_)
      | refine v_neq (k:=?_)
      | refine v_neq_str (k:=?_)
      | refine v_neq_bool (k:=?_)
      | refine v_neq_flat (k:=?_)
      | refine v_len_str (k:=?_)
      | refine v_len_slice (k:=?_)
      | refine v_not (k:=?_)
      | refine v_add (k:=?_)
      | refine v_add_u8 (k:=?_)
      | refine v_indexAddr_arr (k:=?_)
      | refine v_fieldAddr (k:=?_)
      | refine v_indexAddr (k:=?_)
      | refine v_load1 (by rfl) (by rfl) (by rfl) (by assumption) (by rfl) ?_
      | refine wv_skip (k:=?_)
      | (refine wv_split (h1:=fun _ => ?_) (h0:=fun _ => ?_)<;> (fail_if_success contradiction))
      | refine wv_nil ?_
      | refine ws_nil ?_)
      all_goals first
        | exact at_cut (⟨b6, b7⟩ : KAB) (by exact ⟨rfl, rfl, rfl, rfl, rfl, rfl, trivial⟩) hm
        | exact at_cut (⟨b6, b7⟩ : KAB) (by exact ⟨rfl, rfl, rfl, rfl, rfl, rfl, trivial⟩) (hm.perm (.swap _ _ _))
    · clear hm
      rintro ⟨b6, b7⟩ w3 hm
      dsimp only at hm ⊢
      subst hcx; subst hcy
      repeat' (first
      | (refine m_loadN (d := 74) (vs := exCells y.e ea2 ec2) hm (by rfl) (by rfl) (by rfl) (by first | exact gt0 | exact gt1 | exact gt2 | exact gt3 | exact gt4 | exact gt5 | exact gt6) (by rfl) (by rfl) ?_)
      | (refine m_loadN (d := 76) (vs := exCells y.e eb2 ed2) hm (by rfl) (by rfl) (by rfl) (by first | exact gt0 | exact gt1 | exact gt2 | exact gt3 | exact gt4 | exact gt5 | exact gt6) (by rfl) (by rfl) ?_)
      | (refine m_call (d:=77) hm (hc:=hce _ hle1) (k:=?_); clear hm; rintro _ I2 _ _ ⟨rfl, rfl⟩ hle hm; have hleI2 := hle; try simp only [setn] at hm)
      | (refine m_call (d:=84) hm (hc:=hct _ (hle1.trans hleI2)) (k:=?_); clear hm; rintro _ I3 _ _ ⟨rfl, rfl⟩ hle hm; have hleI3 := hle; try simp only [setn] at hm)
      | (refine m_call (d:=92) hm (hc:=hcl _ ((hle1.trans hleI2).trans hleI3)) (k:=?_); clear hm; rintro _ I4 _ _ ⟨rfl, rfl⟩ hle hm; have hleI4 := hle; try simp only [setn] at hm)
      | (refine m_allocS (d:=6) hm (k:=?_); clear hm; intro b6 _ hm)
      | (refine m_allocS (d:=7) hm (k:=?_); clear hm; intro b7 _ hm)
      | refine m_load1 hm (k:=?_)
      | refine i_load1 hm (k:=?_)
      | refine m_loadAll hm (k:=?_)
      | refine i_loadN hm (k:=?_)
      | refine i_load1z hm (k:=?_)
      | refine mq_load1 hm (k:=?_)
      | refine iq_load1 hm (k:=?_)
      | refine mq_loadAll hm (k:=?_)
      | refine iq_loadN hm (k:=?_)
      | refine iq_load1z hm (k:=?_)
      | (refine m_storeAll hm (k:=?_); clear hm; intro _ hm; try simp only [setn] at hm)
      | (refine m_store1 hm (k:=?_); clear hm; intro _ hm; try simp only [setn] at hm)
      | (refine m_storeN hm (k:=?_); clear hm; intro _ hm; try simp only [setn] at hm)
      | refine m_ret_agg hm (h:=?_)
      | refine m_ret2_agg hm (h:=?_)
      | refine op_move (k:=?_)
      | refine op_assign (k:=?_)
      | refine op_pick_true (k:=?_)
      | refine op_pick_false (k:=?_)
      | refine op_lss (k:=?_)
      | refine op_neq (k:=?_)
      | refine op_neq_str (k:=?_)
      | refine op_neq_bool (k:=?_)
      | refine op_neq_flat (k:=?_)
      | refine op_len_str (k:=?_)
      | refine op_len_slice (k:=?_)
      | refine op_not (k:=?_)
      | refine op_add (k:=?_)
      | refine op_add_u8 (k:=?_)
      | refine op_indexAddr_arr (k:=?_)
      | refine op_fieldAddr (k:=?_)
      | refine op_indexAddr (k:=?_)
      | refine op_load1 (k:=?_)
      | refine wl_skip (k:=?_)
      | (refine wl_split_dec (h1:=fun _ => ?_) (h0:=fun _ => ?_)<;> (try first | contradiction | (exfalso; omega)))
      | (refine wl_split (h1:=fun _ => ?_) (h0:=fun _ => ?_)<;> (fail_if_success contradiction))
      | refine wl_nil ?_
      | refine at_then_normal ?_
      | refine at_then_ret ?_
      | refine at_then_exit ?_
      | refine at_block_normal ?_
      | refine at_block_ret ?_
      | refine at_block_exit ?_
      | refine at_block_other (h:=?_)
      | refine wc_seq ?_
      | refine wc_region ?_
      | refine wc_block ?_
      | refine wc_skip ?_
      | refine wc_exit ?_
      | refine wc_ret ?_
      | refine at_ret1 (h:=?_)
      | refine wc_quiet (h:=?_)
      | (refine wq_nil ?_; intro _ hkq; replace hm := hm.kept0 hkq; clear hkq)
      | (refine wq_nil_tail ?_; intro _ hkq; replace hm := hm.kept0 hkq; clear hkq)
      | refine wc_cond_true (ht:=?_)
      | refine wc_cond_false (hf:=?_)
      | (refine wc_cond_dec (ht:=fun _ => ?_) (hf:=fun _ => ?_)<;> (try first | contradiction | (exfalso; omega)))
      | refine wc_cond (ht:=fun _ => ?_) (hf:=fun _ => ?_)
      | refine q_move (k:=?_)
      | refine q_assign (k:=?_)
      | refine q_pick_true (k:=?_)
      | refine q_pick_false (k:=?_)
      | refine q_lss (k:=?_)
      | refine q_neq (k:=?_)
      | refine q_neq_str (k:=?_)
      | refine q_neq_bool (k:=?_)
      | refine q_neq_flat (k:=?_)
      | refine q_len_str (k:=?_)
      | refine q_len_slice (k:=?_)
      | refine q_not (k:=?_)
      | refine q_add (k:=?_)
      | refine q_add_u8 (k:=?_)
      | refine q_indexAddr_arr (k:=?_)
      | refine q_fieldAddr (k:=?_)
      | refine q_indexAddr (k:=?_)
      | refine q_load1 (k:=?_)
      | refine wq_skip (k:=?_)
      | (refine wq_split_dec (h1:=fun _ => ?_) (h0:=fun _ => ?_)<;> (try first | contradiction | (exfalso; omega)))
      | (refine wq_split (h1:=fun _ => ?_) (h0:=fun _ => ?_)<;> (fail_if_success contradiction)))
      all_goals try (exfalso; first | omega | contradiction)
      exact at_round (⟨k + 1, I4⟩ : KI) (by exact ⟨rfl, rfl, rfl, rfl, trivial⟩) ⟨hm.left (H := []), ((hle1.trans hleI2).trans hleI3).trans hleI4, by dsimp only; omega⟩ (by dsimp only; omega)
  · obtain rfl : k = l.length := by omega
    repeat' (first
    | (refine m_allocS (d:=6) hm (k:=?_); clear hm; intro b6 _ hm)
    | (refine m_allocS (d:=7) hm (k:=?_); clear hm; intro b7 _ hm)
    | refine m_load1 hm (k:=?_)
    | refine i_load1 hm (k:=?_)
    | refine m_loadAll hm (k:=?_)
    | refine i_loadN hm (k:=?_)
    | refine i_load1z hm (k:=?_)
    | refine mq_load1 hm (k:=?_)
    | refine iq_load1 hm (k:=?_)
    | refine mq_loadAll hm (k:=?_)
    | refine iq_loadN hm (k:=?_)
    | refine iq_load1z hm (k:=?_)
    | (refine m_storeAll hm (k:=?_); clear hm; intro _ hm; try simp only [setn] at hm)
    | (refine m_store1 hm (k:=?_); clear hm; intro _ hm; try simp only [setn] at hm)
    | (refine m_storeN hm (k:=?_); clear hm; intro _ hm; try simp only [setn] at hm)
    | refine m_ret_agg hm (h:=?_)
    | refine m_ret2_agg hm (h:=?_)
    | refine op_move (k:=?_)
    | refine op_assign (k:=?_)
    | refine op_pick_true (k:=?_)
    | refine op_pick_false (k:=?_)
    | refine op_lss (k:=?_)
    | refine op_neq (k:=?_)
    | refine op_neq_str (k:=?_)
    | refine op_neq_bool (k:=?_)
    | refine op_neq_flat (k:=?_)
    | refine op_len_str (k:=?_)
    | refine op_len_slice (k:=?_)
    | refine op_not (k:=?_)
    | refine op_add (k:=?_)
    | refine op_add_u8 (k:=?_)
    | refine op_indexAddr_arr (k:=?_)
    | refine op_fieldAddr (k:=?_)
    | refine op_indexAddr (k:=?_)
    | refine op_load1 (k:=?_)
    | refine wl_skip (k:=?_)
    | (refine wl_split_dec (h1:=fun _ => ?_) (h0:=fun _ => ?_)<;> (try first | contradiction | (exfalso; omega)))
    | (refine wl_split (h1:=fun _ => ?_) (h0:=fun _ => ?_)<;> (fail_if_success contradiction))
    | refine wl_nil ?_
    | refine at_then_normal ?_
    | refine at_then_ret ?_
    | refine at_then_exit ?_
    | refine at_block_normal ?_
    | refine at_block_ret ?_
    | refine at_block_exit ?_
    | refine at_block_other (h:=?_)
    | refine wc_seq ?_
    | refine wc_region ?_
    | refine wc_block ?_
    | refine wc_skip ?_
    | refine wc_exit ?_
    | refine wc_ret ?_
    | refine at_ret1 (h:=?_)
    | refine wc_quiet (h:=?_)
    | (refine wq_nil ?_; intro _ hkq; replace hm := hm.kept0 hkq; clear hkq)
    | (refine wq_nil_tail ?_; intro _ hkq; replace hm := hm.kept0 hkq; clear hkq)
    | refine wc_cond_true (ht:=?_)
    | refine wc_cond_false (hf:=?_)
    | (refine wc_cond_dec (ht:=fun _ => ?_) (hf:=fun _ => ?_)<;> (try first | contradiction | (exfalso; omega)))
    | refine wc_cond (ht:=fun _ => ?_) (hf:=fun _ => ?_)
    | refine q_move (k:=?_)
    | refine q_assign (k:=?_)
    | refine q_pick_true (k:=?_)
    | refine q_pick_false (k:=?_)
    | refine q_lss (k:=?_)
    | refine q_neq (k:=?_)
    | refine q_neq_str (k:=?_)
    | refine q_neq_bool (k:=?_)
    | refine q_neq_flat (k:=?_)
    | refine q_len_str (k:=?_)
    | refine q_len_slice (k:=?_)
    | refine q_not (k:=?_)
    | refine q_add (k:=?_)
    | refine q_add_u8 (k:=?_)
    | refine q_indexAddr_arr (k:=?_)
    | refine q_fieldAddr (k:=?_)
    | refine q_indexAddr (k:=?_)
    | refine q_load1 (k:=?_)
    | refine wq_skip (k:=?_)
    | (refine wq_split_dec (h1:=fun _ => ?_) (h0:=fun _ => ?_)<;> (try first | contradiction | (exfalso; omega)))
    | (refine wq_split (h1:=fun _ => ?_) (h0:=fun _ => ?_)<;> (fail_if_success contradiction)))
    all_goals try (exfalso; omega)
    exact ⟨I1, [], ⟨rfl, rfl⟩, hm.left (H := [])⟩
end Go.Proofs.Ytjfkjpbkmpofkaa
end
