/- Own work: texts RnC, one behind the other. -/
import Derived.Test.YtkbiakajlfmakaaGreatDoorNt22
section
namespace Go.Proofs.YtkbiakajlfmakaaGreatDoor
open Go.Fw
structure RX where
  k : Nat
  I : Imm
  da : Option Addr
  dp : Nat
  ua : Option Addr
  up : Nat
/-- what is shown of an expression's names. -/
def RExOk (src : List UInt8) (p : Nat) (q : List UInt8) (its : List Sp.Itm) (i : Nat) (it : Sp.Itm) (bc : Nat) (a : Option Addr) (cp : Nat) (xs : List Value) (sc : List Sp.Lc) (be : Nat) (es : Ents) (e : Sp.Ex) : Prop :=
  ∀ (I : Imm) (ea : Option Addr) (ec : Nat) (ys : List Value) (s : Sp.NW) (da : Option Addr) (dp : Nat) (ua : Option Addr) (up : Nat), s.n + 2 * e.cnt ≤ 900000000 → RC I src p q its i it a cp xs → EnvI I p sc be es →
    RowI I 100 6 (.slice ea e.args.length ec) e.args.length ys → ExsAt I e.args ys →
    CalM Tryz.prog 45 #[ptr bc, .map (some be), .agg (exCells e ea ec).toArray] I (WSt bc a its.length cp i s da dp ua up) (ToW bc a its.length cp i (Sp.exN its p sc e s) (.tuple #[]))
section
variable {src : List UInt8} {p : Nat} {q : List UInt8} {its : List Sp.Itm} {i : Nat} {it : Sp.Itm} {bc : Nat} {a : Option Addr} {cp : Nat} {xs : List Value} {sc : List Sp.Lc} {be : Nat} {es : Ents}
set_option maxHeartbeats 16000000 in
theorem r_expr : ∀ (n : Nat) (e : Sp.Ex), SizeOf.sizeOf e ≤ n → e.small → e.all (Sp.stE q) → RExOk src p q its i it bc a cp xs sc be es e := by
  intro n
  induction n with
  | zero => intro e h; cases e; simp at h
  | succ n ih =>
  intro e hsz hsm hall I ea ec ys s da dp ua up hn hC hE hr hx
  obtain ⟨hal, hasm⟩ := Sp.small_args hsm
  obtain ⟨hst, haall⟩ := Sp.Ex.all_node hall
  have hcnt := Sp.cnt_args e
  refine CalM.of fun w E hm => enter (N := 64) Tryz.func45 rfl [(0, ptr bc), (1, .map (some be)), (2, .agg (exCells e ea ec).toArray)] args3 rfl ?_
  have hhd := Sp.headN_n its p sc e s
  rw [Sp.exN_eq]
  have hhr : Sp.headN its p sc e s = if e.kind = 2 then Sp.locN p sc e.fr e.name s else if e.kind = 4 then Sp.callN its p e.fr e.name e.args.length s else s := rfl
  generalize Sp.headN its p sc e s = r at hhr hhd ⊢
  obtain ⟨r1, hr1⟩ : ∃ r1, r1 = if e.kind = 2 then Sp.locN p sc e.fr e.name s else s := ⟨_, rfl⟩
  have hr1n : s.n ≤ r1.n ∧ r1.n ≤ s.n + 1 := by
    have := Sp.locN_n p sc e.fr e.name s
    rw [hr1]; split <;> omega
  repeat' (first
  | (refine wc_cut_regN 1 (fun _ : RX => [(0, ptr bc), (1, .map (some be)), (5, ptr b5)]) (fun x w' => Mem E x.I (WSt bc a its.length cp i r1 x.da x.dp x.ua x.up) w' ∧ Le I x.I ∧ PtrI x.I b5 0 100 (exCells e ea ec)) ?_ ?_)
  | (refine m_box (d:=5) hm (k:=?_); clear hm; intro b5 _ hm)
  | (refine m_varS (d:=8) hm (k:=?_); clear hm; intro b8 _ hm)
  | (refine m_var1 (d:=8) hm (k:=?_); clear hm; intro b8 _ hm)
  | refine m_load1 hm (k:=?_)
  | refine i_load1 hm (k:=?_)
  | refine m_loadAll hm (k:=?_)
  | refine i_loadN hm (k:=?_)
  | refine i_load1z hm (k:=?_)
  | refine mq_load1 hm (k:=?_)
  | refine iq_load1 hm (k:=?_)
  | refine mq_loadAll hm (k:=?_)
  | refine iq_loadN hm (k:=?_)
  | refine iq_load1z hm (k:=?_)
  | (refine m_storeAll hm (k:=?_); clear hm; intro _ hm; try simp only [setn] at hm)
  | (refine m_store1 hm (k:=?_); clear hm; intro _ hm; try simp only [setn] at hm)
  | (refine m_storeN hm (k:=?_); clear hm; intro _ hm; try simp only [setn] at hm)
  | refine m_ret_agg hm (h:=?_)
  | refine m_ret2_agg hm (h:=?_)
  | refine op_move (k:=?_)
  | refine op_assign (k:=?_)
  | refine op_pick_true (k:=?_)
  | refine op_pick_false (k:=?_)
  | refine op_lss (k:=?_)
  | refine op_geq (k:=?_)
  | refine op_eql (k:=?_)
  | refine op_neq (k:=?_)
  | refine op_eql_str (k:=?_)
  | refine op_eql_bool (k:=?_)
  | refine op_eql_flat (k:=?_)
  | refine op_neq_str (k:=?_)
  | refine op_neq_bool (k:=?_)
  | refine op_neq_flat (k:=?_)
  | refine op_len_str (k:=?_)
  | refine op_len_slice (k:=?_)
  | refine op_nilCheck (k:=?_)
  | refine op_add (k:=?_)
  | refine op_add_u8 (k:=?_)
  | refine op_indexAddr_arr (k:=?_)
  | refine op_fieldAddr (k:=?_)
  | refine op_indexAddr (k:=?_)
  | refine op_load1 (k:=?_)
  | refine wl_skip (k:=?_)
  | (refine wl_split_dec (h1:=fun _ => ?_) (h0:=fun _ => ?_)<;> (try first | contradiction | (exfalso; omega)))
  | (refine wl_split (h1:=fun _ => ?_) (h0:=fun _ => ?_)<;> (fail_if_success contradiction))
  | refine wl_nil ?_
  | refine at_then_normal ?_
  | refine at_then_ret ?_
  | refine at_then_exit ?_
  | refine at_block_normal ?_
  | refine at_block_ret ?_
  | refine at_block_exit ?_
  | refine at_block_other (h:=?_)
  | refine wc_seq ?_
  | refine wc_region ?_
  | refine wc_block ?_
  | refine wc_skip ?_
  | refine wc_exit ?_
  | refine wc_ret ?_
  | refine at_ret0 (h:=?_)
  | refine at_end0 (h:=?_)
  | refine wc_quiet (h:=?_)
  | (refine wq_nil ?_; intro _ hkq; replace hm := hm.kept0 hkq; clear hkq)
  | (refine wq_nil_tail ?_; intro _ hkq; replace hm := hm.kept0 hkq; clear hkq)
  | refine wc_cond_true (ht:=?_)
  | refine wc_cond_false (hf:=?_)
  | (refine wc_cond_dec (ht:=fun _ => ?_) (hf:=fun _ => ?_)<;> (try first | contradiction | (exfalso; omega)))
  | refine wc_cond (ht:=fun _ => ?_) (hf:=fun _ => ?_)
  | refine q_move (k:=?_)
  | refine q_assign (k:=?_)
  | refine q_pick_true (k:=?_)
  | refine q_pick_false (k:=?_)
  | refine q_lss (k:=?_)
  | refine q_geq (k:=?_)
  | refine q_eql (k:=?_)
  | refine q_neq (k:=?_)
  | refine q_eql_str (k:=?_)
  | refine q_eql_bool (k:=?_)
  | refine q_eql_flat (k:=?_)
  | refine q_neq_str (k:=?_)
  | refine q_neq_bool (k:=?_)
  | refine q_neq_flat (k:=?_)
  | refine q_len_str (k:=?_)
  | refine q_len_slice (k:=?_)
  | refine q_nilCheck (k:=?_)
  | refine q_add (k:=?_)
  | refine q_add_u8 (k:=?_)
  | refine q_indexAddr_arr (k:=?_)
  | refine q_fieldAddr (k:=?_)
  | refine q_indexAddr (k:=?_)
  | refine q_load1 (k:=?_)
  | refine wq_skip (k:=?_)
  | (refine wq_split_dec (h1:=fun _ => ?_) (h0:=fun _ => ?_)<;> (try first | contradiction | (exfalso; omega)))
  | (refine wq_split (h1:=fun _ => ?_) (h0:=fun _ => ?_)<;> (fail_if_success contradiction)))
  · clear hhr hhd
    obtain ⟨I0, hle0, hm0, hp⟩ := hm.freezeO
    clear hm
    have hm := hm0
    clear hm0
    replace hC := hC.le hle0
    replace hE := hE.le hle0
    replace hr := hr.le hle0
    replace hx := ExsAt.le hle0 _ _ hx
    refine ⟨?_⟩
    by_cases k2 : e.kind = 2
    · rw [if_pos k2] at hr1
      subst hr1
      have hc := fun (J : Imm) (m : Le I0 J) => r_local (I := J) (bc := bc) (s := s) (da := da) (dp := dp) (ua := ua) (up := up) (hC.le m) (hE.le m) e.fr e.name (hst (.inl k2)) (by omega)
      repeat' (first
      | (refine m_call (d:=18) hm (hc:=(hc I0 (Le.refl _))) (k:=?_); clear hm; rintro _ I2 _ _ ⟨rfl, da2, dp2, ua2, up2, rfl⟩ hle hm; have hleI2 := hle; try simp only [setn] at hm)
      | (refine m_box (d:=5) hm (k:=?_); clear hm; intro b5 _ hm)
      | (refine m_varS (d:=8) hm (k:=?_); clear hm; intro b8 _ hm)
      | (refine m_var1 (d:=8) hm (k:=?_); clear hm; intro b8 _ hm)
      | refine m_load1 hm (k:=?_)
      | refine i_load1 hm (k:=?_)
      | refine m_loadAll hm (k:=?_)
      | refine i_loadN hm (k:=?_)
      | refine i_load1z hm (k:=?_)
      | refine mq_load1 hm (k:=?_)
      | refine iq_load1 hm (k:=?_)
      | refine mq_loadAll hm (k:=?_)
      | refine iq_loadN hm (k:=?_)
      | refine iq_load1z hm (k:=?_)
      | (refine m_storeAll hm (k:=?_); clear hm; intro _ hm; try simp only [setn] at hm)
      | (refine m_store1 hm (k:=?_); clear hm; intro _ hm; try simp only [setn] at hm)
      | (refine m_storeN hm (k:=?_); clear hm; intro _ hm; try simp only [setn] at hm)
      | refine m_ret_agg hm (h:=?_)
      | refine m_ret2_agg hm (h:=?_)
      | refine op_move (k:=?_)
      | refine op_assign (k:=?_)
      | refine op_pick_true (k:=?_)
      | refine op_pick_false (k:=?_)
      | refine op_lss (k:=?_)
      | refine op_geq (k:=?_)
      | refine op_eql (k:=?_)
      | refine op_neq (k:=?_)
      | refine op_eql_str (k:=?_)
      | refine op_eql_bool (k:=?_)
      | refine op_eql_flat (k:=?_)
      | refine op_neq_str (k:=?_)
      | refine op_neq_bool (k:=?_)
      | refine op_neq_flat (k:=?_)
      | refine op_len_str (k:=?_)
      | refine op_len_slice (k:=?_)
      | refine op_nilCheck (k:=?_)
      | refine op_add (k:=?_)
      | refine op_add_u8 (k:=?_)
      | refine op_indexAddr_arr (k:=?_)
      | refine op_fieldAddr (k:=?_)
      | refine op_indexAddr (k:=?_)
      | refine op_load1 (k:=?_)
      | refine wl_skip (k:=?_)
      | (refine wl_split_dec (h1:=fun _ => ?_) (h0:=fun _ => ?_)<;> (try first | contradiction | (exfalso; omega)))
      | (refine wl_split (h1:=fun _ => ?_) (h0:=fun _ => ?_)<;> (fail_if_success contradiction))
      | refine wl_nil ?_
      | refine at_then_normal ?_
      | refine at_then_ret ?_
      | refine at_then_exit ?_
      | refine at_block_normal ?_
      | refine at_block_ret ?_
      | refine at_block_exit ?_
      | refine at_block_other (h:=?_)
      | refine wc_seq ?_
      | refine wc_region ?_
      | refine wc_block ?_
      | refine wc_skip ?_
      | refine wc_exit ?_
      | refine wc_ret ?_
      | refine at_ret0 (h:=?_)
      | refine at_end0 (h:=?_)
      | refine wc_quiet (h:=?_)
      | (refine wq_nil ?_; intro _ hkq; replace hm := hm.kept0 hkq; clear hkq)
      | (refine wq_nil_tail ?_; intro _ hkq; replace hm := hm.kept0 hkq; clear hkq)
      | refine wc_cond_true (ht:=?_)
      | refine wc_cond_false (hf:=?_)
      | (refine wc_cond_dec (ht:=fun _ => ?_) (hf:=fun _ => ?_)<;> (try first | contradiction | (exfalso; omega)))
      | refine wc_cond (ht:=fun _ => ?_) (hf:=fun _ => ?_)
      | refine q_move (k:=?_)
      | refine q_assign (k:=?_)
      | refine q_pick_true (k:=?_)
      | refine q_pick_false (k:=?_)
      | refine q_lss (k:=?_)
      | refine q_geq (k:=?_)
      | refine q_eql (k:=?_)
      | refine q_neq (k:=?_)
      | refine q_eql_str (k:=?_)
      | refine q_eql_bool (k:=?_)
      | refine q_eql_flat (k:=?_)
      | refine q_neq_str (k:=?_)
      | refine q_neq_bool (k:=?_)
      | refine q_neq_flat (k:=?_)
      | refine q_len_str (k:=?_)
      | refine q_len_slice (k:=?_)
      | refine q_nilCheck (k:=?_)
      | refine q_add (k:=?_)
      | refine q_add_u8 (k:=?_)
      | refine q_indexAddr_arr (k:=?_)
      | refine q_fieldAddr (k:=?_)
      | refine q_indexAddr (k:=?_)
      | refine q_load1 (k:=?_)
      | refine wq_skip (k:=?_)
      | (refine wq_split_dec (h1:=fun _ => ?_) (h0:=fun _ => ?_)<;> (try first | contradiction | (exfalso; omega)))
      | (refine wq_split (h1:=fun _ => ?_) (h0:=fun _ => ?_)<;> (fail_if_success contradiction)))
      all_goals try (exfalso; omega)
      exact at_cut (⟨0, I2, da2, dp2, ua2, up2⟩ : RX) (by exact ⟨rfl, rfl, rfl, trivial⟩) ⟨hm, hle0.trans hleI2, hp.le hleI2⟩
    · rw [if_neg k2] at hr1
      subst hr1
      repeat' (first
      | (refine m_box (d:=5) hm (k:=?_); clear hm; intro b5 _ hm)
      | (refine m_varS (d:=8) hm (k:=?_); clear hm; intro b8 _ hm)
      | (refine m_var1 (d:=8) hm (k:=?_); clear hm; intro b8 _ hm)
      | refine m_load1 hm (k:=?_)
      | refine i_load1 hm (k:=?_)
      | refine m_loadAll hm (k:=?_)
      | refine i_loadN hm (k:=?_)
      | refine i_load1z hm (k:=?_)
      | refine mq_load1 hm (k:=?_)
      | refine iq_load1 hm (k:=?_)
      | refine mq_loadAll hm (k:=?_)
      | refine iq_loadN hm (k:=?_)
      | refine iq_load1z hm (k:=?_)
      | (refine m_storeAll hm (k:=?_); clear hm; intro _ hm; try simp only [setn] at hm)
      | (refine m_store1 hm (k:=?_); clear hm; intro _ hm; try simp only [setn] at hm)
      | (refine m_storeN hm (k:=?_); clear hm; intro _ hm; try simp only [setn] at hm)
      | refine m_ret_agg hm (h:=?_)
      | refine m_ret2_agg hm (h:=?_)
      | refine op_move (k:=?_)
      | refine op_assign (k:=?_)
      | refine op_pick_true (k:=?_)
      | refine op_pick_false (k:=?_)
      | refine op_lss (k:=?_)
      | refine op_geq (k:=?_)
      | refine op_eql (k:=?_)
      | refine op_neq (k:=?_)
      | refine op_eql_str (k:=?_)
      | refine op_eql_bool (k:=?_)
      | refine op_eql_flat (k:=?_)
      | refine op_neq_str (k:=?_)
      | refine op_neq_bool (k:=?_)
      | refine op_neq_flat (k:=?_)
      | refine op_len_str (k:=?_)
      | refine op_len_slice (k:=?_)
      | refine op_nilCheck (k:=?_)
      | refine op_add (k:=?_)
      | refine op_add_u8 (k:=?_)
      | refine op_indexAddr_arr (k:=?_)
      | refine op_fieldAddr (k:=?_)
      | refine op_indexAddr (k:=?_)
      | refine op_load1 (k:=?_)
      | refine wl_skip (k:=?_)
      | (refine wl_split_dec (h1:=fun _ => ?_) (h0:=fun _ => ?_)<;> (try first | contradiction | (exfalso; omega)))
      | (refine wl_split (h1:=fun _ => ?_) (h0:=fun _ => ?_)<;> (fail_if_success contradiction))
      | refine wl_nil ?_
      | refine at_then_normal ?_
      | refine at_then_ret ?_
      | refine at_then_exit ?_
      | refine at_block_normal ?_
      | refine at_block_ret ?_
      | refine at_block_exit ?_
      | refine at_block_other (h:=?_)
      | refine wc_seq ?_
      | refine wc_region ?_
      | refine wc_block ?_
      | refine wc_skip ?_
      | refine wc_exit ?_
      | refine wc_ret ?_
      | refine at_ret0 (h:=?_)
      | refine at_end0 (h:=?_)
      | refine wc_quiet (h:=?_)
      | (refine wq_nil ?_; intro _ hkq; replace hm := hm.kept0 hkq; clear hkq)
      | (refine wq_nil_tail ?_; intro _ hkq; replace hm := hm.kept0 hkq; clear hkq)
      | refine wc_cond_true (ht:=?_)
      | refine wc_cond_false (hf:=?_)
      | (refine wc_cond_dec (ht:=fun _ => ?_) (hf:=fun _ => ?_)<;> (try first | contradiction | (exfalso; omega)))
      | refine wc_cond (ht:=fun _ => ?_) (hf:=fun _ => ?_)
      | refine q_move (k:=?_)
      | refine q_assign (k:=?_)
      | refine q_pick_true (k:=?_)
      | refine q_pick_false (k:=?_)
      | refine q_lss (k:=?_)
      | refine q_geq (k:=?_)
      | refine q_eql (k:=?_)
      | refine q_neq (k:=?_)
      | refine q_eql_str (k:=?_)
      | refine q_eql_bool (k:=?_)
      | refine q_eql_flat (k:=?_)
      | refine q_neq_str (k:=?_)
      | refine q_neq_bool (k:=?_)
      | refine q_neq_flat (k:=?_)
      | refine q_len_str (k:=?_)
      | refine q_len_slice (k:=?_)
      | refine q_nilCheck (k:=?_)
      | refine q_add (k:=?_)
      | refine q_add_u8 (k:=?_)
      | refine q_indexAddr_arr (k:=?_)
      | refine q_fieldAddr (k:=?_)
      | refine q_indexAddr (k:=?_)
      | refine q_load1 (k:=?_)
      | refine wq_skip (k:=?_)
      | (refine wq_split_dec (h1:=fun _ => ?_) (h0:=fun _ => ?_)<;> (try first | contradiction | (exfalso; omega)))
      | (refine wq_split (h1:=fun _ => ?_) (h0:=fun _ => ?_)<;> (fail_if_success contradiction)))
      all_goals try (exfalso; omega)
      exact at_cut (⟨0, I0, da, dp, ua, up⟩ : RX) (by exact ⟨rfl, rfl, rfl, trivial⟩) ⟨hm, hle0, hp⟩
  clear hm
  rintro ⟨_, I1, da1, dp1, ua1, up1⟩ w1 ⟨hm, hle1, hp⟩
  dsimp only at hm hle1 hp ⊢
  replace hC := hC.le hle1
  replace hE := hE.le hle1
  replace hr := hr.le hle1
  replace hx := ExsAt.le hle1 _ _ hx
  replace hhr : r = if e.kind = 4 then Sp.callN its p e.fr e.name e.args.length r1 else r1 := by
    rw [hhr, hr1]
    by_cases k2 : e.kind = 2
    · rw [if_pos k2, if_neg (by omega), if_pos k2]
    · rw [if_neg k2, if_neg k2]
  clear hr1
  repeat' (first
  | (refine wc_cut_regN 3 (fun _ : RX => [(0, ptr bc), (1, .map (some be)), (5, ptr b5)]) (fun x w' => Mem E x.I (WSt bc a its.length cp i r x.da x.dp x.ua x.up) w' ∧ Le I1 x.I) ?_ ?_)
  | (refine m_box (d:=5) hm (k:=?_); clear hm; intro b5 _ hm)
  | (refine m_varS (d:=8) hm (k:=?_); clear hm; intro b8 _ hm)
  | (refine m_var1 (d:=8) hm (k:=?_); clear hm; intro b8 _ hm)
  | refine m_load1 hm (k:=?_)
  | refine i_load1 hm (k:=?_)
  | refine m_loadAll hm (k:=?_)
  | refine i_loadN hm (k:=?_)
  | refine i_load1z hm (k:=?_)
  | refine mq_load1 hm (k:=?_)
  | refine iq_load1 hm (k:=?_)
  | refine mq_loadAll hm (k:=?_)
  | refine iq_loadN hm (k:=?_)
  | refine iq_load1z hm (k:=?_)
  | (refine m_storeAll hm (k:=?_); clear hm; intro _ hm; try simp only [setn] at hm)
  | (refine m_store1 hm (k:=?_); clear hm; intro _ hm; try simp only [setn] at hm)
  | (refine m_storeN hm (k:=?_); clear hm; intro _ hm; try simp only [setn] at hm)
  | refine m_ret_agg hm (h:=?_)
  | refine m_ret2_agg hm (h:=?_)
  | refine op_move (k:=?_)
  | refine op_assign (k:=?_)
  | refine op_pick_true (k:=?_)
  | refine op_pick_false (k:=?_)
  | refine op_lss (k:=?_)
  | refine op_geq (k:=?_)
  | refine op_eql (k:=?_)
  | refine op_neq (k:=?_)
  | refine op_eql_str (k:=?_)
  | refine op_eql_bool (k:=?_)
  | refine op_eql_flat (k:=?_)
  | refine op_neq_str (k:=?_)
  | refine op_neq_bool (k:=?_)
  | refine op_neq_flat (k:=?_)
  | refine op_len_str (k:=?_)
  | refine op_len_slice (k:=?_)
  | refine op_nilCheck (k:=?_)
  | refine op_add (k:=?_)
  | refine op_add_u8 (k:=?_)
  | refine op_indexAddr_arr (k:=?_)
  | refine op_fieldAddr (k:=?_)
  | refine op_indexAddr (k:=?_)
  | refine op_load1 (k:=?_)
  | refine wl_skip (k:=?_)
  | (refine wl_split_dec (h1:=fun _ => ?_) (h0:=fun _ => ?_)<;> (try first | contradiction | (exfalso; omega)))
  | (refine wl_split (h1:=fun _ => ?_) (h0:=fun _ => ?_)<;> (fail_if_success contradiction))
  | refine wl_nil ?_
  | refine at_then_normal ?_
  | refine at_then_ret ?_
  | refine at_then_exit ?_
  | refine at_block_normal ?_
  | refine at_block_ret ?_
  | refine at_block_exit ?_
  | refine at_block_other (h:=?_)
  | refine wc_seq ?_
  | refine wc_region ?_
  | refine wc_block ?_
  | refine wc_skip ?_
  | refine wc_exit ?_
  | refine wc_ret ?_
  | refine at_ret0 (h:=?_)
  | refine at_end0 (h:=?_)
  | refine wc_quiet (h:=?_)
  | (refine wq_nil ?_; intro _ hkq; replace hm := hm.kept0 hkq; clear hkq)
  | (refine wq_nil_tail ?_; intro _ hkq; replace hm := hm.kept0 hkq; clear hkq)
  | refine wc_cond_true (ht:=?_)
  | refine wc_cond_false (hf:=?_)
  | (refine wc_cond_dec (ht:=fun _ => ?_) (hf:=fun _ => ?_)<;> (try first | contradiction | (exfalso; omega)))
  | refine wc_cond (ht:=fun _ => ?_) (hf:=fun _ => ?_)
  | refine q_move (k:=?_)
  | refine q_assign (k:=?_)
  | refine q_pick_true (k:=?_)
  | refine q_pick_false (k:=?_)
  | refine q_lss (k:=?_)
  | refine q_geq (k:=?_)
  | refine q_eql (k:=?_)
  | refine q_neq (k:=?_)
  | refine q_eql_str (k:=?_)
  | refine q_eql_bool (k:=?_)
  | refine q_eql_flat (k:=?_)
  | refine q_neq_str (k:=?_)
  | refine q_neq_bool (k:=?_)
  | refine q_neq_flat (k:=?_)
  | refine q_len_str (k:=?_)
  | refine q_len_slice (k:=?_)
  | refine q_nilCheck (k:=?_)
  | refine q_add (k:=?_)
  | refine q_add_u8 (k:=?_)
  | refine q_indexAddr_arr (k:=?_)
  | refine q_fieldAddr (k:=?_)
  | refine q_indexAddr (k:=?_)
  | refine q_load1 (k:=?_)
  | refine wq_skip (k:=?_)
  | (refine wq_split_dec (h1:=fun _ => ?_) (h0:=fun _ => ?_)<;> (try first | contradiction | (exfalso; omega)))
  | (refine wq_split (h1:=fun _ => ?_) (h0:=fun _ => ?_)<;> (fail_if_success contradiction)))
  · refine ⟨?_⟩
    by_cases k4 : e.kind = 4
    · rw [if_pos k4] at hhr
      have hin := Sp.itmN_n its p 2 e.fr e.name r1
      have hbd := (hC.st.sub _ _ (hst (.inr k4))).1
      have hlen := hC.len
      have hri := hC.fe.row
      have hfew := hC.fe.few
      have hc := fun (J : Imm) (m : Le I1 J) => r_glob (I := J) (bc := bc) (s := r1) (da := da1) (dp := dp1) (ua := ua1) (up := up1) (hC.le m) 2 e.fr e.name (hst (.inr k4)) (by omega)
      cases hf : Sp.findIt its 2 e.name with
      | none =>
        rw [Sp.callN_none hf] at hhr
        subst hhr
        rw [Sp.findV, hf] at hc
        dsimp only at hc
        repeat' (first
        | (refine m_call (d:=27) hm (hc:=(hc I1 (Le.refl _))) (k:=?_); clear hm; rintro _ I2 _ _ ⟨rfl, da2, dp2, ua2, up2, rfl⟩ hle hm; have hleI2 := hle; try simp only [setn] at hm)
        | (refine m_box (d:=5) hm (k:=?_); clear hm; intro b5 _ hm)
        | (refine m_varS (d:=8) hm (k:=?_); clear hm; intro b8 _ hm)
        | (refine m_var1 (d:=8) hm (k:=?_); clear hm; intro b8 _ hm)
        | refine m_load1 hm (k:=?_)
        | refine i_load1 hm (k:=?_)
        | refine m_loadAll hm (k:=?_)
        | refine i_loadN hm (k:=?_)
        | refine i_load1z hm (k:=?_)
        | refine mq_load1 hm (k:=?_)
        | refine iq_load1 hm (k:=?_)
        | refine mq_loadAll hm (k:=?_)
        | refine iq_loadN hm (k:=?_)
        | refine iq_load1z hm (k:=?_)
        | (refine m_storeAll hm (k:=?_); clear hm; intro _ hm; try simp only [setn] at hm)
        | (refine m_store1 hm (k:=?_); clear hm; intro _ hm; try simp only [setn] at hm)
        | (refine m_storeN hm (k:=?_); clear hm; intro _ hm; try simp only [setn] at hm)
        | refine m_ret_agg hm (h:=?_)
        | refine m_ret2_agg hm (h:=?_)
        | refine op_move (k:=?_)
        | refine op_assign (k:=?_)
        | refine op_pick_true (k:=?_)
        | refine op_pick_false (k:=?_)
        | refine op_lss (k:=?_)
        | refine op_geq (k:=?_)
        | refine op_eql (k:=?_)
        | refine op_neq (k:=?_)
        | refine op_eql_str (k:=?_)
        | refine op_eql_bool (k:=?_)
        | refine op_eql_flat (k:=?_)
        | refine op_neq_str (k:=?_)
        | refine op_neq_bool (k:=?_)
        | refine op_neq_flat (k:=?_)
        | refine op_len_str (k:=?_)
        | refine op_len_slice (k:=?_)
        | refine op_nilCheck (k:=?_)
        | refine op_add (k:=?_)
        | refine op_add_u8 (k:=?_)
        | refine op_indexAddr_arr (k:=?_)
        | refine op_fieldAddr (k:=?_)
        | refine op_indexAddr (k:=?_)
        | refine op_load1 (k:=?_)
        | refine wl_skip (k:=?_)
        | (refine wl_split_dec (h1:=fun _ => ?_) (h0:=fun _ => ?_)<;> (try first | contradiction | (exfalso; omega)))
        | (refine wl_split (h1:=fun _ => ?_) (h0:=fun _ => ?_)<;> (fail_if_success contradiction))
        | refine wl_nil ?_
        | refine at_then_normal ?_
        | refine at_then_ret ?_
        | refine at_then_exit ?_
        | refine at_block_normal ?_
        | refine at_block_ret ?_
        | refine at_block_exit ?_
        | refine at_block_other (h:=?_)
        | refine wc_seq ?_
        | refine wc_region ?_
        | refine wc_block ?_
        | refine wc_skip ?_
        | refine wc_exit ?_
        | refine wc_ret ?_
        | refine at_ret0 (h:=?_)
        | refine at_end0 (h:=?_)
        | refine wc_quiet (h:=?_)
        | (refine wq_nil ?_; intro _ hkq; replace hm := hm.kept0 hkq; clear hkq)
        | (refine wq_nil_tail ?_; intro _ hkq; replace hm := hm.kept0 hkq; clear hkq)
        | refine wc_cond_true (ht:=?_)
        | refine wc_cond_false (hf:=?_)
        | (refine wc_cond_dec (ht:=fun _ => ?_) (hf:=fun _ => ?_)<;> (try first | contradiction | (exfalso; omega)))
        | refine wc_cond (ht:=fun _ => ?_) (hf:=fun _ => ?_)
        | refine q_move (k:=?_)
        | refine q_assign (k:=?_)
        | refine q_pick_true (k:=?_)
        | refine q_pick_false (k:=?_)
        | refine q_lss (k:=?_)
        | refine q_geq (k:=?_)
        | refine q_eql (k:=?_)
        | refine q_neq (k:=?_)
        | refine q_eql_str (k:=?_)
        | refine q_eql_bool (k:=?_)
        | refine q_eql_flat (k:=?_)
        | refine q_neq_str (k:=?_)
        | refine q_neq_bool (k:=?_)
        | refine q_neq_flat (k:=?_)
        | refine q_len_str (k:=?_)
        | refine q_len_slice (k:=?_)
        | refine q_nilCheck (k:=?_)
        | refine q_add (k:=?_)
        | refine q_add_u8 (k:=?_)
        | refine q_indexAddr_arr (k:=?_)
        | refine q_fieldAddr (k:=?_)
        | refine q_indexAddr (k:=?_)
        | refine q_load1 (k:=?_)
        | refine wq_skip (k:=?_)
        | (refine wq_split_dec (h1:=fun _ => ?_) (h0:=fun _ => ?_)<;> (try first | contradiction | (exfalso; omega)))
        | (refine wq_split (h1:=fun _ => ?_) (h0:=fun _ => ?_)<;> (fail_if_success contradiction)))
        all_goals try (exfalso; omega)
        exact at_cut (⟨0, I2, da2, dp2, ua2, up2⟩ : RX) (by exact ⟨rfl, rfl, rfl, trivial⟩) ⟨hm, hleI2⟩
      | some j =>
        rw [Sp.callN_some hf] at hhr
        rw [Sp.findV, hf] at hc
        dsimp only at hc
        obtain ⟨hj, _, _, _, hmemj⟩ := Sp.findIt_lt hf
        obtain ⟨ci, hci, hat, hlc⟩ := hC.fe.get (Sp.itNo_get hj)
        obtain ⟨pa, pc, sa9, sc9, ba, bc9, da9, dc9, xb, rfl, _⟩ := hat
        generalize Sp.itmN its p 2 e.fr e.name r1 = s1 at hc hhr hin
        by_cases hpl : (Sp.itNo its j).params.length ≠ e.args.length
        · rw [if_pos hpl] at hhr
          subst hhr
          have hT := fun (J : Imm) (da : Option Addr) (dp : Nat) (ua : Option Addr) (up : Nat) => r_tell (I := J) (bc := bc) (a := a) (n := its.length) (cp := cp) (i := i) (s := s1) (da := da) (dp := dp) (ua := ua) (up := up) e.name e.fr 5 (by omega) (by omega)
          repeat' (first
          | (refine m_call (d:=27) hm (hc:=(hc I1 (Le.refl _))) (k:=?_); clear hm; rintro _ I2 _ _ ⟨rfl, da2, dp2, ua2, up2, rfl⟩ hle hm; have hleI2 := hle; try simp only [setn] at hm; have hp2 := hp.le hleI2; have hri2 := hri.le hleI2)
          | (refine iq_indexAddr (d:=37) (hr:=hri2) (k:=?_); intro bt ot hpt; rw [show ((j : Int).toNat * 10) = j * 10 from rfl, hci] at hpt)
          | (refine m_call (d:=51) hm (hc:=(hT I2 da2 dp2 ua2 up2)) (k:=?_); clear hm; rintro _ I3 _ _ ⟨rfl, da3, dp3, ua3, up3, rfl⟩ hle hm; have hleI3 := hle; try simp only [setn] at hm)
          | (refine m_box (d:=5) hm (k:=?_); clear hm; intro b5 _ hm)
          | (refine m_varS (d:=8) hm (k:=?_); clear hm; intro b8 _ hm)
          | (refine m_var1 (d:=8) hm (k:=?_); clear hm; intro b8 _ hm)
          | refine m_load1 hm (k:=?_)
          | refine i_load1 hm (k:=?_)
          | refine m_loadAll hm (k:=?_)
          | refine i_loadN hm (k:=?_)
          | refine i_load1z hm (k:=?_)
          | refine mq_load1 hm (k:=?_)
          | refine iq_load1 hm (k:=?_)
          | refine mq_loadAll hm (k:=?_)
          | refine iq_loadN hm (k:=?_)
          | refine iq_load1z hm (k:=?_)
          | (refine m_storeAll hm (k:=?_); clear hm; intro _ hm; try simp only [setn] at hm)
          | (refine m_store1 hm (k:=?_); clear hm; intro _ hm; try simp only [setn] at hm)
          | (refine m_storeN hm (k:=?_); clear hm; intro _ hm; try simp only [setn] at hm)
          | refine m_ret_agg hm (h:=?_)
          | refine m_ret2_agg hm (h:=?_)
          | refine op_move (k:=?_)
          | refine op_assign (k:=?_)
          | refine op_pick_true (k:=?_)
          | refine op_pick_false (k:=?_)
          | refine op_lss (k:=?_)
          | refine op_geq (k:=?_)
          | refine op_eql (k:=?_)
          | refine op_neq (k:=?_)
          | refine op_eql_str (k:=?_)
          | refine op_eql_bool (k:=?_)
          | refine op_eql_flat (k:=?_)
          | refine op_neq_str (k:=?_)
          | refine op_neq_bool (k:=?_)
          | refine op_neq_flat (k:=?_)
          | refine op_len_str (k:=?_)
          | refine op_len_slice (k:=?_)
          | refine op_nilCheck (k:=?_)
          | refine op_add (k:=?_)
          | refine op_add_u8 (k:=?_)
          | refine op_indexAddr_arr (k:=?_)
          | refine op_fieldAddr (k:=?_)
          | refine op_indexAddr (k:=?_)
          | refine op_load1 (k:=?_)
          | refine wl_skip (k:=?_)
          | (refine wl_split_dec (h1:=fun _ => ?_) (h0:=fun _ => ?_)<;> (try first | contradiction | (exfalso; omega)))
          | (refine wl_split (h1:=fun _ => ?_) (h0:=fun _ => ?_)<;> (fail_if_success contradiction))
          | refine wl_nil ?_
          | refine at_then_normal ?_
          | refine at_then_ret ?_
          | refine at_then_exit ?_
          | refine at_block_normal ?_
          | refine at_block_ret ?_
          | refine at_block_exit ?_
          | refine at_block_other (h:=?_)
          | refine wc_seq ?_
          | refine wc_region ?_
          | refine wc_block ?_
          | refine wc_skip ?_
          | refine wc_exit ?_
          | refine wc_ret ?_
          | refine at_ret0 (h:=?_)
          | refine at_end0 (h:=?_)
          | refine wc_quiet (h:=?_)
          | (refine wq_nil ?_; intro _ hkq; replace hm := hm.kept0 hkq; clear hkq)
          | (refine wq_nil_tail ?_; intro _ hkq; replace hm := hm.kept0 hkq; clear hkq)
          | refine wc_cond_true (ht:=?_)
          | refine wc_cond_false (hf:=?_)
          | (refine wc_cond_dec (ht:=fun _ => ?_) (hf:=fun _ => ?_)<;> (try first | contradiction | (exfalso; omega)))
          | refine wc_cond (ht:=fun _ => ?_) (hf:=fun _ => ?_)
          | refine q_move (k:=?_)
          | refine q_assign (k:=?_)
          | refine q_pick_true (k:=?_)
          | refine q_pick_false (k:=?_)
          | refine q_lss (k:=?_)
          | refine q_geq (k:=?_)
          | refine q_eql (k:=?_)
          | refine q_neq (k:=?_)
          | refine q_eql_str (k:=?_)
          | refine q_eql_bool (k:=?_)
          | refine q_eql_flat (k:=?_)
          | refine q_neq_str (k:=?_)
          | refine q_neq_bool (k:=?_)
          | refine q_neq_flat (k:=?_)
          | refine q_len_str (k:=?_)
          | refine q_len_slice (k:=?_)
          | refine q_nilCheck (k:=?_)
          | refine q_add (k:=?_)
          | refine q_add_u8 (k:=?_)
          | refine q_indexAddr_arr (k:=?_)
          | refine q_fieldAddr (k:=?_)
          | refine q_indexAddr (k:=?_)
          | refine q_load1 (k:=?_)
          | refine wq_skip (k:=?_)
          | (refine wq_split_dec (h1:=fun _ => ?_) (h0:=fun _ => ?_)<;> (try first | contradiction | (exfalso; omega)))
          | (refine wq_split (h1:=fun _ => ?_) (h0:=fun _ => ?_)<;> (fail_if_success contradiction)))
          all_goals try (exfalso; omega)
          exact at_cut (⟨0, I3, da3, dp3, ua3, up3⟩ : RX) (by exact ⟨rfl, rfl, rfl, trivial⟩) ⟨hm, hleI2.trans hleI3⟩
        · rw [if_neg hpl] at hhr
          subst hhr
          repeat' (first
          | (refine m_call (d:=27) hm (hc:=(hc I1 (Le.refl _))) (k:=?_); clear hm; rintro _ I2 _ _ ⟨rfl, da2, dp2, ua2, up2, rfl⟩ hle hm; have hleI2 := hle; try simp only [setn] at hm; have hp2 := hp.le hleI2; have hri2 := hri.le hleI2)
          | (refine iq_indexAddr (d:=37) (hr:=hri2) (k:=?_); intro bt ot hpt; rw [show ((j : Int).toNat * 10) = j * 10 from rfl, hci] at hpt)
          | (refine m_box (d:=5) hm (k:=?_); clear hm; intro b5 _ hm)
          | (refine m_varS (d:=8) hm (k:=?_); clear hm; intro b8 _ hm)
          | (refine m_var1 (d:=8) hm (k:=?_); clear hm; intro b8 _ hm)
          | refine m_load1 hm (k:=?_)
          | refine i_load1 hm (k:=?_)
          | refine m_loadAll hm (k:=?_)
          | refine i_loadN hm (k:=?_)
          | refine i_load1z hm (k:=?_)
          | refine mq_load1 hm (k:=?_)
          | refine iq_load1 hm (k:=?_)
          | refine mq_loadAll hm (k:=?_)
          | refine iq_loadN hm (k:=?_)
          | refine iq_load1z hm (k:=?_)
          | (refine m_storeAll hm (k:=?_); clear hm; intro _ hm; try simp only [setn] at hm)
          | (refine m_store1 hm (k:=?_); clear hm; intro _ hm; try simp only [setn] at hm)
          | (refine m_storeN hm (k:=?_); clear hm; intro _ hm; try simp only [setn] at hm)
          | refine m_ret_agg hm (h:=?_)
          | refine m_ret2_agg hm (h:=?_)
          | refine op_move (k:=?_)
          | refine op_assign (k:=?_)
          | refine op_pick_true (k:=?_)
          | refine op_pick_false (k:=?_)
          | refine op_lss (k:=?_)
          | refine op_geq (k:=?_)
          | refine op_eql (k:=?_)
          | refine op_neq (k:=?_)
          | refine op_eql_str (k:=?_)
          | refine op_eql_bool (k:=?_)
          | refine op_eql_flat (k:=?_)
          | refine op_neq_str (k:=?_)
          | refine op_neq_bool (k:=?_)
          | refine op_neq_flat (k:=?_)
          | refine op_len_str (k:=?_)
          | refine op_len_slice (k:=?_)
          | refine op_nilCheck (k:=?_)
          | refine op_add (k:=?_)
          | refine op_add_u8 (k:=?_)
          | refine op_indexAddr_arr (k:=?_)
          | refine op_fieldAddr (k:=?_)
          | refine op_indexAddr (k:=?_)
          | refine op_load1 (k:=?_)
          | refine wl_skip (k:=?_)
          | (refine wl_split_dec (h1:=fun _ => ?_) (h0:=fun _ => ?_)<;> (try first | contradiction | (exfalso; omega)))
          | (refine wl_split (h1:=fun _ => ?_) (h0:=fun _ => ?_)<;> (fail_if_success contradiction))
          | refine wl_nil ?_
          | refine at_then_normal ?_
          | refine at_then_ret ?_
          | refine at_then_exit ?_
          | refine at_block_normal ?_
          | refine at_block_ret ?_
          | refine at_block_exit ?_
          | refine at_block_other (h:=?_)
          | refine wc_seq ?_
          | refine wc_region ?_
          | refine wc_block ?_
          | refine wc_skip ?_
          | refine wc_exit ?_
          | refine wc_ret ?_
          | refine at_ret0 (h:=?_)
          | refine at_end0 (h:=?_)
          | refine wc_quiet (h:=?_)
          | (refine wq_nil ?_; intro _ hkq; replace hm := hm.kept0 hkq; clear hkq)
          | (refine wq_nil_tail ?_; intro _ hkq; replace hm := hm.kept0 hkq; clear hkq)
          | refine wc_cond_true (ht:=?_)
          | refine wc_cond_false (hf:=?_)
          | (refine wc_cond_dec (ht:=fun _ => ?_) (hf:=fun _ => ?_)<;> (try first | contradiction | (exfalso; omega)))
          | refine wc_cond (ht:=fun _ => ?_) (hf:=fun _ => ?_)
          | refine q_move (k:=?_)
          | refine q_assign (k:=?_)
          | refine q_pick_true (k:=?_)
          | refine q_pick_false (k:=?_)
          | refine q_lss (k:=?_)
          | refine q_geq (k:=?_)
          | refine q_eql (k:=?_)
          | refine q_neq (k:=?_)
          | refine q_eql_str (k:=?_)
          | refine q_eql_bool (k:=?_)
          | refine q_eql_flat (k:=?_)
          | refine q_neq_str (k:=?_)
          | refine q_neq_bool (k:=?_)
          | refine q_neq_flat (k:=?_)
          | refine q_len_str (k:=?_)
          | refine q_len_slice (k:=?_)
          | refine q_nilCheck (k:=?_)
          | refine q_add (k:=?_)
          | refine q_add_u8 (k:=?_)
          | refine q_indexAddr_arr (k:=?_)
          | refine q_fieldAddr (k:=?_)
          | refine q_indexAddr (k:=?_)
          | refine q_load1 (k:=?_)
          | refine wq_skip (k:=?_)
          | (refine wq_split_dec (h1:=fun _ => ?_) (h0:=fun _ => ?_)<;> (try first | contradiction | (exfalso; omega)))
          | (refine wq_split (h1:=fun _ => ?_) (h0:=fun _ => ?_)<;> (fail_if_success contradiction)))
          all_goals try (exfalso; omega)
          exact at_cut (⟨0, I2, da2, dp2, ua2, up2⟩ : RX) (by exact ⟨rfl, rfl, rfl, trivial⟩) ⟨hm, hleI2⟩
    · rw [if_neg k4] at hhr
      subst hhr
      repeat' (first
      | (refine m_box (d:=5) hm (k:=?_); clear hm; intro b5 _ hm)
      | (refine m_varS (d:=8) hm (k:=?_); clear hm; intro b8 _ hm)
      | (refine m_var1 (d:=8) hm (k:=?_); clear hm; intro b8 _ hm)
      | refine m_load1 hm (k:=?_)
      | refine i_load1 hm (k:=?_)
      | refine m_loadAll hm (k:=?_)
      | refine i_loadN hm (k:=?_)
      | refine i_load1z hm (k:=?_)
      | refine mq_load1 hm (k:=?_)
      | refine iq_load1 hm (k:=?_)
      | refine mq_loadAll hm (k:=?_)
      | refine iq_loadN hm (k:=?_)
      | refine iq_load1z hm (k:=?_)
      | (refine m_storeAll hm (k:=?_); clear hm; intro _ hm; try simp only [setn] at hm)
      | (refine m_store1 hm (k:=?_); clear hm; intro _ hm; try simp only [setn] at hm)
      | (refine m_storeN hm (k:=?_); clear hm; intro _ hm; try simp only [setn] at hm)
      | refine m_ret_agg hm (h:=?_)
      | refine m_ret2_agg hm (h:=?_)
      | refine op_move (k:=?_)
      | refine op_assign (k:=?_)
      | refine op_pick_true (k:=?_)
      | refine op_pick_false (k:=?_)
      | refine op_lss (k:=?_)
      | refine op_geq (k:=?_)
      | refine op_eql (k:=?_)
      | refine op_neq (k:=?_)
      | refine op_eql_str (k:=?_)
      | refine op_eql_bool (k:=?_)
      | refine op_eql_flat (k:=?_)
      | refine op_neq_str (k:=?_)
      | refine op_neq_bool (k:=?_)
      | refine op_neq_flat (k:=?_)
      | refine op_len_str (k:=?_)
      | refine op_len_slice (k:=?_)
      | refine op_nilCheck (k:=?_)
      | refine op_add (k:=?_)
      | refine op_add_u8 (k:=?_)
      | refine op_indexAddr_arr (k:=?_)
      | refine op_fieldAddr (k:=?_)
      | refine op_indexAddr (k:=?_)
      | refine op_load1 (k:=?_)
      | refine wl_skip (k:=?_)
      | (refine wl_split_dec (h1:=fun _ => ?_) (h0:=fun _ => ?_)<;> (try first | contradiction | (exfalso; omega)))
      | (refine wl_split (h1:=fun _ => ?_) (h0:=fun _ => ?_)<;> (fail_if_success contradiction))
      | refine wl_nil ?_
      | refine at_then_normal ?_
      | refine at_then_ret ?_
      | refine at_then_exit ?_
      | refine at_block_normal ?_
      | refine at_block_ret ?_
      | refine at_block_exit ?_
      | refine at_block_other (h:=?_)
      | refine wc_seq ?_
      | refine wc_region ?_
      | refine wc_block ?_
      | refine wc_skip ?_
      | refine wc_exit ?_
      | refine wc_ret ?_
      | refine at_ret0 (h:=?_)
      | refine at_end0 (h:=?_)
      | refine wc_quiet (h:=?_)
      | (refine wq_nil ?_; intro _ hkq; replace hm := hm.kept0 hkq; clear hkq)
      | (refine wq_nil_tail ?_; intro _ hkq; replace hm := hm.kept0 hkq; clear hkq)
      | refine wc_cond_true (ht:=?_)
      | refine wc_cond_false (hf:=?_)
      | (refine wc_cond_dec (ht:=fun _ => ?_) (hf:=fun _ => ?_)<;> (try first | contradiction | (exfalso; omega)))
      | refine wc_cond (ht:=fun _ => ?_) (hf:=fun _ => ?_)
      | refine q_move (k:=?_)
      | refine q_assign (k:=?_)
      | refine q_pick_true (k:=?_)
      | refine q_pick_false (k:=?_)
      | refine q_lss (k:=?_)
      | refine q_geq (k:=?_)
      | refine q_eql (k:=?_)
      | refine q_neq (k:=?_)
      | refine q_eql_str (k:=?_)
      | refine q_eql_bool (k:=?_)
      | refine q_eql_flat (k:=?_)
      | refine q_neq_str (k:=?_)
      | refine q_neq_bool (k:=?_)
      | refine q_neq_flat (k:=?_)
      | refine q_len_str (k:=?_)
      | refine q_len_slice (k:=?_)
      | refine q_nilCheck (k:=?_)
      | refine q_add (k:=?_)
      | refine q_add_u8 (k:=?_)
      | refine q_indexAddr_arr (k:=?_)
      | refine q_fieldAddr (k:=?_)
      | refine q_indexAddr (k:=?_)
      | refine q_load1 (k:=?_)
      | refine wq_skip (k:=?_)
      | (refine wq_split_dec (h1:=fun _ => ?_) (h0:=fun _ => ?_)<;> (try first | contradiction | (exfalso; omega)))
      | (refine wq_split (h1:=fun _ => ?_) (h0:=fun _ => ?_)<;> (fail_if_success contradiction)))
      all_goals try (exfalso; omega)
      exact at_cut (⟨0, I1, da1, dp1, ua1, up1⟩ : RX) (by exact ⟨rfl, rfl, rfl, trivial⟩) ⟨hm, Le.refl _⟩
  · clear hm hhr
    rintro ⟨_, I2, da2, dp2, ua2, up2⟩ w2 ⟨hm, hle2⟩
    dsimp only at hm hle2 ⊢
    replace hC := hC.le hle2
    replace hE := hE.le hle2
    replace hr := hr.le hle2
    replace hx := ExsAt.le hle2 _ _ hx
    replace hp := hp.le hle2
    repeat' (first
    | (refine m_box (d:=5) hm (k:=?_); clear hm; intro b5 _ hm)
    | (refine m_varS (d:=8) hm (k:=?_); clear hm; intro b8 _ hm)
    | (refine m_var1 (d:=8) hm (k:=?_); clear hm; intro b8 _ hm)
    | refine m_load1 hm (k:=?_)
    | refine i_load1 hm (k:=?_)
    | refine m_loadAll hm (k:=?_)
    | refine i_loadN hm (k:=?_)
    | refine i_load1z hm (k:=?_)
    | refine mq_load1 hm (k:=?_)
    | refine iq_load1 hm (k:=?_)
    | refine mq_loadAll hm (k:=?_)
    | refine iq_loadN hm (k:=?_)
    | refine iq_load1z hm (k:=?_)
    | (refine m_storeAll hm (k:=?_); clear hm; intro _ hm; try simp only [setn] at hm)
    | (refine m_store1 hm (k:=?_); clear hm; intro _ hm; try simp only [setn] at hm)
    | (refine m_storeN hm (k:=?_); clear hm; intro _ hm; try simp only [setn] at hm)
    | refine m_ret_agg hm (h:=?_)
    | refine m_ret2_agg hm (h:=?_)
    | refine op_move (k:=?_)
    | refine op_assign (k:=?_)
    | refine op_pick_true (k:=?_)
    | refine op_pick_false (k:=?_)
    | refine op_lss (k:=?_)
    | refine op_geq (k:=?_)
    | refine op_eql (k:=?_)
    | refine op_neq (k:=?_)
    | refine op_eql_str (k:=?_)
    | refine op_eql_bool (k:=?_)
    | refine op_eql_flat (k:=?_)
    | refine op_neq_str (k:=?_)
    | refine op_neq_bool (k:=?_)
    | refine op_neq_flat (k:=?_)
    | refine op_len_str (k:=?_)
    | refine op_len_slice (k:=?_)
    | refine op_nilCheck (k:=?_)
    | refine op_add (k:=?_)
    | refine op_add_u8 (k:=?_)
    | refine op_indexAddr_arr (k:=?_)
    | refine op_fieldAddr (k:=?_)
    | refine op_indexAddr (k:=?_)
    | refine op_load1 (k:=?_)
    | refine wl_skip (k:=?_)
    | (refine wl_split_dec (h1:=fun _ => ?_) (h0:=fun _ => ?_)<;> (try first | contradiction | (exfalso; omega)))
    | (refine wl_split (h1:=fun _ => ?_) (h0:=fun _ => ?_)<;> (fail_if_success contradiction))
    | refine wl_nil ?_
    | refine at_then_normal ?_
    | refine at_then_ret ?_
    | refine at_then_exit ?_
    | refine at_block_normal ?_
    | refine at_block_ret ?_
    | refine at_block_exit ?_
    | refine at_block_other (h:=?_)
    | refine wc_seq ?_
    | refine wc_region ?_
    | refine wc_block ?_
    | refine wc_skip ?_
    | refine wc_exit ?_
    | refine wc_ret ?_
    | refine at_ret0 (h:=?_)
    | refine at_end0 (h:=?_)
    | refine wc_quiet (h:=?_)
    | (refine wq_nil ?_; intro _ hkq; replace hm := hm.kept0 hkq; clear hkq)
    | (refine wq_nil_tail ?_; intro _ hkq; replace hm := hm.kept0 hkq; clear hkq)
    | refine wc_cond_true (ht:=?_)
    | refine wc_cond_false (hf:=?_)
    | (refine wc_cond_dec (ht:=fun _ => ?_) (hf:=fun _ => ?_)<;> (try first | contradiction | (exfalso; omega)))
    | refine wc_cond (ht:=fun _ => ?_) (hf:=fun _ => ?_)
    | refine q_move (k:=?_)
    | refine q_assign (k:=?_)
    | refine q_pick_true (k:=?_)
    | refine q_pick_false (k:=?_)
    | refine q_lss (k:=?_)
    | refine q_geq (k:=?_)
    | refine q_eql (k:=?_)
    | refine q_neq (k:=?_)
    | refine q_eql_str (k:=?_)
    | refine q_eql_bool (k:=?_)
    | refine q_eql_flat (k:=?_)
    | refine q_neq_str (k:=?_)
    | refine q_neq_bool (k:=?_)
    | refine q_neq_flat (k:=?_)
    | refine q_len_str (k:=?_)
    | refine q_len_slice (k:=?_)
    | refine q_nilCheck (k:=?_)
    | refine q_add (k:=?_)
    | refine q_add_u8 (k:=?_)
    | refine q_indexAddr_arr (k:=?_)
    | refine q_fieldAddr (k:=?_)
    | refine q_indexAddr (k:=?_)
    | refine q_load1 (k:=?_)
    | refine wq_skip (k:=?_)
    | (refine wq_split_dec (h1:=fun _ => ?_) (h0:=fun _ => ?_)<;> (try first | contradiction | (exfalso; omega)))
    | (refine wq_split (h1:=fun _ => ?_) (h0:=fun _ => ?_)<;> (fail_if_success contradiction)))
    all_goals try (exfalso; omega)
    refine wc_loop (fun x : RX => [(0, ptr bc), (1, .map (some be)), (53, .slice ea e.args.length ec), (54, nt e.args.length), (55, nt x.k)])
      (fun x w' => Mem E x.I (WSt bc a its.length cp i (Sp.exsN its p sc (e.args.take x.k) r) x.da x.dp x.ua x.up) w' ∧ Le I2 x.I ∧ x.k ≤ e.args.length) (fun x => e.args.length - x.k) ⟨0, I2, da2, dp2, ua2, up2⟩
      (by exact ⟨rfl, rfl, rfl, rfl, rfl, trivial⟩) ⟨by dsimp only; rw [List.take_zero, Sp.exsN]; exact hm, Le.refl _, Nat.zero_le _⟩ ?_
    clear hm
    rintro ⟨k, I3, da3, dp3, ua3, up3⟩ w3 ⟨hm, hle3, hk⟩
    dsimp only at hm hle3 hk ⊢
    have hC3 := hC.le hle3
    have hE3 := hE.le hle3
    have hrow := hr.le hle3
    by_cases hlt : k < e.args.length
    · have hg : e.args[k]? = some e.args[k] := List.getElem?_eq_getElem hlt
      have hsz2 := Sp.size_args (List.getElem_mem hlt)
      have hsm2 := Sp.exsSmall_get hasm hg
      have hal2 := Sp.exsAll_get haall hg
      obtain ⟨ea2, ec2, ys2, hc2, hr2, hx2⟩ := (hx.get hg).out
      generalize e.args[k] = y at hg hsz2 hsm2 hal2 hc2 hr2 hx2
      have hstp := Sp.exsN_step its p sc hg r
      have hcy := Sp.exsCnt_take hg
      have hnn := Sp.exsN_n its p sc (e.args.take k) r
      generalize Sp.exsN its p sc (e.args.take k) r = s1 at hm hstp hnn
      have hcl := ih y (by omega) hsm2 hal2 I3 ea2 ec2 ys2 s1 da3 dp3 ua3 up3 (by omega) hC3 hE3 (hr2.le hle3) (ExsAt.le hle3 _ _ hx2)
      generalize Sp.exN its p sc y s1 = s2 at hcl hstp
      repeat' (first
      | (refine i_indexAddr (d:=57) (hr:=hrow) (k:=?_); intro bt ot hpt; rw [show ((k : Int).toNat * 6) = k * 6 from rfl, hc2] at hpt)
      | (refine i_loadN (d:=58) hm (hp:=hpt) (k:=?_))
      | (refine m_call (d:=62) hm (hp:=pm3_1) (hc:=hcl) (k:=?_); clear hm; rintro _ I4 _ _ ⟨rfl, da4, dp4, ua4, up4, rfl⟩ hleI4 hm; try simp only [setn] at hm)
      | (refine m_box (d:=5) hm (k:=?_); clear hm; intro b5 _ hm)
      | (refine m_varS (d:=8) hm (k:=?_); clear hm; intro b8 _ hm)
      | (refine m_var1 (d:=8) hm (k:=?_); clear hm; intro b8 _ hm)
      | refine m_load1 hm (k:=?_)
      | refine i_load1 hm (k:=?_)
      | refine m_loadAll hm (k:=?_)
      | refine i_loadN hm (k:=?_)
      | refine i_load1z hm (k:=?_)
      | refine mq_load1 hm (k:=?_)
      | refine iq_load1 hm (k:=?_)
      | refine mq_loadAll hm (k:=?_)
      | refine iq_loadN hm (k:=?_)
      | refine iq_load1z hm (k:=?_)
      | (refine m_storeAll hm (k:=?_); clear hm; intro _ hm; try simp only [setn] at hm)
      | (refine m_store1 hm (k:=?_); clear hm; intro _ hm; try simp only [setn] at hm)
      | (refine m_storeN hm (k:=?_); clear hm; intro _ hm; try simp only [setn] at hm)
      | refine m_ret_agg hm (h:=?_)
      | refine m_ret2_agg hm (h:=?_)
      | refine op_move (k:=?_)
      | refine op_assign (k:=?_)
      | refine op_pick_true (k:=?_)
      | refine op_pick_false (k:=?_)
      | refine op_lss (k:=?_)
      | refine op_geq (k:=?_)
      | refine op_eql (k:=?_)
      | refine op_neq (k:=?_)
      | refine op_eql_str (k:=?_)
      | refine op_eql_bool (k:=?_)
      | refine op_eql_flat (k:=?_)
      | refine op_neq_str (k:=?_)
      | refine op_neq_bool (k:=?_)
      | refine op_neq_flat (k:=?_)
      | refine op_len_str (k:=?_)
      | refine op_len_slice (k:=?_)
      | refine op_nilCheck (k:=?_)
      | refine op_add (k:=?_)
      | refine op_add_u8 (k:=?_)
      | refine op_indexAddr_arr (k:=?_)
      | refine op_fieldAddr (k:=?_)
      | refine op_indexAddr (k:=?_)
      | refine op_load1 (k:=?_)
      | refine wl_skip (k:=?_)
      | (refine wl_split_dec (h1:=fun _ => ?_) (h0:=fun _ => ?_)<;> (try first | contradiction | (exfalso; omega)))
      | (refine wl_split (h1:=fun _ => ?_) (h0:=fun _ => ?_)<;> (fail_if_success contradiction))
      | refine wl_nil ?_
      | refine at_then_normal ?_
      | refine at_then_ret ?_
      | refine at_then_exit ?_
      | refine at_block_normal ?_
      | refine at_block_ret ?_
      | refine at_block_exit ?_
      | refine at_block_other (h:=?_)
      | refine wc_seq ?_
      | refine wc_region ?_
      | refine wc_block ?_
      | refine wc_skip ?_
      | refine wc_exit ?_
      | refine wc_ret ?_
      | refine at_ret0 (h:=?_)
      | refine at_end0 (h:=?_)
      | refine wc_quiet (h:=?_)
      | (refine wq_nil ?_; intro _ hkq; replace hm := hm.kept0 hkq; clear hkq)
      | (refine wq_nil_tail ?_; intro _ hkq; replace hm := hm.kept0 hkq; clear hkq)
      | refine wc_cond_true (ht:=?_)
      | refine wc_cond_false (hf:=?_)
      | (refine wc_cond_dec (ht:=fun _ => ?_) (hf:=fun _ => ?_)<;> (try first | contradiction | (exfalso; omega)))
      | refine wc_cond (ht:=fun _ => ?_) (hf:=fun _ => ?_)
      | refine q_move (k:=?_)
      | refine q_assign (k:=?_)
      | refine q_pick_true (k:=?_)
      | refine q_pick_false (k:=?_)
      | refine q_lss (k:=?_)
      | refine q_geq (k:=?_)
      | refine q_eql (k:=?_)
      | refine q_neq (k:=?_)
      | refine q_eql_str (k:=?_)
      | refine q_eql_bool (k:=?_)
      | refine q_eql_flat (k:=?_)
      | refine q_neq_str (k:=?_)
      | refine q_neq_bool (k:=?_)
      | refine q_neq_flat (k:=?_)
      | refine q_len_str (k:=?_)
      | refine q_len_slice (k:=?_)
      | refine q_nilCheck (k:=?_)
      | refine q_add (k:=?_)
      | refine q_add_u8 (k:=?_)
      | refine q_indexAddr_arr (k:=?_)
      | refine q_fieldAddr (k:=?_)
      | refine q_indexAddr (k:=?_)
      | refine q_load1 (k:=?_)
      | refine wq_skip (k:=?_)
      | (refine wq_split_dec (h1:=fun _ => ?_) (h0:=fun _ => ?_)<;> (try first | contradiction | (exfalso; omega)))
      | (refine wq_split (h1:=fun _ => ?_) (h0:=fun _ => ?_)<;> (fail_if_success contradiction)))
      all_goals try (exfalso; omega)
      exact at_round (⟨k + 1, I4, da4, dp4, ua4, up4⟩ : RX) (by exact ⟨rfl, rfl, rfl, rfl, rfl, trivial⟩) ⟨by dsimp only; rw [hstp]; exact hm.left, hle3.trans hleI4, by dsimp only; omega⟩ (by dsimp only; omega)
    · obtain rfl : k = e.args.length := by omega
      rw [List.take_length] at hm
      repeat' (first
      | (refine m_box (d:=5) hm (k:=?_); clear hm; intro b5 _ hm)
      | (refine m_varS (d:=8) hm (k:=?_); clear hm; intro b8 _ hm)
      | (refine m_var1 (d:=8) hm (k:=?_); clear hm; intro b8 _ hm)
      | refine m_load1 hm (k:=?_)
      | refine i_load1 hm (k:=?_)
      | refine m_loadAll hm (k:=?_)
      | refine i_loadN hm (k:=?_)
      | refine i_load1z hm (k:=?_)
      | refine mq_load1 hm (k:=?_)
      | refine iq_load1 hm (k:=?_)
      | refine mq_loadAll hm (k:=?_)
      | refine iq_loadN hm (k:=?_)
      | refine iq_load1z hm (k:=?_)
      | (refine m_storeAll hm (k:=?_); clear hm; intro _ hm; try simp only [setn] at hm)
      | (refine m_store1 hm (k:=?_); clear hm; intro _ hm; try simp only [setn] at hm)
      | (refine m_storeN hm (k:=?_); clear hm; intro _ hm; try simp only [setn] at hm)
      | refine m_ret_agg hm (h:=?_)
      | refine m_ret2_agg hm (h:=?_)
      | refine op_move (k:=?_)
      | refine op_assign (k:=?_)
      | refine op_pick_true (k:=?_)
      | refine op_pick_false (k:=?_)
      | refine op_lss (k:=?_)
      | refine op_geq (k:=?_)
      | refine op_eql (k:=?_)
      | refine op_neq (k:=?_)
      | refine op_eql_str (k:=?_)
      | refine op_eql_bool (k:=?_)
      | refine op_eql_flat (k:=?_)
      | refine op_neq_str (k:=?_)
      | refine op_neq_bool (k:=?_)
      | refine op_neq_flat (k:=?_)
      | refine op_len_str (k:=?_)
      | refine op_len_slice (k:=?_)
      | refine op_nilCheck (k:=?_)
      | refine op_add (k:=?_)
      | refine op_add_u8 (k:=?_)
      | refine op_indexAddr_arr (k:=?_)
      | refine op_fieldAddr (k:=?_)
      | refine op_indexAddr (k:=?_)
      | refine op_load1 (k:=?_)
      | refine wl_skip (k:=?_)
      | (refine wl_split_dec (h1:=fun _ => ?_) (h0:=fun _ => ?_)<;> (try first | contradiction | (exfalso; omega)))
      | (refine wl_split (h1:=fun _ => ?_) (h0:=fun _ => ?_)<;> (fail_if_success contradiction))
      | refine wl_nil ?_
      | refine at_then_normal ?_
      | refine at_then_ret ?_
      | refine at_then_exit ?_
      | refine at_block_normal ?_
      | refine at_block_ret ?_
      | refine at_block_exit ?_
      | refine at_block_other (h:=?_)
      | refine wc_seq ?_
      | refine wc_region ?_
      | refine wc_block ?_
      | refine wc_skip ?_
      | refine wc_exit ?_
      | refine wc_ret ?_
      | refine at_ret0 (h:=?_)
      | refine at_end0 (h:=?_)
      | refine wc_quiet (h:=?_)
      | (refine wq_nil ?_; intro _ hkq; replace hm := hm.kept0 hkq; clear hkq)
      | (refine wq_nil_tail ?_; intro _ hkq; replace hm := hm.kept0 hkq; clear hkq)
      | refine wc_cond_true (ht:=?_)
      | refine wc_cond_false (hf:=?_)
      | (refine wc_cond_dec (ht:=fun _ => ?_) (hf:=fun _ => ?_)<;> (try first | contradiction | (exfalso; omega)))
      | refine wc_cond (ht:=fun _ => ?_) (hf:=fun _ => ?_)
      | refine q_move (k:=?_)
      | refine q_assign (k:=?_)
      | refine q_pick_true (k:=?_)
      | refine q_pick_false (k:=?_)
      | refine q_lss (k:=?_)
      | refine q_geq (k:=?_)
      | refine q_eql (k:=?_)
      | refine q_neq (k:=?_)
      | refine q_eql_str (k:=?_)
      | refine q_eql_bool (k:=?_)
      | refine q_eql_flat (k:=?_)
      | refine q_neq_str (k:=?_)
      | refine q_neq_bool (k:=?_)
      | refine q_neq_flat (k:=?_)
      | refine q_len_str (k:=?_)
      | refine q_len_slice (k:=?_)
      | refine q_nilCheck (k:=?_)
      | refine q_add (k:=?_)
      | refine q_add_u8 (k:=?_)
      | refine q_indexAddr_arr (k:=?_)
      | refine q_fieldAddr (k:=?_)
      | refine q_indexAddr (k:=?_)
      | refine q_load1 (k:=?_)
      | refine wq_skip (k:=?_)
      | (refine wq_split_dec (h1:=fun _ => ?_) (h0:=fun _ => ?_)<;> (try first | contradiction | (exfalso; omega)))
      | (refine wq_split (h1:=fun _ => ?_) (h0:=fun _ => ?_)<;> (fail_if_success contradiction)))
      all_goals try (exfalso; omega)
      exact ⟨I3, _, ⟨rfl, _, _, _, _, rfl⟩, hm⟩
end
end Go.Proofs.YtkbiakajlfmakaaGreatDoor
end
