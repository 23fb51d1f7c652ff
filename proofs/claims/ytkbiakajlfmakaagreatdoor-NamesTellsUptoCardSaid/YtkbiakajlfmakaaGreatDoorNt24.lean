/- Own work: texts RnD, NsF, one behind the other. -/
import Derived.Test.YtkbiakajlfmakaaGreatDoorNt23
section
namespace Go.Proofs.YtkbiakajlfmakaaGreatDoor
open Go.Fw
structure RY where
  k : Nat
  I : Imm
  be : Nat
  es : Ents
  da : Option Addr
  dp : Nat
  ua : Option Addr
  up : Nat
def RBlkOk (src : List UInt8) (p : Nat) (q : List UInt8) (its : List Sp.Itm) (i : Nat) (it : Sp.Itm) (bc : Nat) (a : Option Addr) (cp : Nat) (xs : List Value) (l : List Sp.Stm) : Prop :=
  ∀ (I : Imm) (ab : Option Addr) (cb : Nat) (xb : List Value) (sc : List Sp.Lc) (s : Sp.NW) (be : Nat) (es : Ents) (da : Option Addr) (dp : Nat) (ua : Option Addr) (up : Nat), s.n + 2 * Sp.stmsCnt l ≤ 900000000 → RC I src p q its i it a cp xs → EnvI I p sc be es →
    RowI I 102 15 (.slice ab l.length cb) l.length xb → StsAt I l xb →
    CalM Tryz.prog 31 #[ptr bc, .map (some be), .slice ab l.length cb] I (WSt bc a its.length cp i s da dp ua up) (ToW bc a its.length cp i (Sp.stmsN its p l sc s).2 (.tuple #[]))
section
variable {src : List UInt8} {p : Nat} {q : List UInt8} {its : List Sp.Itm} {i : Nat} {it : Sp.Itm} {bc : Nat} {a : Option Addr} {cp : Nat} {xs : List Value}
set_option maxHeartbeats 32000000 in
theorem r_block (l : List Sp.Stm) (hl : l.length ≤ 64) (hsml : Sp.stmsSmall l) (hall : Sp.stmsAll (Sp.stE q) (Sp.stS q) l) (hS : ∀ y ∈ l, RBlkOk src p q its i it bc a cp xs y.thn ∧ RBlkOk src p q its i it bc a cp xs y.els) : RBlkOk src p q its i it bc a cp xs l := by
  intro I ab cb xb sc s be es da dp ua up hn2 hC hE hr hx
  refine CalM.of fun w E hm => enter (N := 61) Tryz.func31 rfl [(0, ptr bc), (1, .map (some be)), (2, .slice ab l.length cb)] args3 rfl ?_
  repeat' (first
  | (refine m_varS (d:=7) hm (k:=?_); clear hm; intro b7 _ hm)
  | (refine m_var1 (d:=7) hm (k:=?_); clear hm; intro b7 _ hm)
  | refine m_load1 hm (k:=?_)
  | refine i_load1 hm (k:=?_)
  | refine m_loadAll hm (k:=?_)
  | refine i_loadN hm (k:=?_)
  | refine i_load1z hm (k:=?_)
  | (refine m_storeAll hm (k:=?_); clear hm; intro _ hm; try simp only [setn] at hm)
  | (refine m_store1 hm (k:=?_); clear hm; intro _ hm; try simp only [setn] at hm)
  | (refine m_storeN hm (k:=?_); clear hm; intro _ hm; try simp only [setn] at hm)
  | refine m_ret_agg hm (h:=?_)
  | refine m_ret2_agg hm (h:=?_)
  | refine op_move (k:=?_)
  | refine op_assign (k:=?_)
  | refine op_lss (k:=?_)
  | refine op_eql (k:=?_)
  | refine op_eql_str (k:=?_)
  | refine op_eql_bool (k:=?_)
  | refine op_eql_flat (k:=?_)
  | refine op_len_str (k:=?_)
  | refine op_len_slice (k:=?_)
  | refine op_add (k:=?_)
  | refine op_add_u8 (k:=?_)
  | refine op_indexAddr_arr (k:=?_)
  | refine op_fieldAddr (k:=?_)
  | refine op_indexAddr (k:=?_)
  | refine op_load1 (k:=?_)
  | refine wl_nil ?_
  | refine at_then_normal ?_
  | refine at_then_ret ?_
  | refine at_then_exit ?_
  | refine at_block_normal ?_
  | refine at_block_ret ?_
  | refine at_block_exit ?_
  | refine at_block_other (h:=?_)
  | refine wc_seq ?_
  | refine wc_region ?_
  | refine wc_block ?_
  | refine wc_skip ?_
  | refine wc_exit ?_
  | refine wc_ret ?_
  | refine at_ret0 (h:=?_)
  | refine at_end0 (h:=?_)
  | refine wc_cond_true (ht:=?_)
  | refine wc_cond_false (hf:=?_)
  | (refine wc_cond_dec (ht:=fun _ => ?_) (hf:=fun _ => ?_)<;> (try first | contradiction | (exfalso; omega)))
  | refine wc_cond (ht:=fun _ => ?_) (hf:=fun _ => ?_))
  refine wc_loop (fun x : RY => [(0, ptr bc), (1, .map (some x.be)), (8, .slice ab l.length cb), (9, nt l.length), (10, nt x.k)])
    (fun x w' => Mem E x.I (WSt bc a its.length cp i (Sp.stmsN its p (l.take x.k) sc s).2 x.da x.dp x.ua x.up) w' ∧ EnvI x.I p (Sp.stmsN its p (l.take x.k) sc s).1 x.be x.es ∧ Le I x.I ∧ x.k ≤ l.length) (fun x => l.length - x.k) ⟨0, I, be, es, da, dp, ua, up⟩
    (by exact ⟨rfl, rfl, rfl, rfl, rfl, trivial⟩) ⟨by dsimp only; rw [List.take_zero, Sp.stmsN]; exact hm, by dsimp only; rw [List.take_zero, Sp.stmsN]; exact hE, Le.refl _, Nat.zero_le _⟩ ?_
  clear hm hE
  rintro ⟨k, I1, be1, es1, da1, dp1, ua1, up1⟩ w1 ⟨hm, hE1, hle1, hk⟩
  dsimp only at hm hE1 hle1 hk ⊢
  have hC1 := hC.le hle1
  have hrow := hr.le hle1
  have hlen := hC.len
  by_cases hlt : k < l.length
  · have hg : l[k]? = some l[k] := List.getElem?_eq_getElem hlt
    have hmem := List.getElem_mem hlt
    obtain ⟨cs, hcs⟩ : ∃ cs, (xb.drop (k * 15)).take 15 = cs := ⟨_, rfl⟩
    have hat := hx.get hg
    rw [hcs] at hat
    have hSk := hS _ hmem
    have hsmy := Sp.stmsSmall_get hsml hg
    have haly := Sp.stmsAll_get hall hg
    generalize l[k] = y at hg hmem hat hSk hsmy haly
    have hst := Sp.stmsN_step its p hg sc s
    have hcy := Sp.stmsCnt_take hg
    have hnn := Sp.stmsN_n its p (l.take k) sc s
    have htl : (l.take k).length = k := by rw [List.length_take]; omega
    have hkc := Sp.len_cnt (l.take k)
    generalize Sp.stmsN its p (l.take k) sc s = r at hm hE1 hst hnn
    obtain ⟨s1, s2, s3, s4, s5⟩ := Sp.small_parts hsmy
    obtain ⟨a1, a2, a3, a4⟩ := Sp.Stm.all_node haly
    have hcnt := Sp.cnt_stm y
    obtain ⟨ea, ec, ex, a1', c1, xs1, a2', c2, xs2, rfl, hr3, hx3, hr4, hx4, hr5, hx5⟩ := hat.out
    have hEx := r_expr (bc := bc) _ y.e (Nat.le_refl _) s1 a2 I1 ea ec ex r.2 da1 dp1 ua1 up1 (by omega) hC1 hE1 (hr3.le hle1) (ExsAt.le hle1 _ _ hx3)
    rw [Sp.stmN_eq] at hst
    have hnx := Sp.exN_n its p r.1 y.e r.2
    generalize Sp.exN its p r.1 y.e r.2 = r2 at hEx hnx hst
    rw [Sp.coreN] at hst
    by_cases k1 : y.kind = 1
    · rw [if_pos k1] at hst
      have hb := (hC.st.sub _ _ (a1 (.inl k1))).1
      have hc := fun (J : Imm) (m : Le I1 J) (da : Option Addr) (dp : Nat) (ua : Option Addr) (up : Nat) => r_with (I := J) (bc := bc) (s := r2) (da := da) (dp := dp) (ua := ua) (up := up) (hC1.le m) (hE1.le m) y.name y.at_ (a1 (.inl k1)) (by omega)
      generalize Sp.mkN y.name y.at_ r.1 r2 = z at hc hst
      repeat' (first
      | (refine i_indexAddr (d:=12) (hr:=hrow) (k:=?_); intro bt ot hpt; rw [show ((k : Int).toNat * 15) = k * 15 from rfl, hcs] at hpt)
      | (refine i_loadN (d:=13) hm (hp:=hpt) (k:=?_))
      | (refine m_loadN (n := 6) (d := 17) (vs := exCells y.e ea ec) hm (by rfl) (by rfl) (by rfl) (by first | exact gt0 | exact gt1 | exact gt2 | exact gt3 | exact gt4 | exact gt5 | exact gt6) (by rfl) (by rfl) ?_)
      | (refine m_call (d:=18) hm (hp:=pm3_1) (hc:=hEx) (k:=?_); clear hm; rintro _ I2 _ _ ⟨rfl, da2, dp2, ua2, up2, rfl⟩ hleI2 hm; try simp only [setn] at hm)
      | (refine m_call (d:=29) hm (hp:=pm3_0) (hc:=hc I2 hleI2 da2 dp2 ua2 up2) (k:=?_); clear hm; rintro _ I3 _ _ ⟨be3, es3, rfl, hE3, da3, dp3, ua3, up3, rfl⟩ hleI3 hm; try simp only [setn] at hm)
      | (refine m_varS (d:=7) hm (k:=?_); clear hm; intro b7 _ hm)
      | (refine m_var1 (d:=7) hm (k:=?_); clear hm; intro b7 _ hm)
      | refine m_load1 hm (k:=?_)
      | refine i_load1 hm (k:=?_)
      | refine m_loadAll hm (k:=?_)
      | refine i_loadN hm (k:=?_)
      | refine i_load1z hm (k:=?_)
      | (refine m_storeAll hm (k:=?_); clear hm; intro _ hm; try simp only [setn] at hm)
      | (refine m_store1 hm (k:=?_); clear hm; intro _ hm; try simp only [setn] at hm)
      | (refine m_storeN hm (k:=?_); clear hm; intro _ hm; try simp only [setn] at hm)
      | refine m_ret_agg hm (h:=?_)
      | refine m_ret2_agg hm (h:=?_)
      | refine op_move (k:=?_)
      | refine op_assign (k:=?_)
      | refine op_lss (k:=?_)
      | refine op_eql (k:=?_)
      | refine op_eql_str (k:=?_)
      | refine op_eql_bool (k:=?_)
      | refine op_eql_flat (k:=?_)
      | refine op_len_str (k:=?_)
      | refine op_len_slice (k:=?_)
      | refine op_add (k:=?_)
      | refine op_add_u8 (k:=?_)
      | refine op_indexAddr_arr (k:=?_)
      | refine op_fieldAddr (k:=?_)
      | refine op_indexAddr (k:=?_)
      | refine op_load1 (k:=?_)
      | refine wl_nil ?_
      | refine at_then_normal ?_
      | refine at_then_ret ?_
      | refine at_then_exit ?_
      | refine at_block_normal ?_
      | refine at_block_ret ?_
      | refine at_block_exit ?_
      | refine at_block_other (h:=?_)
      | refine wc_seq ?_
      | refine wc_region ?_
      | refine wc_block ?_
      | refine wc_skip ?_
      | refine wc_exit ?_
      | refine wc_ret ?_
      | refine at_ret0 (h:=?_)
      | refine at_end0 (h:=?_)
      | refine wc_cond_true (ht:=?_)
      | refine wc_cond_false (hf:=?_)
      | (refine wc_cond_dec (ht:=fun _ => ?_) (hf:=fun _ => ?_)<;> (try first | contradiction | (exfalso; omega)))
      | refine wc_cond (ht:=fun _ => ?_) (hf:=fun _ => ?_))
      all_goals try (exfalso; omega)
      exact at_round (⟨k + 1, I3, be3, es3, da3, dp3, ua3, up3⟩ : RY) (by exact ⟨rfl, rfl, rfl, rfl, rfl, trivial⟩) ⟨by dsimp only; rw [hst]; exact hm.left, by dsimp only; rw [hst]; exact hE3, (hle1.trans hleI2).trans hleI3, by dsimp only; omega⟩ (by dsimp only; omega)
    rw [if_neg k1] at hst
    by_cases k2 : y.kind = 2
    · rw [if_pos k2] at hst
      have hc := fun (J : Imm) (m : Le I1 J) (da : Option Addr) (dp : Nat) (ua : Option Addr) (up : Nat) => r_local (I := J) (bc := bc) (s := r2) (da := da) (dp := dp) (ua := ua) (up := up) (hC1.le m) (hE1.le m) y.at_ y.name (a1 (.inr (.inl k2))) (by omega)
      generalize Sp.locN p r.1 y.at_ y.name r2 = z at hc hst
      repeat' (first
      | (refine i_indexAddr (d:=12) (hr:=hrow) (k:=?_); intro bt ot hpt; rw [show ((k : Int).toNat * 15) = k * 15 from rfl, hcs] at hpt)
      | (refine i_loadN (d:=13) hm (hp:=hpt) (k:=?_))
      | (refine m_loadN (n := 6) (d := 17) (vs := exCells y.e ea ec) hm (by rfl) (by rfl) (by rfl) (by first | exact gt0 | exact gt1 | exact gt2 | exact gt3 | exact gt4 | exact gt5 | exact gt6) (by rfl) (by rfl) ?_)
      | (refine m_call (d:=18) hm (hp:=pm3_1) (hc:=hEx) (k:=?_); clear hm; rintro _ I2 _ _ ⟨rfl, da2, dp2, ua2, up2, rfl⟩ hleI2 hm; try simp only [setn] at hm)
      | (refine m_call (d:=38) hm (hp:=pm3_0) (hc:=hc I2 hleI2 da2 dp2 ua2 up2) (k:=?_); clear hm; rintro _ I3 _ _ ⟨rfl, da3, dp3, ua3, up3, rfl⟩ hleI3 hm; try simp only [setn] at hm)
      | (refine m_varS (d:=7) hm (k:=?_); clear hm; intro b7 _ hm)
      | (refine m_var1 (d:=7) hm (k:=?_); clear hm; intro b7 _ hm)
      | refine m_load1 hm (k:=?_)
      | refine i_load1 hm (k:=?_)
      | refine m_loadAll hm (k:=?_)
      | refine i_loadN hm (k:=?_)
      | refine i_load1z hm (k:=?_)
      | (refine m_storeAll hm (k:=?_); clear hm; intro _ hm; try simp only [setn] at hm)
      | (refine m_store1 hm (k:=?_); clear hm; intro _ hm; try simp only [setn] at hm)
      | (refine m_storeN hm (k:=?_); clear hm; intro _ hm; try simp only [setn] at hm)
      | refine m_ret_agg hm (h:=?_)
      | refine m_ret2_agg hm (h:=?_)
      | refine op_move (k:=?_)
      | refine op_assign (k:=?_)
      | refine op_lss (k:=?_)
      | refine op_eql (k:=?_)
      | refine op_eql_str (k:=?_)
      | refine op_eql_bool (k:=?_)
      | refine op_eql_flat (k:=?_)
      | refine op_len_str (k:=?_)
      | refine op_len_slice (k:=?_)
      | refine op_add (k:=?_)
      | refine op_add_u8 (k:=?_)
      | refine op_indexAddr_arr (k:=?_)
      | refine op_fieldAddr (k:=?_)
      | refine op_indexAddr (k:=?_)
      | refine op_load1 (k:=?_)
      | refine wl_nil ?_
      | refine at_then_normal ?_
      | refine at_then_ret ?_
      | refine at_then_exit ?_
      | refine at_block_normal ?_
      | refine at_block_ret ?_
      | refine at_block_exit ?_
      | refine at_block_other (h:=?_)
      | refine wc_seq ?_
      | refine wc_region ?_
      | refine wc_block ?_
      | refine wc_skip ?_
      | refine wc_exit ?_
      | refine wc_ret ?_
      | refine at_ret0 (h:=?_)
      | refine at_end0 (h:=?_)
      | refine wc_cond_true (ht:=?_)
      | refine wc_cond_false (hf:=?_)
      | (refine wc_cond_dec (ht:=fun _ => ?_) (hf:=fun _ => ?_)<;> (try first | contradiction | (exfalso; omega)))
      | refine wc_cond (ht:=fun _ => ?_) (hf:=fun _ => ?_))
      all_goals try (exfalso; omega)
      exact at_round (⟨k + 1, I3, be1, es1, da3, dp3, ua3, up3⟩ : RY) (by exact ⟨rfl, rfl, rfl, rfl, rfl, trivial⟩) ⟨by dsimp only; rw [hst]; exact hm.left, by dsimp only; rw [hst]; exact (hE1.le hleI2).le hleI3, (hle1.trans hleI2).trans hleI3, by dsimp only; omega⟩ (by dsimp only; omega)
    rw [if_neg k2] at hst
    by_cases k5 : y.kind = 5
    · rw [if_pos k5] at hst
      have hc := fun (J : Imm) (m : Le I1 J) (da : Option Addr) (dp : Nat) (ua : Option Addr) (up : Nat) => r_glob (I := J) (bc := bc) (s := r2) (da := da) (dp := dp) (ua := ua) (up := up) (hC1.le m) 1 y.at_ y.name (a1 (.inr (.inr k5))) (by omega)
      generalize Sp.itmN its p 1 y.at_ y.name r2 = z at hc hst
      generalize Sp.findV its 1 y.name = zz at hc
      repeat' (first
      | (refine i_indexAddr (d:=12) (hr:=hrow) (k:=?_); intro bt ot hpt; rw [show ((k : Int).toNat * 15) = k * 15 from rfl, hcs] at hpt)
      | (refine i_loadN (d:=13) hm (hp:=hpt) (k:=?_))
      | (refine m_loadN (n := 6) (d := 17) (vs := exCells y.e ea ec) hm (by rfl) (by rfl) (by rfl) (by first | exact gt0 | exact gt1 | exact gt2 | exact gt3 | exact gt4 | exact gt5 | exact gt6) (by rfl) (by rfl) ?_)
      | (refine m_call (d:=18) hm (hp:=pm3_1) (hc:=hEx) (k:=?_); clear hm; rintro _ I2 _ _ ⟨rfl, da2, dp2, ua2, up2, rfl⟩ hleI2 hm; try simp only [setn] at hm)
      | (refine m_call (d:=46) hm (hp:=pm3_0) (hc:=hc I2 hleI2 da2 dp2 ua2 up2) (k:=?_); clear hm; rintro _ I3 _ _ ⟨rfl, da3, dp3, ua3, up3, rfl⟩ hleI3 hm; try simp only [setn] at hm)
      | (refine m_varS (d:=7) hm (k:=?_); clear hm; intro b7 _ hm)
      | (refine m_var1 (d:=7) hm (k:=?_); clear hm; intro b7 _ hm)
      | refine m_load1 hm (k:=?_)
      | refine i_load1 hm (k:=?_)
      | refine m_loadAll hm (k:=?_)
      | refine i_loadN hm (k:=?_)
      | refine i_load1z hm (k:=?_)
      | (refine m_storeAll hm (k:=?_); clear hm; intro _ hm; try simp only [setn] at hm)
      | (refine m_store1 hm (k:=?_); clear hm; intro _ hm; try simp only [setn] at hm)
      | (refine m_storeN hm (k:=?_); clear hm; intro _ hm; try simp only [setn] at hm)
      | refine m_ret_agg hm (h:=?_)
      | refine m_ret2_agg hm (h:=?_)
      | refine op_move (k:=?_)
      | refine op_assign (k:=?_)
      | refine op_lss (k:=?_)
      | refine op_eql (k:=?_)
      | refine op_eql_str (k:=?_)
      | refine op_eql_bool (k:=?_)
      | refine op_eql_flat (k:=?_)
      | refine op_len_str (k:=?_)
      | refine op_len_slice (k:=?_)
      | refine op_add (k:=?_)
      | refine op_add_u8 (k:=?_)
      | refine op_indexAddr_arr (k:=?_)
      | refine op_fieldAddr (k:=?_)
      | refine op_indexAddr (k:=?_)
      | refine op_load1 (k:=?_)
      | refine wl_nil ?_
      | refine at_then_normal ?_
      | refine at_then_ret ?_
      | refine at_then_exit ?_
      | refine at_block_normal ?_
      | refine at_block_ret ?_
      | refine at_block_exit ?_
      | refine at_block_other (h:=?_)
      | refine wc_seq ?_
      | refine wc_region ?_
      | refine wc_block ?_
      | refine wc_skip ?_
      | refine wc_exit ?_
      | refine wc_ret ?_
      | refine at_ret0 (h:=?_)
      | refine at_end0 (h:=?_)
      | refine wc_cond_true (ht:=?_)
      | refine wc_cond_false (hf:=?_)
      | (refine wc_cond_dec (ht:=fun _ => ?_) (hf:=fun _ => ?_)<;> (try first | contradiction | (exfalso; omega)))
      | refine wc_cond (ht:=fun _ => ?_) (hf:=fun _ => ?_))
      all_goals try (exfalso; omega)
      exact at_round (⟨k + 1, I3, be1, es1, da3, dp3, ua3, up3⟩ : RY) (by exact ⟨rfl, rfl, rfl, rfl, rfl, trivial⟩) ⟨by dsimp only; rw [hst]; exact hm.left, by dsimp only; rw [hst]; exact (hE1.le hleI2).le hleI3, (hle1.trans hleI2).trans hleI3, by dsimp only; omega⟩ (by dsimp only; omega)
    rw [if_neg k5] at hst
    by_cases k34 : y.kind = 3 ∨ y.kind = 4
    · rw [if_pos k34] at hst
      have hb1 := fun (J : Imm) (m : Le I1 J) (da : Option Addr) (dp : Nat) (ua : Option Addr) (up : Nat) => hSk.1 J a1' c1 xs1 r.1 r2 be1 es1 da dp ua up (by omega) (hC1.le m) (hE1.le m) ((hr4.le hle1).le m) (StsAt.le m _ _ (StsAt.le hle1 _ _ hx4))
      have hnn3 := Sp.stmsN_n its p y.thn r.1 r2
      generalize Sp.stmsN its p y.thn r.1 r2 = r7 at hb1 hnn3 hst
      have hb2 := fun (J : Imm) (m : Le I1 J) (da : Option Addr) (dp : Nat) (ua : Option Addr) (up : Nat) => hSk.2 J a2' c2 xs2 r.1 r7.2 be1 es1 da dp ua up (by omega) (hC1.le m) (hE1.le m) ((hr5.le hle1).le m) (StsAt.le m _ _ (StsAt.le hle1 _ _ hx5))
      generalize Sp.stmsN its p y.els r.1 r7.2 = r8 at hb2 hst
      repeat' (first
      | (refine i_indexAddr (d:=12) (hr:=hrow) (k:=?_); intro bt ot hpt; rw [show ((k : Int).toNat * 15) = k * 15 from rfl, hcs] at hpt)
      | (refine i_loadN (d:=13) hm (hp:=hpt) (k:=?_))
      | (refine m_loadN (n := 6) (d := 17) (vs := exCells y.e ea ec) hm (by rfl) (by rfl) (by rfl) (by first | exact gt0 | exact gt1 | exact gt2 | exact gt3 | exact gt4 | exact gt5 | exact gt6) (by rfl) (by rfl) ?_)
      | (refine m_call (d:=18) hm (hp:=pm3_1) (hc:=hEx) (k:=?_); clear hm; rintro _ I2 _ _ ⟨rfl, da2, dp2, ua2, up2, rfl⟩ hleI2 hm; try simp only [setn] at hm)
      | (refine m_call (d:=54) hm (hp:=pm3_0) (hc:=hb1 I2 hleI2 da2 dp2 ua2 up2) (k:=?_); clear hm; rintro _ I3 _ _ ⟨rfl, da3, dp3, ua3, up3, rfl⟩ hleI3 hm; try simp only [setn] at hm)
      | (refine m_call (d:=59) hm (hp:=pm3_0) (hc:=hb2 I3 (hleI2.trans hleI3) da3 dp3 ua3 up3) (k:=?_); clear hm; rintro _ I4 _ _ ⟨rfl, da4, dp4, ua4, up4, rfl⟩ hleI4 hm; try simp only [setn] at hm)
      | (refine m_varS (d:=7) hm (k:=?_); clear hm; intro b7 _ hm)
      | (refine m_var1 (d:=7) hm (k:=?_); clear hm; intro b7 _ hm)
      | refine m_load1 hm (k:=?_)
      | refine i_load1 hm (k:=?_)
      | refine m_loadAll hm (k:=?_)
      | refine i_loadN hm (k:=?_)
      | refine i_load1z hm (k:=?_)
      | (refine m_storeAll hm (k:=?_); clear hm; intro _ hm; try simp only [setn] at hm)
      | (refine m_store1 hm (k:=?_); clear hm; intro _ hm; try simp only [setn] at hm)
      | (refine m_storeN hm (k:=?_); clear hm; intro _ hm; try simp only [setn] at hm)
      | refine m_ret_agg hm (h:=?_)
      | refine m_ret2_agg hm (h:=?_)
      | refine op_move (k:=?_)
      | refine op_assign (k:=?_)
      | refine op_lss (k:=?_)
      | refine op_eql (k:=?_)
      | refine op_eql_str (k:=?_)
      | refine op_eql_bool (k:=?_)
      | refine op_eql_flat (k:=?_)
      | refine op_len_str (k:=?_)
      | refine op_len_slice (k:=?_)
      | refine op_add (k:=?_)
      | refine op_add_u8 (k:=?_)
      | refine op_indexAddr_arr (k:=?_)
      | refine op_fieldAddr (k:=?_)
      | refine op_indexAddr (k:=?_)
      | refine op_load1 (k:=?_)
      | refine wl_nil ?_
      | refine at_then_normal ?_
      | refine at_then_ret ?_
      | refine at_then_exit ?_
      | refine at_block_normal ?_
      | refine at_block_ret ?_
      | refine at_block_exit ?_
      | refine at_block_other (h:=?_)
      | refine wc_seq ?_
      | refine wc_region ?_
      | refine wc_block ?_
      | refine wc_skip ?_
      | refine wc_exit ?_
      | refine wc_ret ?_
      | refine at_ret0 (h:=?_)
      | refine at_end0 (h:=?_)
      | refine wc_cond_true (ht:=?_)
      | refine wc_cond_false (hf:=?_)
      | (refine wc_cond_dec (ht:=fun _ => ?_) (hf:=fun _ => ?_)<;> (try first | contradiction | (exfalso; omega)))
      | refine wc_cond (ht:=fun _ => ?_) (hf:=fun _ => ?_))
      all_goals try (exfalso; omega)
      all_goals exact at_round (⟨k + 1, I4, be1, es1, da4, dp4, ua4, up4⟩ : RY) (by exact ⟨rfl, rfl, rfl, rfl, rfl, trivial⟩) ⟨by dsimp only; rw [hst]; exact hm.left, by dsimp only; rw [hst]; exact ((hE1.le hleI2).le hleI3).le hleI4, ((hle1.trans hleI2).trans hleI3).trans hleI4, by dsimp only; omega⟩ (by dsimp only; omega)
    · rw [if_neg k34] at hst
      repeat' (first
      | (refine i_indexAddr (d:=12) (hr:=hrow) (k:=?_); intro bt ot hpt; rw [show ((k : Int).toNat * 15) = k * 15 from rfl, hcs] at hpt)
      | (refine i_loadN (d:=13) hm (hp:=hpt) (k:=?_))
      | (refine m_loadN (n := 6) (d := 17) (vs := exCells y.e ea ec) hm (by rfl) (by rfl) (by rfl) (by first | exact gt0 | exact gt1 | exact gt2 | exact gt3 | exact gt4 | exact gt5 | exact gt6) (by rfl) (by rfl) ?_)
      | (refine m_call (d:=18) hm (hp:=pm3_1) (hc:=hEx) (k:=?_); clear hm; rintro _ I2 _ _ ⟨rfl, da2, dp2, ua2, up2, rfl⟩ hleI2 hm; try simp only [setn] at hm)
      | (refine m_varS (d:=7) hm (k:=?_); clear hm; intro b7 _ hm)
      | (refine m_var1 (d:=7) hm (k:=?_); clear hm; intro b7 _ hm)
      | refine m_load1 hm (k:=?_)
      | refine i_load1 hm (k:=?_)
      | refine m_loadAll hm (k:=?_)
      | refine i_loadN hm (k:=?_)
      | refine i_load1z hm (k:=?_)
      | (refine m_storeAll hm (k:=?_); clear hm; intro _ hm; try simp only [setn] at hm)
      | (refine m_store1 hm (k:=?_); clear hm; intro _ hm; try simp only [setn] at hm)
      | (refine m_storeN hm (k:=?_); clear hm; intro _ hm; try simp only [setn] at hm)
      | refine m_ret_agg hm (h:=?_)
      | refine m_ret2_agg hm (h:=?_)
      | refine op_move (k:=?_)
      | refine op_assign (k:=?_)
      | refine op_lss (k:=?_)
      | refine op_eql (k:=?_)
      | refine op_eql_str (k:=?_)
      | refine op_eql_bool (k:=?_)
      | refine op_eql_flat (k:=?_)
      | refine op_len_str (k:=?_)
      | refine op_len_slice (k:=?_)
      | refine op_add (k:=?_)
      | refine op_add_u8 (k:=?_)
      | refine op_indexAddr_arr (k:=?_)
      | refine op_fieldAddr (k:=?_)
      | refine op_indexAddr (k:=?_)
      | refine op_load1 (k:=?_)
      | refine wl_nil ?_
      | refine at_then_normal ?_
      | refine at_then_ret ?_
      | refine at_then_exit ?_
      | refine at_block_normal ?_
      | refine at_block_ret ?_
      | refine at_block_exit ?_
      | refine at_block_other (h:=?_)
      | refine wc_seq ?_
      | refine wc_region ?_
      | refine wc_block ?_
      | refine wc_skip ?_
      | refine wc_exit ?_
      | refine wc_ret ?_
      | refine at_ret0 (h:=?_)
      | refine at_end0 (h:=?_)
      | refine wc_cond_true (ht:=?_)
      | refine wc_cond_false (hf:=?_)
      | (refine wc_cond_dec (ht:=fun _ => ?_) (hf:=fun _ => ?_)<;> (try first | contradiction | (exfalso; omega)))
      | refine wc_cond (ht:=fun _ => ?_) (hf:=fun _ => ?_))
      all_goals try (exfalso; omega)
      exact at_round (⟨k + 1, I2, be1, es1, da2, dp2, ua2, up2⟩ : RY) (by exact ⟨rfl, rfl, rfl, rfl, rfl, trivial⟩) ⟨by dsimp only; rw [hst]; exact hm.left, by dsimp only; rw [hst]; exact hE1.le hleI2, hle1.trans hleI2, by dsimp only; omega⟩ (by dsimp only; omega)
  · obtain rfl : k = l.length := by omega
    rw [List.take_length] at hm
    repeat' (first
    | (refine m_varS (d:=7) hm (k:=?_); clear hm; intro b7 _ hm)
    | (refine m_var1 (d:=7) hm (k:=?_); clear hm; intro b7 _ hm)
    | refine m_load1 hm (k:=?_)
    | refine i_load1 hm (k:=?_)
    | refine m_loadAll hm (k:=?_)
    | refine i_loadN hm (k:=?_)
    | refine i_load1z hm (k:=?_)
    | (refine m_storeAll hm (k:=?_); clear hm; intro _ hm; try simp only [setn] at hm)
    | (refine m_store1 hm (k:=?_); clear hm; intro _ hm; try simp only [setn] at hm)
    | (refine m_storeN hm (k:=?_); clear hm; intro _ hm; try simp only [setn] at hm)
    | refine m_ret_agg hm (h:=?_)
    | refine m_ret2_agg hm (h:=?_)
    | refine op_move (k:=?_)
    | refine op_assign (k:=?_)
    | refine op_lss (k:=?_)
    | refine op_eql (k:=?_)
    | refine op_eql_str (k:=?_)
    | refine op_eql_bool (k:=?_)
    | refine op_eql_flat (k:=?_)
    | refine op_len_str (k:=?_)
    | refine op_len_slice (k:=?_)
    | refine op_add (k:=?_)
    | refine op_add_u8 (k:=?_)
    | refine op_indexAddr_arr (k:=?_)
    | refine op_fieldAddr (k:=?_)
    | refine op_indexAddr (k:=?_)
    | refine op_load1 (k:=?_)
    | refine wl_nil ?_
    | refine at_then_normal ?_
    | refine at_then_ret ?_
    | refine at_then_exit ?_
    | refine at_block_normal ?_
    | refine at_block_ret ?_
    | refine at_block_exit ?_
    | refine at_block_other (h:=?_)
    | refine wc_seq ?_
    | refine wc_region ?_
    | refine wc_block ?_
    | refine wc_skip ?_
    | refine wc_exit ?_
    | refine wc_ret ?_
    | refine at_ret0 (h:=?_)
    | refine at_end0 (h:=?_)
    | refine wc_cond_true (ht:=?_)
    | refine wc_cond_false (hf:=?_)
    | (refine wc_cond_dec (ht:=fun _ => ?_) (hf:=fun _ => ?_)<;> (try first | contradiction | (exfalso; omega)))
    | refine wc_cond (ht:=fun _ => ?_) (hf:=fun _ => ?_))
    all_goals try (exfalso; omega)
    exact ⟨I1, _, ⟨rfl, _, _, _, _, rfl⟩, hm⟩
theorem r_blk : ∀ (n : Nat) (l : List Sp.Stm), SizeOf.sizeOf l ≤ n → l.length ≤ 64 → Sp.stmsSmall l → Sp.stmsAll (Sp.stE q) (Sp.stS q) l → RBlkOk src p q its i it bc a cp xs l := by
  intro n
  induction n with
  | zero => intro l h; cases l <;> simp at h
  | succ n ih =>
  intro l hsz hll hsm hal
  refine r_block l hll hsm hal (fun y hy => ?_)
  obtain ⟨j, hj, rfl⟩ := List.getElem_of_mem hy
  have hg := List.getElem?_eq_getElem hj
  have h1 := Sp.stmsSmall_get hsm hg
  have h0 := Sp.stmsAll_get hal hg
  have h2 := Sp.Stm.all_node h0
  have h3 := Sp.sizeL_mem (List.getElem_mem hj)
  generalize l[j] = y at h0 h1 h2 h3
  obtain ⟨s1, s2, s3, s4, s5⟩ := Sp.small_parts h1
  obtain ⟨z1, z2⟩ := Sp.size_thn (s := y)
  exact ⟨ih y.thn (by omega) s2 s3 h2.2.2.1, ih y.els (by omega) s4 s5 h2.2.2.2⟩
end
end Go.Proofs.YtkbiakajlfmakaaGreatDoor
end
section
namespace Go.Proofs.YtkbiakajlfmakaaGreatDoor
open Go.Fw
section
variable {src : List UInt8} {p : Nat} {q : List UInt8} {its : List Sp.Itm} {it : Sp.Itm} {bc bf : Nat} {a : Option Addr} {cp : Nat} {xs : List Value} {pi : Value}
theorem rfRow_take (l : List Sp.Rf) (n : Nat) : (l.flatMap encRf).take (n * 2) = (l.take n).flatMap encRf := by
  induction l generalizing n with
  | nil => simp
  | cons x l ih =>
    cases n with
    | zero => simp
    | succ n =>
      rw [List.flatMap_cons, List.take_succ_cons, List.flatMap_cons, show (n + 1) * 2 = 2 + n * 2 by omega, List.take_append, List.take_of_length_le (by show 2 ≤ 2 + n * 2; omega), show 2 + n * 2 - (encRf x).length = n * 2 by (show 2 + n * 2 - 2 = n * 2; omega), ih]
theorem n_itemA {I : Imm} {sc : List Sp.Lc} {s : Sp.NW} {sa : Option Addr} {sp : Nat} {da : Option Addr} {dp : Nat} {ua : Option Addr} {up : Nat} (hC : NC I src p q its it bf a cp xs pi) (k : Int) (f : Nat) (n : List UInt8) (hst : Sp.stands q f n) (hd : s.n ≤ 1000000000) :
    CalM Tryz.prog 62 #[ptr bc, .int .i64 k, nt f, str n] I (NSt bc bf pi sc sa sp s da dp ua up)
      (fun _ _ H' => ∃ sa sp da dp ua up, H' = NSt bc bf pi sc sa sp (Sp.itmN its p k f n s) da dp ua up) := by
  cases hf : Sp.findIt its k n with
  | none => exact (n_item0 hC k f n hst hd hf).mono (fun _ _ _ _ h => h.2)
  | some j => exact (n_item1 hC k f n hst hd hf).mono (fun _ _ _ _ h => h.2)
set_option maxHeartbeats 32000000 in
theorem n_fn {I : Imm} {s : Sp.NW} {sa : Option Addr} {sp : Nat} {da : Option Addr} {dp : Nat} {ua : Option Addr} {up : Nat} (hC : NC I src p q its it bf a cp xs pi) (hsm : it.small) (hcn : Sp.stmsCnt it.body ≤ 400000000) (hd : s.n ≤ 1000) :
    CalM Tryz.prog 43 #[ptr bc] I (NSt bc bf pi [] sa sp s da dp ua up) (ToN bc bf pi (Sp.parN it.params [] s).1 (Sp.fnN its it s) (.tuple #[])) := by
  refine CalM.of fun w E hm => enter (N := 76) Tryz.func43 rfl [(0, ptr bc)] args1 rfl ?_
  have hlen := hC.len
  have hst := hC.st
  rw [Sp.fnN, hst.at_]
  obtain ⟨bi, oi, tci, ci, rfl, hpi, hati⟩ := hC.item
  obtain ⟨pa, pc, sa9, sc9, ba, bc9, da9, dc9, xb, rfl, hpar, hsnd, hrb, hbs, _⟩ := hati
  have hsp := hsm.params
  have hss := hsm.sends
  have hsb := hsm.body
  repeat' (first
  | refine m_load1 hm (k:=?_)
  | refine i_load1 hm (k:=?_)
  | refine op_move (k:=?_)
  | refine op_len_slice (k:=?_)
  | refine op_nilCheck (k:=?_)
  | refine op_fieldAddr (k:=?_)
  | refine wl_nil ?_
  | refine at_then_normal ?_
  | refine wc_seq ?_
  | refine wc_region ?_
  | refine wc_block ?_)
  refine wc_loop (fun x : NX => [(0, ptr bc), (12, .slice pa it.params.length pc), (13, nt it.params.length), (14, nt x.k)])
    (fun x w' => Mem E x.I (NSt bc bf (.pointer (some ⟨bi, oi, none⟩)) (Sp.parN (it.params.take x.k) [] s).1 x.sa x.sp (Sp.parN (it.params.take x.k) [] s).2 x.da x.dp x.ua x.up) w' ∧ Le I x.I ∧ x.k ≤ it.params.length) (fun x => it.params.length - x.k) ⟨0, I, sa, sp, da, dp, ua, up⟩
    (by exact ⟨rfl, rfl, rfl, rfl, trivial⟩) ⟨by dsimp only; rw [List.take_zero, Sp.parN]; exact hm, Le.refl _, Nat.zero_le _⟩ ?_
  clear hm
  rintro ⟨k, I1, sa1, sp1, da1, dp1, ua1, up1⟩ w1 ⟨hm, hle1, hk⟩
  dsimp only at hm hle1 hk ⊢
  by_cases hlt : k < it.params.length
  · have hg : it.params[k]? = some it.params[k] := List.getElem?_eq_getElem hlt
    have hpst := (hst.sub _ _ (hst.params _ (List.getElem_mem hlt))).1
    have hstp := Sp.parN_step hg [] s
    have hpr := hpar.le hle1
    have hgk : it.params[((k : Nat) : Int).toNat]? = some it.params[k] := hg
    generalize it.params[k] = y at hg hpst hstp hgk
    have hnn := Sp.parN_n (it.params.take k) [] s
    rw [List.length_take] at hnn
    generalize Sp.parN (it.params.take k) [] s = r at hm hstp hnn
    have hc := fun (J : Imm) => n_make (I := J) (bc := bc) (bf := bf) (pi := .pointer (some ⟨bi, oi, none⟩)) (sc := r.1) (sa := sa1) (sp := sp1) (s := r.2) (da := da1) (dp := dp1) (ua := ua1) (up := up1) y.name y.at_ (by omega) (by dsimp only [List.length_nil] at hnn; omega) (by omega)
    generalize Sp.mkN y.name y.at_ r.1 r.2 = z at hc hstp
    repeat' (first
    | (refine i_indexFlat (d:=16) (enc:=encPar) (z:=y) (hr:=hpr) (he:=fun _ => rfl) (hz:=hgk) (k:=?_); intro bt ot hpt)
    | (refine m_call (d:=23) hm (hp:=pm4_1) (hc:=hc I1) (k:=?_); clear hm; rintro _ I2 _ _ ⟨rfl, sa2, sp2, da2, dp2, ua2, up2, rfl⟩ hleI2 hm; try simp only [setn] at hm)
    | (refine m_varS (d:=3) hm (k:=?_); clear hm; intro b3 _ hm)
    | refine m_load1 hm (k:=?_)
    | refine i_loadN hm (k:=?_)
    | refine op_move (k:=?_)
    | refine op_lss (k:=?_)
    | refine op_add (k:=?_)
    | refine op_fieldAddr (k:=?_)
    | refine wl_nil ?_
    | refine at_then_normal ?_
    | refine at_block_normal ?_
    | refine wc_seq ?_
    | refine wc_region ?_
    | refine wc_block ?_
    | refine wc_skip ?_
    | (refine wc_cond_dec (ht:=fun _ => ?_) (hf:=fun _ => ?_)<;> (try first | contradiction | (exfalso; omega))))
    all_goals try (exfalso; omega)
    exact at_round (⟨k + 1, I2, sa2, sp2, da2, dp2, ua2, up2⟩ : NX) (by exact ⟨rfl, rfl, rfl, rfl, trivial⟩) ⟨by dsimp only; rw [hstp]; exact hm.left, hle1.trans hleI2, by dsimp only; omega⟩ (by dsimp only; omega)
  obtain rfl : k = it.params.length := by omega
  rw [List.take_length] at hm
  have hnp := Sp.parN_n it.params [] s
  have hsc1 := Sp.parN_sc it.params hst.params Sp.scOk_nil s
  generalize Sp.parN it.params [] s = r at hm hnp hsc1 ⊢
  have hpi1 := hpi.le hle1
  repeat' (first
  | refine m_load1 hm (k:=?_)
  | refine i_load1 hm (k:=?_)
  | refine op_move (k:=?_)
  | refine op_lss (k:=?_)
  | refine op_len_slice (k:=?_)
  | refine op_nilCheck (k:=?_)
  | refine op_fieldAddr (k:=?_)
  | refine wl_nil ?_
  | refine at_then_normal ?_
  | refine at_then_exit ?_
  | refine at_block_exit ?_
  | refine wc_seq ?_
  | refine wc_region ?_
  | refine wc_block ?_
  | refine wc_exit ?_
  | (refine wc_cond_dec (ht:=fun _ => ?_) (hf:=fun _ => ?_)<;> (try first | contradiction | (exfalso; omega))))
  all_goals try (exfalso; omega)
  refine wc_loop (fun x : NX => [(0, ptr bc), (31, .slice sa9 it.sends.length sc9), (32, nt it.sends.length), (33, nt x.k)])
    (fun x w' => Mem E x.I (NSt bc bf (.pointer (some ⟨bi, oi, none⟩)) r.1 x.sa x.sp (Sp.sndN its p [] (it.sends.take x.k) r.2) x.da x.dp x.ua x.up) w' ∧ Le I x.I ∧ x.k ≤ it.sends.length) (fun x => it.sends.length - x.k) ⟨0, I1, sa1, sp1, da1, dp1, ua1, up1⟩
    (by exact ⟨rfl, rfl, rfl, rfl, trivial⟩) ⟨by dsimp only; rw [List.take_zero, Sp.sndN]; exact hm, hle1, Nat.zero_le _⟩ ?_
  clear hm hpi1 hle1 hlt hk
  rintro ⟨k, I2, sa2, sp2, da2, dp2, ua2, up2⟩ w2 ⟨hm, hle2, hk⟩
  dsimp only at hm hle2 hk ⊢
  have hC2 := hC.le hle2
  have hpi2 := hpi.le hle2
  by_cases hlt : k < it.sends.length
  · have hg : it.sends[k]? = some it.sends[k] := List.getElem?_eq_getElem hlt
    have hs0 := hst.sends _ (List.getElem_mem hlt)
    have hpst := (hst.sub _ _ hs0).1
    have hstp := Sp.sndN_step its p hg r.2
    have hpr := hsnd.le hle2
    have hgk : it.sends[((k : Nat) : Int).toNat]? = some it.sends[k] := hg
    generalize it.sends[k] = y at hg hpst hstp hgk hs0
    have hnn := Sp.sndN_n its p (it.sends.take k) [] r.2
    rw [List.length_take] at hnn
    generalize Sp.sndN its p [] (it.sends.take k) r.2 = s1 at hm hstp hnn
    have hc := fun (J : Imm) (m : Le I2 J) => n_itemA (I := J) (bc := bc) (sc := r.1) (s := s1) (sa := sa2) (sp := sp2) (da := da2) (dp := dp2) (ua := ua2) (up := up2) (hC2.le m) 1 y.at_ y.name hs0 (by omega)
    have hin := Sp.itmN_n its p 1 y.at_ y.name s1
    rw [Sp.sndStep] at hstp
    generalize Sp.itmN its p 1 y.at_ y.name s1 = s2 at hc hstp hin
    have htl : (it.sends.take k).length = k := by rw [List.length_take]; omega
    repeat' (first
    | refine wc_hold 9 ?_
    | (refine i_indexFlat (d:=36) (enc:=encRf) (z:=y) (hr:=hpr) (he:=fun _ => rfl) (hz:=hgk) (k:=?_); intro bt ot hpt)
    | (refine m_call (d:=43) hm (hp:=pm4_1) (hc:=hc I2 (Le.refl _)) (k:=?_); clear hm; rintro _ I3 _ _ ⟨sa3, sp3, da3, dp3, ua3, up3, rfl⟩ hleI3 hm; try simp only [setn] at hm)
    | (refine m_allocS (d:=5) hm (k:=?_); clear hm; intro b5 _ hm)
    | refine m_load1 hm (k:=?_)
    | refine i_loadN hm (k:=?_)
    | (refine m_storeAll hm (k:=?_); clear hm; intro _ hm; try simp only [setn] at hm)
    | refine op_move (k:=?_)
    | refine op_assign (k:=?_)
    | refine op_lss (k:=?_)
    | refine op_fieldAddr (k:=?_)
    | refine wl_nil ?_
    | refine at_then_normal ?_
    | refine wc_seq ?_
    | refine wc_region ?_
    | refine wc_block ?_
    | refine wc_skip ?_
    | (refine wc_cond_dec (ht:=fun _ => ?_) (hf:=fun _ => ?_)<;> (try first | contradiction | (exfalso; omega))))
    all_goals try (exfalso; omega)
    obtain ⟨I4, hle4, hm4, hpn⟩ := (hm.front 4 rfl).freezeO
    clear hm
    have hm := hm4
    clear hm4
    have hpi4 := (hpi2.le hleI3).le hle4
    have hpr4 := (hpr.le hleI3).le hle4
    have hct := n_contains 64 [ptr b5] (fun x => decide (x.name = y.name)) (it.sends.take k) (by omega) I4 sa9 sc9 (by rw [htl, ← rfRow_take]; exact hpr4.take (by omega)) (fun I' m x => n_refC I' b5 y (hpn.le m) x)
    rw [htl] at hct
    refine ⟨?_⟩
    by_cases hn : y.name ≠ []
    · cases hb : (it.sends.take k).any (fun x => decide (x.name = y.name)) with
      | true =>
        rw [hb] at hct
        rw [if_pos ⟨hn, hb⟩] at hstp
        have hT := fun (J : Imm) => n_tell (I := J) (bc := bc) (bf := bf) (pi := .pointer (some ⟨bi, oi, none⟩)) (sc := r.1) (sa := sa3) (sp := sp3) (s := s2) (da := da3) (dp := dp3) (ua := ua3) (up := up3) y.name y.at_ 7 (by omega) (by omega)
        repeat' (first
        | (refine i_sliceTo (d:=56) hpr4 (k:=?_); intro _)
        | (refine m_call (d:=58) hm (hp:=pm0) (hc:=hct) (k:=?_); clear hm; rintro _ I5 _ _ ⟨rfl, rfl⟩ hleI5 hm; try simp only [setn] at hm; have hpn5 := hpn.le hleI5)
        | (refine m_call (d:=65) hm (hp:=pm4_0) (hc:=hT I5) (k:=?_); clear hm; rintro _ I6 _ _ ⟨rfl, sa4, sp4, da4, dp4, ua4, up4, rfl⟩ hleI6 hm; try simp only [setn] at hm)
        | refine m_load1 hm (k:=?_)
        | refine i_load1 hm (k:=?_)
        | refine op_move (k:=?_)
        | refine op_pick_true (k:=?_)
        | refine op_neq_str (k:=?_)
        | refine op_nilCheck (k:=?_)
        | refine op_makeFunc (k:=?_)
        | refine op_add (k:=?_)
        | refine op_fieldAddr (k:=?_)
        | (refine wl_split_dec (h1:=fun _ => ?_) (h0:=fun _ => ?_)<;> (try first | contradiction | (exfalso; omega)))
        | refine wl_nil ?_
        | refine at_then_normal ?_
        | refine at_block_normal ?_
        | refine wc_region ?_
        | refine wc_cond_true (ht:=?_))
        all_goals try (exfalso; first | omega | contradiction)
        exact at_round (⟨k + 1, I6, sa4, sp4, da4, dp4, ua4, up4⟩ : NX) (by exact ⟨rfl, rfl, rfl, rfl, trivial⟩) ⟨by dsimp only; rw [hstp]; exact hm, (((hle2.trans hleI3).trans hle4).trans hleI5).trans hleI6, by dsimp only; omega⟩ (by dsimp only; omega)
      | false =>
        rw [hb] at hct
        rw [if_neg (fun h => by rw [hb] at h; exact absurd h.2 (by decide))] at hstp
        repeat' (first
        | (refine i_sliceTo (d:=56) hpr4 (k:=?_); intro _)
        | (refine m_call (d:=58) hm (hp:=pm0) (hc:=hct) (k:=?_); clear hm; rintro _ I5 _ _ ⟨rfl, rfl⟩ hleI5 hm; try simp only [setn] at hm)
        | refine m_load1 hm (k:=?_)
        | refine i_load1 hm (k:=?_)
        | refine op_move (k:=?_)
        | refine op_pick_true (k:=?_)
        | refine op_neq_str (k:=?_)
        | refine op_nilCheck (k:=?_)
        | refine op_makeFunc (k:=?_)
        | refine op_add (k:=?_)
        | refine op_fieldAddr (k:=?_)
        | (refine wl_split_dec (h1:=fun _ => ?_) (h0:=fun _ => ?_)<;> (try first | contradiction | (exfalso; omega)))
        | refine wl_nil ?_
        | refine at_then_normal ?_
        | refine at_block_normal ?_
        | refine wc_region ?_
        | refine wc_skip ?_
        | refine wc_cond_false (hf:=?_))
        all_goals try (exfalso; first | omega | contradiction)
        exact at_round (⟨k + 1, I5, sa3, sp3, da3, dp3, ua3, up3⟩ : NX) (by exact ⟨rfl, rfl, rfl, rfl, trivial⟩) ⟨by dsimp only; rw [hstp]; exact hm, ((hle2.trans hleI3).trans hle4).trans hleI5, by dsimp only; omega⟩ (by dsimp only; omega)
    · rw [if_neg (fun h => hn h.1)] at hstp
      repeat' (first
      | refine i_load1 hm (k:=?_)
      | refine op_move (k:=?_)
      | refine op_pick_false (k:=?_)
      | refine op_neq_str (k:=?_)
      | refine op_add (k:=?_)
      | refine op_fieldAddr (k:=?_)
      | refine wl_skip (k:=?_)
      | (refine wl_split_dec (h1:=fun _ => ?_) (h0:=fun _ => ?_)<;> (try first | contradiction | (exfalso; omega)))
      | refine wl_nil ?_
      | refine at_then_normal ?_
      | refine at_block_normal ?_
      | refine wc_region ?_
      | refine wc_skip ?_
      | refine wc_cond_false (hf:=?_))
      all_goals try (exfalso; first | omega | contradiction)
      exact at_round (⟨k + 1, I4, sa3, sp3, da3, dp3, ua3, up3⟩ : NX) (by exact ⟨rfl, rfl, rfl, rfl, trivial⟩) ⟨by dsimp only; rw [hstp]; exact hm, (hle2.trans hleI3).trans hle4, by dsimp only; omega⟩ (by dsimp only; omega)
  · obtain rfl : k = it.sends.length := by omega
    rw [List.take_length] at hm
    have hnn := Sp.sndN_n its p it.sends [] r.2
    generalize Sp.sndN its p [] it.sends r.2 = s1 at hm hnn ⊢
    have hblk := n_blk (its := its) (it := it) (bc := bc) (bf := bf) (a := a) (cp := cp) (xs := xs) (src := src) (p := p) (q := q) (pi := .pointer (some ⟨bi, oi, none⟩)) _ it.body (Nat.le_refl _) (by omega) hsm.stms hst.body I2 ba bc9 xb r.1 s1 sa2 sp2 da2 dp2 ua2 up2 hsc1 (by dsimp only [List.length_nil] at hnp; omega) (by omega) hC2 (hrb.le hle2) (StsAt.le hle2 _ _ hbs)
    repeat' (first
    | (refine m_call (d:=75) hm (hp:=pm4_0) (hc:=hblk) (k:=?_); clear hm; rintro _ I5 _ _ ⟨rfl, sa4, sp4, da4, dp4, ua4, up4, rfl⟩ hleI5 hm; try simp only [setn] at hm)
    | refine m_load1 hm (k:=?_)
    | refine i_load1 hm (k:=?_)
    | refine op_move (k:=?_)
    | refine op_lss (k:=?_)
    | refine op_nilCheck (k:=?_)
    | refine op_fieldAddr (k:=?_)
    | refine wl_nil ?_
    | refine at_then_normal ?_
    | refine at_then_exit ?_
    | refine at_block_exit ?_
    | refine wc_seq ?_
    | refine wc_region ?_
    | refine wc_exit ?_
    | refine at_end0 (h:=?_)
    | (refine wc_cond_dec (ht:=fun _ => ?_) (hf:=fun _ => ?_)<;> (try first | contradiction | (exfalso; omega))))
    all_goals try (exfalso; omega)
    exact ⟨I5, _, ⟨rfl, _, _, _, _, _, _, rfl⟩, hm⟩
end
end Go.Proofs.YtkbiakajlfmakaaGreatDoor
end
