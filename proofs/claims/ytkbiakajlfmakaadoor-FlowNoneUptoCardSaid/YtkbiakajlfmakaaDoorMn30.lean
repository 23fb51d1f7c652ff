/- Own work: texts LawFn, one behind the other. -/
import Derived.Test.YtkbiakajlfmakaaDoorMn29
section
namespace Go.Sp
mutual
theorem Ex.all_true {p : PE} (h : ∀ k nm n m f t, p k nm n m f t) : ∀ (e : Ex), e.all p
  | .mk k nm n args f t => by rw [Ex.all]; exact ⟨h _ _ _ _ _ _, exsAll_true h args⟩
theorem exsAll_true {p : PE} (h : ∀ k nm n m f t, p k nm n m f t) : ∀ (l : List Ex), exsAll p l
  | [] => exsAll_nil
  | e :: l => by rw [exsAll]; exact ⟨Ex.all_true h e, exsAll_true h l⟩
 end
end Go.Sp
namespace Go.Proofs.YtkbiakajlfmakaaDoor
open Go.Fw
set_option maxHeartbeats 16000000 in
theorem f_tags : ∀ (n : Nat) (l : List Sp.Stm), SizeOf.sizeOf l ≤ n → l.length ≤ 64 → Sp.stmsSmall l → ∀ (I : Imm) (ab : Option Addr) (cb : Nat) (xb : List Value), RowI I 122 15 (.slice ab l.length cb) l.length xb → StsAt I l xb →
    CalM Tryd.prog 28 #[.slice ab l.length cb] I [] (fun v _ H' => H' = [] ∧ ∃ b, v = .bool b ∧ (b = false → Sp.stmsAll Sp.anyE Sp.zeroS l)) := by
  intro n
  induction n with
  | zero => intro l h; cases l <;> simp at h
  | succ n ih =>
  intro l hsz hll hsm I ab cb xb hr hx
  refine CalM.of fun w E hm => enter (N := 25) Tryd.func28 rfl [(0, .slice ab l.length cb)] args1 rfl ?_
  repeat' (first
    | (refine m_varS (d := 4) hm (by rfl) (by rfl) (by rfl) (by rfl) (by rfl) ?_; clear hm; intro b4 _ hm)
    | (refine m_var1 (d := 4) hm (by rfl) (by rfl) (by rfl) (by rfl) (by rfl) ?_; clear hm; intro b4 _ hm)
    | refine m_load1 hm (by rfl) (by rfl) (by rfl) (by first | exact gt0 | exact gt1 | exact gt2 | exact gt3 | exact gt4 | exact gt5 | exact gt6) (by rfl) ?_
    | refine i_load1 hm (by rfl) (by rfl) (by rfl) (by assumption) (by rfl) ?_
    | refine m_loadAll hm (by rfl) (by rfl) (by rfl) (by first | exact gt0 | exact gt1 | exact gt2 | exact gt3 | exact gt4 | exact gt5 | exact gt6) (by rfl) ?_
    | refine i_loadN hm (by rfl) (by rfl) (by rfl) (by assumption) (by rfl) ?_
    | refine i_load1z hm (by rfl) (by rfl) (by rfl) (by assumption) (by rfl) ?_
    | (refine m_storeAll hm (by rfl) (by rfl) (by rfl) (by rfl) (by first | exact gt0 | exact gt1 | exact gt2 | exact gt3 | exact gt4 | exact gt5 | exact gt6) (by rfl) (by rfl) (by rfl) ?_; clear hm; intro _ hm; try simp only [setn] at hm)
    | (refine m_store1 hm (by rfl) (by rfl) (by rfl) (by rfl) (by first | exact gt0 | exact gt1 | exact gt2 | exact gt3 | exact gt4 | exact gt5 | exact gt6) (by rfl) (by rfl) (by rfl) ?_; clear hm; intro _ hm; try simp only [setn] at hm)
    | (refine m_storeN hm (by rfl) (by rfl) (by rfl) (by rfl) (by first | exact gt0 | exact gt1 | exact gt2 | exact gt3 | exact gt4 | exact gt5 | exact gt6) (by rfl) (by rfl) (by rfl) ?_; clear hm; intro _ hm; try simp only [setn] at hm)
    | refine m_ret_agg hm (by rfl) (by rfl) (by first | exact gt0 | exact gt1 | exact gt2 | exact gt3 | exact gt4 | exact gt5 | exact gt6) (by rfl) ?_
    | refine m_ret2_agg hm (by rfl) (by rfl) (by rfl) (by first | exact gt0 | exact gt1 | exact gt2 | exact gt3 | exact gt4 | exact gt5 | exact gt6) (by rfl) ?_
    | refine op_move (by rfl) (by rfl) (by rfl) ?_
    | refine op_assign (by rfl) (by rfl) (by rfl) ?_
    | refine op_pick_true (by rfl) (by rfl) (by rfl) (by rfl) ?_
    | refine op_pick_false (by rfl) (by rfl) (by rfl) (by rfl) ?_
    | refine op_lss (by rfl) (by rfl) (by rfl) (by rfl) ?_
    | refine op_neq (by rfl) (by rfl) (by rfl) (by rfl) ?_
    | refine op_neq_str (by rfl) (by rfl) (by rfl) (by rfl) ?_
    | refine op_neq_bool (by rfl) (by rfl) (by rfl) (by rfl) ?_
    | refine op_neq_flat (by rfl) (by rfl) (by rfl) (by rfl) (by rfl) (by rfl) ?_
    | refine op_len_str (by rfl) (by rfl) (by rfl) ?_
    | refine op_len_slice (by rfl) (by rfl) (by rfl) ?_
    | refine op_add (by rfl) (by rfl) (by rfl) (by rfl) (by omega) ?_
    | refine op_add_u8 (by rfl) (by rfl) (by rfl) (by rfl) (by omega) ?_
    | refine op_indexAddr_arr (by rfl) (by rfl) (by rfl) (by rfl) (by omega) (by omega) ?_
    | refine op_fieldAddr (by rfl) (by rfl) (by rfl) ?_
    | refine op_indexAddr (by rfl) (by rfl) (by rfl) (by rfl) (by omega) (by omega) ?_
    | refine op_load1 (by rfl) (by rfl) (by rfl) (by assumption) (by rfl) ?_
    | refine wl_skip (by rfl) (by rfl) (by rfl) ?_
    | (refine wl_split_dec (by rfl) (by rfl) (by rfl) (fun _ => ?_) (fun _ => ?_) <;> (try first | contradiction | (exfalso; omega)))
    | (refine wl_split (by rfl) (by rfl) (by rfl) (fun _ => ?_) (fun _ => ?_) <;> (fail_if_success contradiction))
    | refine wl_nil ?_
    | refine at_then_normal ?_
    | refine at_then_ret ?_
    | refine at_then_exit ?_
    | refine at_block_normal ?_
    | refine at_block_ret ?_
    | refine at_block_exit ?_
    | refine at_block_other (by rfl) ?_
    | refine wc_seq ?_
    | refine wc_region ?_
    | refine wc_block ?_
    | refine wc_skip ?_
    | refine wc_exit ?_
    | refine wc_ret ?_
    | refine at_ret1 (by rfl) (by rfl) ?_
    | refine wc_cond_true (by rfl) ?_
    | refine wc_cond_false (by rfl) ?_
    | (refine wc_cond_dec (by rfl) (fun _ => ?_) (fun _ => ?_) <;> (try first | contradiction | (exfalso; omega)))
    | refine wc_cond (by rfl) (fun _ => ?_) (fun _ => ?_))
  refine wc_loop (fun x : NI => [(5, .slice ab l.length cb), (6, nt l.length), (7, nt x.k)]) (fun x w' => Mem E x.I [] w' ∧ Le I x.I ∧ x.k ≤ l.length ∧ Sp.stmsAll Sp.anyE Sp.zeroS (l.take x.k)) (fun x => l.length - x.k) ⟨0, I⟩
    (by exact ⟨rfl, rfl, rfl, trivial⟩) ⟨hm, Le.refl _, Nat.zero_le _, by dsimp only; rw [List.take_zero]; exact Sp.stmsAll_nil⟩ ?_
  clear hm
  rintro ⟨k, I1⟩ w1 ⟨hm, hle1, hk, hno⟩
  dsimp only at hm hle1 hk hno ⊢
  by_cases hlt : k < l.length
  · have hg : l[k]? = some l[k] := List.getElem?_eq_getElem hlt
    have hme := Sp.sizeL_mem (List.getElem_mem hlt)
    have hs2 := Sp.stmsSmall_get hsm hg
    obtain ⟨ea2, ec2, ex2, a2, c2, xs2, a3, c3, xs3, hc2, hr3, hx3, hr4, hx4, hr5, hx5⟩ := (hx.get hg).out
    have hrow := hr.le hle1
    generalize l[k] = y at hg hme hs2 hc2 hr3 hx3 hr4 hx4 hr5 hx5
    obtain ⟨s1, s2, s3, s4, s5⟩ := Sp.small_parts hs2
    obtain ⟨z1, z2⟩ := Sp.size_thn (s := y)
    have ht := fun (J : Imm) (m : Le I J) => ih y.thn (by omega) s2 s3 J a2 c2 xs2 (hr4.le m) (StsAt.le m _ _ hx4)
    have hl := fun (J : Imm) (m : Le I J) => ih y.els (by omega) s4 s5 J a3 c3 xs3 (hr5.le m) (StsAt.le m _ _ hx5)
    have htk := Sp.take_succ_get hg
    by_cases h0 : y.label = 0
    · skip
      repeat' (first
        | (refine i_indexAddr (d := 9) (by rfl) (by rfl) (by rfl) (by rfl) hrow (by omega) (by omega) ?_; intro bt ot hpt; rw [show ((k : Int).toNat * 15) = k * 15 from rfl, hc2] at hpt)
        | (refine m_call (d := 17) hm (by rfl) (by rfl) (by rfl) (by first | exact pm0 | exact pm1_0 | exact pm1_1 | exact pm1_2 | exact pm1_3 | exact pm2_0 | exact pm2_1 | exact pm2_2 | exact pm2_3 | exact pm2_4 | exact pm3_0 | exact pm3_1 | exact pm3_2) (ht I1 hle1) ?_; clear hm; rintro _ I2 _ _ ⟨rfl, b1, rfl, hb1⟩ hle hm; have hleI2 := hle; try simp only [setn] at hm; cases b1)
        | (refine m_call (d := 22) hm (by rfl) (by rfl) (by rfl) (by first | exact pm0 | exact pm1_0 | exact pm1_1 | exact pm1_2 | exact pm1_3 | exact pm2_0 | exact pm2_1 | exact pm2_2 | exact pm2_3 | exact pm2_4 | exact pm3_0 | exact pm3_1 | exact pm3_2) (hl I2 (hle1.trans hleI2)) ?_; clear hm; rintro _ I3 _ _ ⟨rfl, b2, rfl, hb2⟩ hle hm; have hleI3 := hle; try simp only [setn] at hm; cases b2)
        | (refine m_varS (d := 4) hm (by rfl) (by rfl) (by rfl) (by rfl) (by rfl) ?_; clear hm; intro b4 _ hm)
        | (refine m_var1 (d := 4) hm (by rfl) (by rfl) (by rfl) (by rfl) (by rfl) ?_; clear hm; intro b4 _ hm)
        | refine m_load1 hm (by rfl) (by rfl) (by rfl) (by first | exact gt0 | exact gt1 | exact gt2 | exact gt3 | exact gt4 | exact gt5 | exact gt6) (by rfl) ?_
        | refine i_load1 hm (by rfl) (by rfl) (by rfl) (by assumption) (by rfl) ?_
        | refine m_loadAll hm (by rfl) (by rfl) (by rfl) (by first | exact gt0 | exact gt1 | exact gt2 | exact gt3 | exact gt4 | exact gt5 | exact gt6) (by rfl) ?_
        | refine i_loadN hm (by rfl) (by rfl) (by rfl) (by assumption) (by rfl) ?_
        | refine i_load1z hm (by rfl) (by rfl) (by rfl) (by assumption) (by rfl) ?_
        | (refine m_storeAll hm (by rfl) (by rfl) (by rfl) (by rfl) (by first | exact gt0 | exact gt1 | exact gt2 | exact gt3 | exact gt4 | exact gt5 | exact gt6) (by rfl) (by rfl) (by rfl) ?_; clear hm; intro _ hm; try simp only [setn] at hm)
        | (refine m_store1 hm (by rfl) (by rfl) (by rfl) (by rfl) (by first | exact gt0 | exact gt1 | exact gt2 | exact gt3 | exact gt4 | exact gt5 | exact gt6) (by rfl) (by rfl) (by rfl) ?_; clear hm; intro _ hm; try simp only [setn] at hm)
        | (refine m_storeN hm (by rfl) (by rfl) (by rfl) (by rfl) (by first | exact gt0 | exact gt1 | exact gt2 | exact gt3 | exact gt4 | exact gt5 | exact gt6) (by rfl) (by rfl) (by rfl) ?_; clear hm; intro _ hm; try simp only [setn] at hm)
        | refine m_ret_agg hm (by rfl) (by rfl) (by first | exact gt0 | exact gt1 | exact gt2 | exact gt3 | exact gt4 | exact gt5 | exact gt6) (by rfl) ?_
        | refine m_ret2_agg hm (by rfl) (by rfl) (by rfl) (by first | exact gt0 | exact gt1 | exact gt2 | exact gt3 | exact gt4 | exact gt5 | exact gt6) (by rfl) ?_
        | refine op_move (by rfl) (by rfl) (by rfl) ?_
        | refine op_assign (by rfl) (by rfl) (by rfl) ?_
        | refine op_pick_true (by rfl) (by rfl) (by rfl) (by rfl) ?_
        | refine op_pick_false (by rfl) (by rfl) (by rfl) (by rfl) ?_
        | refine op_lss (by rfl) (by rfl) (by rfl) (by rfl) ?_
        | refine op_neq (by rfl) (by rfl) (by rfl) (by rfl) ?_
        | refine op_neq_str (by rfl) (by rfl) (by rfl) (by rfl) ?_
        | refine op_neq_bool (by rfl) (by rfl) (by rfl) (by rfl) ?_
        | refine op_neq_flat (by rfl) (by rfl) (by rfl) (by rfl) (by rfl) (by rfl) ?_
        | refine op_len_str (by rfl) (by rfl) (by rfl) ?_
        | refine op_len_slice (by rfl) (by rfl) (by rfl) ?_
        | refine op_add (by rfl) (by rfl) (by rfl) (by rfl) (by omega) ?_
        | refine op_add_u8 (by rfl) (by rfl) (by rfl) (by rfl) (by omega) ?_
        | refine op_indexAddr_arr (by rfl) (by rfl) (by rfl) (by rfl) (by omega) (by omega) ?_
        | refine op_fieldAddr (by rfl) (by rfl) (by rfl) ?_
        | refine op_indexAddr (by rfl) (by rfl) (by rfl) (by rfl) (by omega) (by omega) ?_
        | refine op_load1 (by rfl) (by rfl) (by rfl) (by assumption) (by rfl) ?_
        | refine wl_skip (by rfl) (by rfl) (by rfl) ?_
        | (refine wl_split_dec (by rfl) (by rfl) (by rfl) (fun _ => ?_) (fun _ => ?_) <;> (try first | contradiction | (exfalso; omega)))
        | (refine wl_split (by rfl) (by rfl) (by rfl) (fun _ => ?_) (fun _ => ?_) <;> (fail_if_success contradiction))
        | refine wl_nil ?_
        | refine at_then_normal ?_
        | refine at_then_ret ?_
        | refine at_then_exit ?_
        | refine at_block_normal ?_
        | refine at_block_ret ?_
        | refine at_block_exit ?_
        | refine at_block_other (by rfl) ?_
        | refine wc_seq ?_
        | refine wc_region ?_
        | refine wc_block ?_
        | refine wc_skip ?_
        | refine wc_exit ?_
        | refine wc_ret ?_
        | refine at_ret1 (by rfl) (by rfl) ?_
        | refine wc_cond_true (by rfl) ?_
        | refine wc_cond_false (by rfl) ?_
        | (refine wc_cond_dec (by rfl) (fun _ => ?_) (fun _ => ?_) <;> (try first | contradiction | (exfalso; omega)))
        | refine wc_cond (by rfl) (fun _ => ?_) (fun _ => ?_))
      all_goals try (exfalso; omega)
      all_goals first
        | (refine at_round (⟨k + 1, I3⟩ : NI) (by exact ⟨rfl, rfl, rfl, trivial⟩) ⟨hm.tl, (hle1.trans hleI2).trans hleI3, by dsimp only; omega, ?_⟩ (by dsimp only; omega)
           dsimp only
           rw [htk]
           refine Sp.stmsAll_app hno (Sp.stmsAll_one ?_)
           cases y with
           | mk kk nm aa lb oo ee thn els f t =>
           rw [Sp.Stm.all]
           exact ⟨h0, Sp.Ex.all_true (fun _ _ _ _ _ _ => trivial) _, hb1 rfl, hb2 rfl⟩)
        | exact ⟨I3, [], ⟨rfl, true, rfl, fun h => (by cases h)⟩, hm.left (H := [])⟩
        | exact ⟨I2, [], ⟨rfl, true, rfl, fun h => (by cases h)⟩, hm.left (H := [])⟩
    · skip
      repeat' (first
        | (refine i_indexAddr (d := 9) (by rfl) (by rfl) (by rfl) (by rfl) hrow (by omega) (by omega) ?_; intro bt ot hpt; rw [show ((k : Int).toNat * 15) = k * 15 from rfl, hc2] at hpt)
        | (refine m_varS (d := 4) hm (by rfl) (by rfl) (by rfl) (by rfl) (by rfl) ?_; clear hm; intro b4 _ hm)
        | (refine m_var1 (d := 4) hm (by rfl) (by rfl) (by rfl) (by rfl) (by rfl) ?_; clear hm; intro b4 _ hm)
        | refine m_load1 hm (by rfl) (by rfl) (by rfl) (by first | exact gt0 | exact gt1 | exact gt2 | exact gt3 | exact gt4 | exact gt5 | exact gt6) (by rfl) ?_
        | refine i_load1 hm (by rfl) (by rfl) (by rfl) (by assumption) (by rfl) ?_
        | refine m_loadAll hm (by rfl) (by rfl) (by rfl) (by first | exact gt0 | exact gt1 | exact gt2 | exact gt3 | exact gt4 | exact gt5 | exact gt6) (by rfl) ?_
        | refine i_loadN hm (by rfl) (by rfl) (by rfl) (by assumption) (by rfl) ?_
        | refine i_load1z hm (by rfl) (by rfl) (by rfl) (by assumption) (by rfl) ?_
        | (refine m_storeAll hm (by rfl) (by rfl) (by rfl) (by rfl) (by first | exact gt0 | exact gt1 | exact gt2 | exact gt3 | exact gt4 | exact gt5 | exact gt6) (by rfl) (by rfl) (by rfl) ?_; clear hm; intro _ hm; try simp only [setn] at hm)
        | (refine m_store1 hm (by rfl) (by rfl) (by rfl) (by rfl) (by first | exact gt0 | exact gt1 | exact gt2 | exact gt3 | exact gt4 | exact gt5 | exact gt6) (by rfl) (by rfl) (by rfl) ?_; clear hm; intro _ hm; try simp only [setn] at hm)
        | (refine m_storeN hm (by rfl) (by rfl) (by rfl) (by rfl) (by first | exact gt0 | exact gt1 | exact gt2 | exact gt3 | exact gt4 | exact gt5 | exact gt6) (by rfl) (by rfl) (by rfl) ?_; clear hm; intro _ hm; try simp only [setn] at hm)
        | refine m_ret_agg hm (by rfl) (by rfl) (by first | exact gt0 | exact gt1 | exact gt2 | exact gt3 | exact gt4 | exact gt5 | exact gt6) (by rfl) ?_
        | refine m_ret2_agg hm (by rfl) (by rfl) (by rfl) (by first | exact gt0 | exact gt1 | exact gt2 | exact gt3 | exact gt4 | exact gt5 | exact gt6) (by rfl) ?_
        | refine op_move (by rfl) (by rfl) (by rfl) ?_
        | refine op_assign (by rfl) (by rfl) (by rfl) ?_
        | refine op_pick_true (by rfl) (by rfl) (by rfl) (by rfl) ?_
        | refine op_pick_false (by rfl) (by rfl) (by rfl) (by rfl) ?_
        | refine op_lss (by rfl) (by rfl) (by rfl) (by rfl) ?_
        | refine op_neq (by rfl) (by rfl) (by rfl) (by rfl) ?_
        | refine op_neq_str (by rfl) (by rfl) (by rfl) (by rfl) ?_
        | refine op_neq_bool (by rfl) (by rfl) (by rfl) (by rfl) ?_
        | refine op_neq_flat (by rfl) (by rfl) (by rfl) (by rfl) (by rfl) (by rfl) ?_
        | refine op_len_str (by rfl) (by rfl) (by rfl) ?_
        | refine op_len_slice (by rfl) (by rfl) (by rfl) ?_
        | refine op_add (by rfl) (by rfl) (by rfl) (by rfl) (by omega) ?_
        | refine op_add_u8 (by rfl) (by rfl) (by rfl) (by rfl) (by omega) ?_
        | refine op_indexAddr_arr (by rfl) (by rfl) (by rfl) (by rfl) (by omega) (by omega) ?_
        | refine op_fieldAddr (by rfl) (by rfl) (by rfl) ?_
        | refine op_indexAddr (by rfl) (by rfl) (by rfl) (by rfl) (by omega) (by omega) ?_
        | refine op_load1 (by rfl) (by rfl) (by rfl) (by assumption) (by rfl) ?_
        | refine wl_skip (by rfl) (by rfl) (by rfl) ?_
        | (refine wl_split_dec (by rfl) (by rfl) (by rfl) (fun _ => ?_) (fun _ => ?_) <;> (try first | contradiction | (exfalso; omega)))
        | (refine wl_split (by rfl) (by rfl) (by rfl) (fun _ => ?_) (fun _ => ?_) <;> (fail_if_success contradiction))
        | refine wl_nil ?_
        | refine at_then_normal ?_
        | refine at_then_ret ?_
        | refine at_then_exit ?_
        | refine at_block_normal ?_
        | refine at_block_ret ?_
        | refine at_block_exit ?_
        | refine at_block_other (by rfl) ?_
        | refine wc_seq ?_
        | refine wc_region ?_
        | refine wc_block ?_
        | refine wc_skip ?_
        | refine wc_exit ?_
        | refine wc_ret ?_
        | refine at_ret1 (by rfl) (by rfl) ?_
        | refine wc_cond_true (by rfl) ?_
        | refine wc_cond_false (by rfl) ?_
        | (refine wc_cond_dec (by rfl) (fun _ => ?_) (fun _ => ?_) <;> (try first | contradiction | (exfalso; omega)))
        | refine wc_cond (by rfl) (fun _ => ?_) (fun _ => ?_))
      all_goals try (exfalso; omega)
      exact ⟨I1, [], ⟨rfl, true, rfl, fun h => (by cases h)⟩, hm.left (H := [])⟩
  · obtain rfl : k = l.length := by omega
    rw [List.take_length] at hno
    repeat' (first
      | (refine m_varS (d := 4) hm (by rfl) (by rfl) (by rfl) (by rfl) (by rfl) ?_; clear hm; intro b4 _ hm)
      | (refine m_var1 (d := 4) hm (by rfl) (by rfl) (by rfl) (by rfl) (by rfl) ?_; clear hm; intro b4 _ hm)
      | refine m_load1 hm (by rfl) (by rfl) (by rfl) (by first | exact gt0 | exact gt1 | exact gt2 | exact gt3 | exact gt4 | exact gt5 | exact gt6) (by rfl) ?_
      | refine i_load1 hm (by rfl) (by rfl) (by rfl) (by assumption) (by rfl) ?_
      | refine m_loadAll hm (by rfl) (by rfl) (by rfl) (by first | exact gt0 | exact gt1 | exact gt2 | exact gt3 | exact gt4 | exact gt5 | exact gt6) (by rfl) ?_
      | refine i_loadN hm (by rfl) (by rfl) (by rfl) (by assumption) (by rfl) ?_
      | refine i_load1z hm (by rfl) (by rfl) (by rfl) (by assumption) (by rfl) ?_
      | (refine m_storeAll hm (by rfl) (by rfl) (by rfl) (by rfl) (by first | exact gt0 | exact gt1 | exact gt2 | exact gt3 | exact gt4 | exact gt5 | exact gt6) (by rfl) (by rfl) (by rfl) ?_; clear hm; intro _ hm; try simp only [setn] at hm)
      | (refine m_store1 hm (by rfl) (by rfl) (by rfl) (by rfl) (by first | exact gt0 | exact gt1 | exact gt2 | exact gt3 | exact gt4 | exact gt5 | exact gt6) (by rfl) (by rfl) (by rfl) ?_; clear hm; intro _ hm; try simp only [setn] at hm)
      | (refine m_storeN hm (by rfl) (by rfl) (by rfl) (by rfl) (by first | exact gt0 | exact gt1 | exact gt2 | exact gt3 | exact gt4 | exact gt5 | exact gt6) (by rfl) (by rfl) (by rfl) ?_; clear hm; intro _ hm; try simp only [setn] at hm)
      | refine m_ret_agg hm (by rfl) (by rfl) (by first | exact gt0 | exact gt1 | exact gt2 | exact gt3 | exact gt4 | exact gt5 | exact gt6) (by rfl) ?_
      | refine m_ret2_agg hm (by rfl) (by rfl) (by rfl) (by first | exact gt0 | exact gt1 | exact gt2 | exact gt3 | exact gt4 | exact gt5 | exact gt6) (by rfl) ?_
      | refine op_move (by rfl) (by rfl) (by rfl) ?_
      | refine op_assign (by rfl) (by rfl) (by rfl) ?_
      | refine op_pick_true (by rfl) (by rfl) (by rfl) (by rfl) ?_
      | refine op_pick_false (by rfl) (by rfl) (by rfl) (by rfl) ?_
      | refine op_lss (by rfl) (by rfl) (by rfl) (by rfl) ?_
      | refine op_neq (by rfl) (by rfl) (by rfl) (by rfl) ?_
      | refine op_neq_str (by rfl) (by rfl) (by rfl) (by rfl) ?_
      | refine op_neq_bool (by rfl) (by rfl) (by rfl) (by rfl) ?_
      | refine op_neq_flat (by rfl) (by rfl) (by rfl) (by rfl) (by rfl) (by rfl) ?_
      | refine op_len_str (by rfl) (by rfl) (by rfl) ?_
      | refine op_len_slice (by rfl) (by rfl) (by rfl) ?_
      | refine op_add (by rfl) (by rfl) (by rfl) (by rfl) (by omega) ?_
      | refine op_add_u8 (by rfl) (by rfl) (by rfl) (by rfl) (by omega) ?_
      | refine op_indexAddr_arr (by rfl) (by rfl) (by rfl) (by rfl) (by omega) (by omega) ?_
      | refine op_fieldAddr (by rfl) (by rfl) (by rfl) ?_
      | refine op_indexAddr (by rfl) (by rfl) (by rfl) (by rfl) (by omega) (by omega) ?_
      | refine op_load1 (by rfl) (by rfl) (by rfl) (by assumption) (by rfl) ?_
      | refine wl_skip (by rfl) (by rfl) (by rfl) ?_
      | (refine wl_split_dec (by rfl) (by rfl) (by rfl) (fun _ => ?_) (fun _ => ?_) <;> (try first | contradiction | (exfalso; omega)))
      | (refine wl_split (by rfl) (by rfl) (by rfl) (fun _ => ?_) (fun _ => ?_) <;> (fail_if_success contradiction))
      | refine wl_nil ?_
      | refine at_then_normal ?_
      | refine at_then_ret ?_
      | refine at_then_exit ?_
      | refine at_block_normal ?_
      | refine at_block_ret ?_
      | refine at_block_exit ?_
      | refine at_block_other (by rfl) ?_
      | refine wc_seq ?_
      | refine wc_region ?_
      | refine wc_block ?_
      | refine wc_skip ?_
      | refine wc_exit ?_
      | refine wc_ret ?_
      | refine at_ret1 (by rfl) (by rfl) ?_
      | refine wc_cond_true (by rfl) ?_
      | refine wc_cond_false (by rfl) ?_
      | (refine wc_cond_dec (by rfl) (fun _ => ?_) (fun _ => ?_) <;> (try first | contradiction | (exfalso; omega)))
      | refine wc_cond (by rfl) (fun _ => ?_) (fun _ => ?_))
    all_goals try (exfalso; omega)
    exact ⟨I1, [], ⟨rfl, false, rfl, fun _ => hno⟩, hm.left (H := [])⟩
set_option maxHeartbeats 16000000 in
theorem sp_fnone (s : List UInt8) (hs : s.length ≤ 1048576) (I : Imm) (hC : Conv I) : CalM Tryd.prog 9 #[str s] I [] (fun v _ H' => v = .bool true ∧ H' = []) := by
  refine CalM.of fun w E hm => enter (N := 47) Tryd.func9 rfl [(0, str s)] args1 rfl ?_
  have hA := fun (I' : Imm) (m : Le I I') => f_alive I' (hC.le m)
  have hF := fun (I' : Imm) (m : Le I I') => p_file s I' (hC.le m) (by omega)
  obtain ⟨g1, g2⟩ := Sp.file_itF s
  have hfew := Sp.file_few s
  generalize Sp.fileErr s = er at hF
  generalize Sp.fileItems s = its at hF g1 g2 hfew
  by_cases h0 : er ≠ 0
  · skip
    repeat' (first
      | (refine m_call (d := 9) hm (by rfl) (by rfl) (by rfl) (by first | exact pm0 | exact pm1_0 | exact pm1_1 | exact pm1_2 | exact pm1_3 | exact pm2_0 | exact pm2_1 | exact pm2_2 | exact pm2_3 | exact pm2_4 | exact pm3_0 | exact pm3_1 | exact pm3_2) (hA _ (Le.refl _)) ?_; clear hm; rintro _ I2 _ _ ⟨rfl, rfl⟩ hle hm; have hleI2 := hle; try simp only [setn] at hm)
      | (refine m_call (d := 13) hm (by rfl) (by rfl) (by rfl) (by first | exact pm0 | exact pm1_0 | exact pm1_1 | exact pm1_2 | exact pm1_3 | exact pm2_0 | exact pm2_1 | exact pm2_2 | exact pm2_3 | exact pm2_4 | exact pm3_0 | exact pm3_1 | exact pm3_2) (hF _ hleI2) ?_; clear hm; rintro _ I3 _ _ ⟨a, cp, xs, rfl, hrow, hits, rfl⟩ hle hm; have hleI3 := hle; try simp only [setn] at hm)
      | (refine m_varS (d := 3) hm (by rfl) (by rfl) (by rfl) (by rfl) (by rfl) ?_; clear hm; intro b3 _ hm)
      | (refine m_var1 (d := 3) hm (by rfl) (by rfl) (by rfl) (by rfl) (by rfl) ?_; clear hm; intro b3 _ hm)
      | (refine m_varS (d := 6) hm (by rfl) (by rfl) (by rfl) (by rfl) (by rfl) ?_; clear hm; intro b6 _ hm)
      | (refine m_var1 (d := 6) hm (by rfl) (by rfl) (by rfl) (by rfl) (by rfl) ?_; clear hm; intro b6 _ hm)
      | (refine m_varS (d := 8) hm (by rfl) (by rfl) (by rfl) (by rfl) (by rfl) ?_; clear hm; intro b8 _ hm)
      | (refine m_var1 (d := 8) hm (by rfl) (by rfl) (by rfl) (by rfl) (by rfl) ?_; clear hm; intro b8 _ hm)
      | refine m_load1 hm (by rfl) (by rfl) (by rfl) (by first | exact gt0 | exact gt1 | exact gt2 | exact gt3 | exact gt4 | exact gt5 | exact gt6) (by rfl) ?_
      | refine i_load1 hm (by rfl) (by rfl) (by rfl) (by assumption) (by rfl) ?_
      | refine m_loadAll hm (by rfl) (by rfl) (by rfl) (by first | exact gt0 | exact gt1 | exact gt2 | exact gt3 | exact gt4 | exact gt5 | exact gt6) (by rfl) ?_
      | refine i_loadN hm (by rfl) (by rfl) (by rfl) (by assumption) (by rfl) ?_
      | refine i_load1z hm (by rfl) (by rfl) (by rfl) (by assumption) (by rfl) ?_
      | (refine m_storeAll hm (by rfl) (by rfl) (by rfl) (by rfl) (by first | exact gt0 | exact gt1 | exact gt2 | exact gt3 | exact gt4 | exact gt5 | exact gt6) (by rfl) (by rfl) (by rfl) ?_; clear hm; intro _ hm; try simp only [setn] at hm)
      | (refine m_store1 hm (by rfl) (by rfl) (by rfl) (by rfl) (by first | exact gt0 | exact gt1 | exact gt2 | exact gt3 | exact gt4 | exact gt5 | exact gt6) (by rfl) (by rfl) (by rfl) ?_; clear hm; intro _ hm; try simp only [setn] at hm)
      | (refine m_storeN hm (by rfl) (by rfl) (by rfl) (by rfl) (by first | exact gt0 | exact gt1 | exact gt2 | exact gt3 | exact gt4 | exact gt5 | exact gt6) (by rfl) (by rfl) (by rfl) ?_; clear hm; intro _ hm; try simp only [setn] at hm)
      | refine m_ret_agg hm (by rfl) (by rfl) (by first | exact gt0 | exact gt1 | exact gt2 | exact gt3 | exact gt4 | exact gt5 | exact gt6) (by rfl) ?_
      | refine m_ret2_agg hm (by rfl) (by rfl) (by rfl) (by first | exact gt0 | exact gt1 | exact gt2 | exact gt3 | exact gt4 | exact gt5 | exact gt6) (by rfl) ?_
      | refine op_move (by rfl) (by rfl) (by rfl) ?_
      | refine op_assign (by rfl) (by rfl) (by rfl) ?_
      | refine op_pick_true (by rfl) (by rfl) (by rfl) (by rfl) ?_
      | refine op_pick_false (by rfl) (by rfl) (by rfl) (by rfl) ?_
      | refine op_lss (by rfl) (by rfl) (by rfl) (by rfl) ?_
      | refine op_neq (by rfl) (by rfl) (by rfl) (by rfl) ?_
      | refine op_neq_str (by rfl) (by rfl) (by rfl) (by rfl) ?_
      | refine op_neq_bool (by rfl) (by rfl) (by rfl) (by rfl) ?_
      | refine op_neq_flat (by rfl) (by rfl) (by rfl) (by rfl) (by rfl) (by rfl) ?_
      | refine op_len_str (by rfl) (by rfl) (by rfl) ?_
      | refine op_len_slice (by rfl) (by rfl) (by rfl) ?_
      | refine op_not (by rfl) (by rfl) (by rfl) ?_
      | refine op_extract (by rfl) (by rfl) (by rfl) (by rfl) ?_
      | refine op_add (by rfl) (by rfl) (by rfl) (by rfl) (by omega) ?_
      | refine op_add_u8 (by rfl) (by rfl) (by rfl) (by rfl) (by omega) ?_
      | refine op_indexAddr_arr (by rfl) (by rfl) (by rfl) (by rfl) (by omega) (by omega) ?_
      | refine op_fieldAddr (by rfl) (by rfl) (by rfl) ?_
      | refine op_indexAddr (by rfl) (by rfl) (by rfl) (by rfl) (by omega) (by omega) ?_
      | refine op_load1 (by rfl) (by rfl) (by rfl) (by assumption) (by rfl) ?_
      | refine wl_skip (by rfl) (by rfl) (by rfl) ?_
      | (refine wl_split_dec (by rfl) (by rfl) (by rfl) (fun _ => ?_) (fun _ => ?_) <;> (try first | contradiction | (exfalso; omega)))
      | (refine wl_split (by rfl) (by rfl) (by rfl) (fun _ => ?_) (fun _ => ?_) <;> (fail_if_success contradiction))
      | refine wl_nil ?_
      | refine at_then_normal ?_
      | refine at_then_ret ?_
      | refine at_then_exit ?_
      | refine at_block_normal ?_
      | refine at_block_ret ?_
      | refine at_block_exit ?_
      | refine at_block_other (by rfl) ?_
      | refine wc_seq ?_
      | refine wc_region ?_
      | refine wc_block ?_
      | refine wc_skip ?_
      | refine wc_exit ?_
      | refine wc_ret ?_
      | refine at_ret1 (by rfl) (by rfl) ?_
      | refine wc_cond_true (by rfl) ?_
      | refine wc_cond_false (by rfl) ?_
      | (refine wc_cond_dec (by rfl) (fun _ => ?_) (fun _ => ?_) <;> (try first | contradiction | (exfalso; omega)))
      | refine wc_cond (by rfl) (fun _ => ?_) (fun _ => ?_))
    all_goals try (exfalso; omega)
    exact ⟨I3, [], ⟨rfl, rfl⟩, hm.left (H := [])⟩
  obtain rfl : er = 0 := by omega
  repeat' (first
    | (refine m_call (d := 9) hm (by rfl) (by rfl) (by rfl) (by first | exact pm0 | exact pm1_0 | exact pm1_1 | exact pm1_2 | exact pm1_3 | exact pm2_0 | exact pm2_1 | exact pm2_2 | exact pm2_3 | exact pm2_4 | exact pm3_0 | exact pm3_1 | exact pm3_2) (hA _ (Le.refl _)) ?_; clear hm; rintro _ I2 _ _ ⟨rfl, rfl⟩ hle hm; have hleI2 := hle; try simp only [setn] at hm)
    | (refine m_call (d := 13) hm (by rfl) (by rfl) (by rfl) (by first | exact pm0 | exact pm1_0 | exact pm1_1 | exact pm1_2 | exact pm1_3 | exact pm2_0 | exact pm2_1 | exact pm2_2 | exact pm2_3 | exact pm2_4 | exact pm3_0 | exact pm3_1 | exact pm3_2) (hF _ hleI2) ?_; clear hm; rintro _ I3 _ _ ⟨a, cp, xs, rfl, hrow, hits, rfl⟩ hle hm; have hleI3 := hle; try simp only [setn] at hm)
    | (refine m_varS (d := 3) hm (by rfl) (by rfl) (by rfl) (by rfl) (by rfl) ?_; clear hm; intro b3 _ hm)
    | (refine m_var1 (d := 3) hm (by rfl) (by rfl) (by rfl) (by rfl) (by rfl) ?_; clear hm; intro b3 _ hm)
    | (refine m_varS (d := 6) hm (by rfl) (by rfl) (by rfl) (by rfl) (by rfl) ?_; clear hm; intro b6 _ hm)
    | (refine m_var1 (d := 6) hm (by rfl) (by rfl) (by rfl) (by rfl) (by rfl) ?_; clear hm; intro b6 _ hm)
    | (refine m_varS (d := 8) hm (by rfl) (by rfl) (by rfl) (by rfl) (by rfl) ?_; clear hm; intro b8 _ hm)
    | (refine m_var1 (d := 8) hm (by rfl) (by rfl) (by rfl) (by rfl) (by rfl) ?_; clear hm; intro b8 _ hm)
    | refine m_load1 hm (by rfl) (by rfl) (by rfl) (by first | exact gt0 | exact gt1 | exact gt2 | exact gt3 | exact gt4 | exact gt5 | exact gt6) (by rfl) ?_
    | refine i_load1 hm (by rfl) (by rfl) (by rfl) (by assumption) (by rfl) ?_
    | refine m_loadAll hm (by rfl) (by rfl) (by rfl) (by first | exact gt0 | exact gt1 | exact gt2 | exact gt3 | exact gt4 | exact gt5 | exact gt6) (by rfl) ?_
    | refine i_loadN hm (by rfl) (by rfl) (by rfl) (by assumption) (by rfl) ?_
    | refine i_load1z hm (by rfl) (by rfl) (by rfl) (by assumption) (by rfl) ?_
    | (refine m_storeAll hm (by rfl) (by rfl) (by rfl) (by rfl) (by first | exact gt0 | exact gt1 | exact gt2 | exact gt3 | exact gt4 | exact gt5 | exact gt6) (by rfl) (by rfl) (by rfl) ?_; clear hm; intro _ hm; try simp only [setn] at hm)
    | (refine m_store1 hm (by rfl) (by rfl) (by rfl) (by rfl) (by first | exact gt0 | exact gt1 | exact gt2 | exact gt3 | exact gt4 | exact gt5 | exact gt6) (by rfl) (by rfl) (by rfl) ?_; clear hm; intro _ hm; try simp only [setn] at hm)
    | (refine m_storeN hm (by rfl) (by rfl) (by rfl) (by rfl) (by first | exact gt0 | exact gt1 | exact gt2 | exact gt3 | exact gt4 | exact gt5 | exact gt6) (by rfl) (by rfl) (by rfl) ?_; clear hm; intro _ hm; try simp only [setn] at hm)
    | refine m_ret_agg hm (by rfl) (by rfl) (by first | exact gt0 | exact gt1 | exact gt2 | exact gt3 | exact gt4 | exact gt5 | exact gt6) (by rfl) ?_
    | refine m_ret2_agg hm (by rfl) (by rfl) (by rfl) (by first | exact gt0 | exact gt1 | exact gt2 | exact gt3 | exact gt4 | exact gt5 | exact gt6) (by rfl) ?_
    | refine op_move (by rfl) (by rfl) (by rfl) ?_
    | refine op_assign (by rfl) (by rfl) (by rfl) ?_
    | refine op_pick_true (by rfl) (by rfl) (by rfl) (by rfl) ?_
    | refine op_pick_false (by rfl) (by rfl) (by rfl) (by rfl) ?_
    | refine op_lss (by rfl) (by rfl) (by rfl) (by rfl) ?_
    | refine op_neq (by rfl) (by rfl) (by rfl) (by rfl) ?_
    | refine op_neq_str (by rfl) (by rfl) (by rfl) (by rfl) ?_
    | refine op_neq_bool (by rfl) (by rfl) (by rfl) (by rfl) ?_
    | refine op_neq_flat (by rfl) (by rfl) (by rfl) (by rfl) (by rfl) (by rfl) ?_
    | refine op_len_str (by rfl) (by rfl) (by rfl) ?_
    | refine op_len_slice (by rfl) (by rfl) (by rfl) ?_
    | refine op_not (by rfl) (by rfl) (by rfl) ?_
    | refine op_extract (by rfl) (by rfl) (by rfl) (by rfl) ?_
    | refine op_add (by rfl) (by rfl) (by rfl) (by rfl) (by omega) ?_
    | refine op_add_u8 (by rfl) (by rfl) (by rfl) (by rfl) (by omega) ?_
    | refine op_indexAddr_arr (by rfl) (by rfl) (by rfl) (by rfl) (by omega) (by omega) ?_
    | refine op_fieldAddr (by rfl) (by rfl) (by rfl) ?_
    | refine op_indexAddr (by rfl) (by rfl) (by rfl) (by rfl) (by omega) (by omega) ?_
    | refine op_load1 (by rfl) (by rfl) (by rfl) (by assumption) (by rfl) ?_
    | refine wl_skip (by rfl) (by rfl) (by rfl) ?_
    | (refine wl_split_dec (by rfl) (by rfl) (by rfl) (fun _ => ?_) (fun _ => ?_) <;> (try first | contradiction | (exfalso; omega)))
    | (refine wl_split (by rfl) (by rfl) (by rfl) (fun _ => ?_) (fun _ => ?_) <;> (fail_if_success contradiction))
    | refine wl_nil ?_
    | refine at_then_normal ?_
    | refine at_then_ret ?_
    | refine at_then_exit ?_
    | refine at_block_normal ?_
    | refine at_block_ret ?_
    | refine at_block_exit ?_
    | refine at_block_other (by rfl) ?_
    | refine wc_seq ?_
    | refine wc_region ?_
    | refine wc_block ?_
    | refine wc_skip ?_
    | refine wc_exit ?_
    | refine wc_ret ?_
    | refine at_ret1 (by rfl) (by rfl) ?_
    | refine wc_cond_true (by rfl) ?_
    | refine wc_cond_false (by rfl) ?_
    | (refine wc_cond_dec (by rfl) (fun _ => ?_) (fun _ => ?_) <;> (try first | contradiction | (exfalso; omega)))
    | refine wc_cond (by rfl) (fun _ => ?_) (fun _ => ?_))
  all_goals try (exfalso; omega)
  have hfe := fe_of hrow hits (by omega)
  refine wc_loop (fun x : NI => [(0, str s), (3, ptr b3), (19, .slice a its.length cp), (20, nt its.length), (21, nt x.k)])
    (fun x w' => Mem E x.I [.cell b3 [.slice a its.length cp] 24] w' ∧ Le I3 x.I ∧ x.k ≤ its.length ∧ Sp.itZero (its.take x.k)) (fun x => its.length - x.k) ⟨0, I3⟩
    (by exact ⟨rfl, rfl, rfl, rfl, rfl, trivial⟩) ⟨hm, Le.refl _, Nat.zero_le _, by intro it hi; simp at hi⟩ ?_
  clear hm
  rintro ⟨k, I4⟩ w1 ⟨hm, hle4, hk, hno⟩
  dsimp only at hm hle4 hk hno ⊢
  by_cases hlt : k < its.length
  · have hg : its[k]? = some its[k] := List.getElem?_eq_getElem hlt
    have hsk := (g1 _ (List.getElem_mem hlt)).small
    obtain ⟨ci, hci, hat, hlc⟩ := (hfe.le hle4).get hg
    have hri := (hfe.le hle4).row
    have htk := Sp.take_succ_get hg
    generalize its[k] = it at hg hsk hat htk
    obtain ⟨pa, pc, sa9, sc9, ba, bc9, da9, dc9, xb, rfl, hpar, _, hrb, hbs, _⟩ := hat
    have hsb := hsk.body
    have hsp := hsk.params
    have ht := fun (J : Imm) (m : Le I4 J) => f_tags _ it.body (Nat.le_refl _) (by omega) hsk.stms J ba bc9 xb (hrb.le m) (StsAt.le m _ _ hbs)
    by_cases hl0 : it.label = 0
    case neg =>
      repeat' (first
        | (refine i_indexAddr (d := 23) (by rfl) (by rfl) (by rfl) (by rfl) hri (by omega) (by omega) ?_; intro bt ot hpt; rw [show ((k : Int).toNat * 10) = k * 10 from rfl, hci] at hpt)
        | (refine m_varS (d := 3) hm (by rfl) (by rfl) (by rfl) (by rfl) (by rfl) ?_; clear hm; intro b3 _ hm)
        | (refine m_var1 (d := 3) hm (by rfl) (by rfl) (by rfl) (by rfl) (by rfl) ?_; clear hm; intro b3 _ hm)
        | (refine m_varS (d := 6) hm (by rfl) (by rfl) (by rfl) (by rfl) (by rfl) ?_; clear hm; intro b6 _ hm)
        | (refine m_var1 (d := 6) hm (by rfl) (by rfl) (by rfl) (by rfl) (by rfl) ?_; clear hm; intro b6 _ hm)
        | (refine m_varS (d := 8) hm (by rfl) (by rfl) (by rfl) (by rfl) (by rfl) ?_; clear hm; intro b8 _ hm)
        | (refine m_var1 (d := 8) hm (by rfl) (by rfl) (by rfl) (by rfl) (by rfl) ?_; clear hm; intro b8 _ hm)
        | refine m_load1 hm (by rfl) (by rfl) (by rfl) (by first | exact gt0 | exact gt1 | exact gt2 | exact gt3 | exact gt4 | exact gt5 | exact gt6) (by rfl) ?_
        | refine i_load1 hm (by rfl) (by rfl) (by rfl) (by assumption) (by rfl) ?_
        | refine m_loadAll hm (by rfl) (by rfl) (by rfl) (by first | exact gt0 | exact gt1 | exact gt2 | exact gt3 | exact gt4 | exact gt5 | exact gt6) (by rfl) ?_
        | refine i_loadN hm (by rfl) (by rfl) (by rfl) (by assumption) (by rfl) ?_
        | refine i_load1z hm (by rfl) (by rfl) (by rfl) (by assumption) (by rfl) ?_
        | (refine m_storeAll hm (by rfl) (by rfl) (by rfl) (by rfl) (by first | exact gt0 | exact gt1 | exact gt2 | exact gt3 | exact gt4 | exact gt5 | exact gt6) (by rfl) (by rfl) (by rfl) ?_; clear hm; intro _ hm; try simp only [setn] at hm)
        | (refine m_store1 hm (by rfl) (by rfl) (by rfl) (by rfl) (by first | exact gt0 | exact gt1 | exact gt2 | exact gt3 | exact gt4 | exact gt5 | exact gt6) (by rfl) (by rfl) (by rfl) ?_; clear hm; intro _ hm; try simp only [setn] at hm)
        | (refine m_storeN hm (by rfl) (by rfl) (by rfl) (by rfl) (by first | exact gt0 | exact gt1 | exact gt2 | exact gt3 | exact gt4 | exact gt5 | exact gt6) (by rfl) (by rfl) (by rfl) ?_; clear hm; intro _ hm; try simp only [setn] at hm)
        | refine m_ret_agg hm (by rfl) (by rfl) (by first | exact gt0 | exact gt1 | exact gt2 | exact gt3 | exact gt4 | exact gt5 | exact gt6) (by rfl) ?_
        | refine m_ret2_agg hm (by rfl) (by rfl) (by rfl) (by first | exact gt0 | exact gt1 | exact gt2 | exact gt3 | exact gt4 | exact gt5 | exact gt6) (by rfl) ?_
        | refine op_move (by rfl) (by rfl) (by rfl) ?_
        | refine op_assign (by rfl) (by rfl) (by rfl) ?_
        | refine op_pick_true (by rfl) (by rfl) (by rfl) (by rfl) ?_
        | refine op_pick_false (by rfl) (by rfl) (by rfl) (by rfl) ?_
        | refine op_lss (by rfl) (by rfl) (by rfl) (by rfl) ?_
        | refine op_neq (by rfl) (by rfl) (by rfl) (by rfl) ?_
        | refine op_neq_str (by rfl) (by rfl) (by rfl) (by rfl) ?_
        | refine op_neq_bool (by rfl) (by rfl) (by rfl) (by rfl) ?_
        | refine op_neq_flat (by rfl) (by rfl) (by rfl) (by rfl) (by rfl) (by rfl) ?_
        | refine op_len_str (by rfl) (by rfl) (by rfl) ?_
        | refine op_len_slice (by rfl) (by rfl) (by rfl) ?_
        | refine op_not (by rfl) (by rfl) (by rfl) ?_
        | refine op_extract (by rfl) (by rfl) (by rfl) (by rfl) ?_
        | refine op_add (by rfl) (by rfl) (by rfl) (by rfl) (by omega) ?_
        | refine op_add_u8 (by rfl) (by rfl) (by rfl) (by rfl) (by omega) ?_
        | refine op_indexAddr_arr (by rfl) (by rfl) (by rfl) (by rfl) (by omega) (by omega) ?_
        | refine op_fieldAddr (by rfl) (by rfl) (by rfl) ?_
        | refine op_indexAddr (by rfl) (by rfl) (by rfl) (by rfl) (by omega) (by omega) ?_
        | refine op_load1 (by rfl) (by rfl) (by rfl) (by assumption) (by rfl) ?_
        | refine wl_skip (by rfl) (by rfl) (by rfl) ?_
        | (refine wl_split_dec (by rfl) (by rfl) (by rfl) (fun _ => ?_) (fun _ => ?_) <;> (try first | contradiction | (exfalso; omega)))
        | (refine wl_split (by rfl) (by rfl) (by rfl) (fun _ => ?_) (fun _ => ?_) <;> (fail_if_success contradiction))
        | refine wl_nil ?_
        | refine at_then_normal ?_
        | refine at_then_ret ?_
        | refine at_then_exit ?_
        | refine at_block_normal ?_
        | refine at_block_ret ?_
        | refine at_block_exit ?_
        | refine at_block_other (by rfl) ?_
        | refine wc_seq ?_
        | refine wc_region ?_
        | refine wc_block ?_
        | refine wc_skip ?_
        | refine wc_exit ?_
        | refine wc_ret ?_
        | refine at_ret1 (by rfl) (by rfl) ?_
        | refine wc_cond_true (by rfl) ?_
        | refine wc_cond_false (by rfl) ?_
        | (refine wc_cond_dec (by rfl) (fun _ => ?_) (fun _ => ?_) <;> (try first | contradiction | (exfalso; omega)))
        | refine wc_cond (by rfl) (fun _ => ?_) (fun _ => ?_))
      all_goals try (exfalso; omega)
      exact ⟨I4, [], ⟨rfl, rfl⟩, hm.left (H := [])⟩
    repeat' (first
      | (refine i_indexAddr (d := 23) (by rfl) (by rfl) (by rfl) (by rfl) hri (by omega) (by omega) ?_; intro bt ot hpt; rw [show ((k : Int).toNat * 10) = k * 10 from rfl, hci] at hpt)
      | (refine m_call (d := 31) hm (by rfl) (by rfl) (by rfl) (by first | exact pm0 | exact pm1_0 | exact pm1_1 | exact pm1_2 | exact pm1_3 | exact pm2_0 | exact pm2_1 | exact pm2_2 | exact pm2_3 | exact pm2_4 | exact pm3_0 | exact pm3_1 | exact pm3_2) (ht I4 (Le.refl _)) ?_; clear hm; rintro _ I5 _ _ ⟨rfl, b1, rfl, hb1⟩ hle hm; have hleI5 := hle; try simp only [setn] at hm; cases b1)
      | (refine m_varS (d := 3) hm (by rfl) (by rfl) (by rfl) (by rfl) (by rfl) ?_; clear hm; intro b3 _ hm)
      | (refine m_var1 (d := 3) hm (by rfl) (by rfl) (by rfl) (by rfl) (by rfl) ?_; clear hm; intro b3 _ hm)
      | (refine m_varS (d := 6) hm (by rfl) (by rfl) (by rfl) (by rfl) (by rfl) ?_; clear hm; intro b6 _ hm)
      | (refine m_var1 (d := 6) hm (by rfl) (by rfl) (by rfl) (by rfl) (by rfl) ?_; clear hm; intro b6 _ hm)
      | (refine m_varS (d := 8) hm (by rfl) (by rfl) (by rfl) (by rfl) (by rfl) ?_; clear hm; intro b8 _ hm)
      | (refine m_var1 (d := 8) hm (by rfl) (by rfl) (by rfl) (by rfl) (by rfl) ?_; clear hm; intro b8 _ hm)
      | refine m_load1 hm (by rfl) (by rfl) (by rfl) (by first | exact gt0 | exact gt1 | exact gt2 | exact gt3 | exact gt4 | exact gt5 | exact gt6) (by rfl) ?_
      | refine i_load1 hm (by rfl) (by rfl) (by rfl) (by assumption) (by rfl) ?_
      | refine m_loadAll hm (by rfl) (by rfl) (by rfl) (by first | exact gt0 | exact gt1 | exact gt2 | exact gt3 | exact gt4 | exact gt5 | exact gt6) (by rfl) ?_
      | refine i_loadN hm (by rfl) (by rfl) (by rfl) (by assumption) (by rfl) ?_
      | refine i_load1z hm (by rfl) (by rfl) (by rfl) (by assumption) (by rfl) ?_
      | (refine m_storeAll hm (by rfl) (by rfl) (by rfl) (by rfl) (by first | exact gt0 | exact gt1 | exact gt2 | exact gt3 | exact gt4 | exact gt5 | exact gt6) (by rfl) (by rfl) (by rfl) ?_; clear hm; intro _ hm; try simp only [setn] at hm)
      | (refine m_store1 hm (by rfl) (by rfl) (by rfl) (by rfl) (by first | exact gt0 | exact gt1 | exact gt2 | exact gt3 | exact gt4 | exact gt5 | exact gt6) (by rfl) (by rfl) (by rfl) ?_; clear hm; intro _ hm; try simp only [setn] at hm)
      | (refine m_storeN hm (by rfl) (by rfl) (by rfl) (by rfl) (by first | exact gt0 | exact gt1 | exact gt2 | exact gt3 | exact gt4 | exact gt5 | exact gt6) (by rfl) (by rfl) (by rfl) ?_; clear hm; intro _ hm; try simp only [setn] at hm)
      | refine m_ret_agg hm (by rfl) (by rfl) (by first | exact gt0 | exact gt1 | exact gt2 | exact gt3 | exact gt4 | exact gt5 | exact gt6) (by rfl) ?_
      | refine m_ret2_agg hm (by rfl) (by rfl) (by rfl) (by first | exact gt0 | exact gt1 | exact gt2 | exact gt3 | exact gt4 | exact gt5 | exact gt6) (by rfl) ?_
      | refine op_move (by rfl) (by rfl) (by rfl) ?_
      | refine op_assign (by rfl) (by rfl) (by rfl) ?_
      | refine op_pick_true (by rfl) (by rfl) (by rfl) (by rfl) ?_
      | refine op_pick_false (by rfl) (by rfl) (by rfl) (by rfl) ?_
      | refine op_lss (by rfl) (by rfl) (by rfl) (by rfl) ?_
      | refine op_neq (by rfl) (by rfl) (by rfl) (by rfl) ?_
      | refine op_neq_str (by rfl) (by rfl) (by rfl) (by rfl) ?_
      | refine op_neq_bool (by rfl) (by rfl) (by rfl) (by rfl) ?_
      | refine op_neq_flat (by rfl) (by rfl) (by rfl) (by rfl) (by rfl) (by rfl) ?_
      | refine op_len_str (by rfl) (by rfl) (by rfl) ?_
      | refine op_len_slice (by rfl) (by rfl) (by rfl) ?_
      | refine op_not (by rfl) (by rfl) (by rfl) ?_
      | refine op_extract (by rfl) (by rfl) (by rfl) (by rfl) ?_
      | refine op_add (by rfl) (by rfl) (by rfl) (by rfl) (by omega) ?_
      | refine op_add_u8 (by rfl) (by rfl) (by rfl) (by rfl) (by omega) ?_
      | refine op_indexAddr_arr (by rfl) (by rfl) (by rfl) (by rfl) (by omega) (by omega) ?_
      | refine op_fieldAddr (by rfl) (by rfl) (by rfl) ?_
      | refine op_indexAddr (by rfl) (by rfl) (by rfl) (by rfl) (by omega) (by omega) ?_
      | refine op_load1 (by rfl) (by rfl) (by rfl) (by assumption) (by rfl) ?_
      | refine wl_skip (by rfl) (by rfl) (by rfl) ?_
      | (refine wl_split_dec (by rfl) (by rfl) (by rfl) (fun _ => ?_) (fun _ => ?_) <;> (try first | contradiction | (exfalso; omega)))
      | (refine wl_split (by rfl) (by rfl) (by rfl) (fun _ => ?_) (fun _ => ?_) <;> (fail_if_success contradiction))
      | refine wl_nil ?_
      | refine at_then_normal ?_
      | refine at_then_ret ?_
      | refine at_then_exit ?_
      | refine at_block_normal ?_
      | refine at_block_ret ?_
      | refine at_block_exit ?_
      | refine at_block_other (by rfl) ?_
      | refine wc_seq ?_
      | refine wc_region ?_
      | refine wc_block ?_
      | refine wc_skip ?_
      | refine wc_exit ?_
      | refine wc_ret ?_
      | refine at_ret1 (by rfl) (by rfl) ?_
      | refine wc_cond_true (by rfl) ?_
      | refine wc_cond_false (by rfl) ?_
      | (refine wc_cond_dec (by rfl) (fun _ => ?_) (fun _ => ?_) <;> (try first | contradiction | (exfalso; omega)))
      | refine wc_cond (by rfl) (fun _ => ?_) (fun _ => ?_))
    all_goals try (exfalso; omega)
    rotate_left
    · exact ⟨I5, [], ⟨rfl, rfl⟩, hm.left (H := [])⟩
    have hbz := hb1 rfl
    clear hb1
    refine wc_loop (fun j : Nat => [(0, str s), (3, ptr b3), (6, ptr b6), (19, .slice a its.length cp), (20, nt its.length), (21, nt k), (34, .slice pa it.params.length pc), (35, nt it.params.length), (36, nt j)])
      (fun j w' => Mem E I5 [.cell b6 (itCells it.kind it.name it.label (.slice pa it.params.length pc) (.slice sa9 it.sends.length sc9) (.slice ba it.body.length bc9) it.at_ it.size it.mark (.slice da9 it.diags.length dc9)) 33, .cell b3 [.slice a its.length cp] 24] w' ∧ j ≤ it.params.length ∧ ∀ p ∈ it.params.take j, p.label = 0)
      (fun j => it.params.length - j) 0 (by exact ⟨rfl, rfl, rfl, rfl, rfl, rfl, rfl, rfl, rfl, trivial⟩) ⟨hm, Nat.zero_le _, by simp⟩ ?_
    clear hm
    rintro j w2 ⟨hm, hj, hpz⟩
    try dsimp only at hm hj hpz ⊢
    by_cases hjl : j < it.params.length
    · have hgp : it.params[j]? = some it.params[j] := List.getElem?_eq_getElem hjl
      generalize it.params[j] = p at hgp
      have htp := Sp.take_succ_get hgp
      have hpar5 := hpar.le hleI5
      by_cases hp0 : p.label = 0
      · skip
        repeat' (first
          | (refine i_indexFlat (d := 38) (enc := encPar) (z := p) (by rfl) (by rfl) (by rfl) (by rfl) hpar5 (fun _ => rfl) (by omega) (by omega) (by exact hgp) ?_; intro bz oz hpz2)
          | (refine m_varS (d := 3) hm (by rfl) (by rfl) (by rfl) (by rfl) (by rfl) ?_; clear hm; intro b3 _ hm)
          | (refine m_var1 (d := 3) hm (by rfl) (by rfl) (by rfl) (by rfl) (by rfl) ?_; clear hm; intro b3 _ hm)
          | (refine m_varS (d := 6) hm (by rfl) (by rfl) (by rfl) (by rfl) (by rfl) ?_; clear hm; intro b6 _ hm)
          | (refine m_var1 (d := 6) hm (by rfl) (by rfl) (by rfl) (by rfl) (by rfl) ?_; clear hm; intro b6 _ hm)
          | (refine m_varS (d := 8) hm (by rfl) (by rfl) (by rfl) (by rfl) (by rfl) ?_; clear hm; intro b8 _ hm)
          | (refine m_var1 (d := 8) hm (by rfl) (by rfl) (by rfl) (by rfl) (by rfl) ?_; clear hm; intro b8 _ hm)
          | refine m_load1 hm (by rfl) (by rfl) (by rfl) (by first | exact gt0 | exact gt1 | exact gt2 | exact gt3 | exact gt4 | exact gt5 | exact gt6) (by rfl) ?_
          | refine i_load1 hm (by rfl) (by rfl) (by rfl) (by assumption) (by rfl) ?_
          | refine m_loadAll hm (by rfl) (by rfl) (by rfl) (by first | exact gt0 | exact gt1 | exact gt2 | exact gt3 | exact gt4 | exact gt5 | exact gt6) (by rfl) ?_
          | refine i_loadN hm (by rfl) (by rfl) (by rfl) (by assumption) (by rfl) ?_
          | refine i_load1z hm (by rfl) (by rfl) (by rfl) (by assumption) (by rfl) ?_
          | (refine m_storeAll hm (by rfl) (by rfl) (by rfl) (by rfl) (by first | exact gt0 | exact gt1 | exact gt2 | exact gt3 | exact gt4 | exact gt5 | exact gt6) (by rfl) (by rfl) (by rfl) ?_; clear hm; intro _ hm; try simp only [setn] at hm)
          | (refine m_store1 hm (by rfl) (by rfl) (by rfl) (by rfl) (by first | exact gt0 | exact gt1 | exact gt2 | exact gt3 | exact gt4 | exact gt5 | exact gt6) (by rfl) (by rfl) (by rfl) ?_; clear hm; intro _ hm; try simp only [setn] at hm)
          | (refine m_storeN hm (by rfl) (by rfl) (by rfl) (by rfl) (by first | exact gt0 | exact gt1 | exact gt2 | exact gt3 | exact gt4 | exact gt5 | exact gt6) (by rfl) (by rfl) (by rfl) ?_; clear hm; intro _ hm; try simp only [setn] at hm)
          | refine m_ret_agg hm (by rfl) (by rfl) (by first | exact gt0 | exact gt1 | exact gt2 | exact gt3 | exact gt4 | exact gt5 | exact gt6) (by rfl) ?_
          | refine m_ret2_agg hm (by rfl) (by rfl) (by rfl) (by first | exact gt0 | exact gt1 | exact gt2 | exact gt3 | exact gt4 | exact gt5 | exact gt6) (by rfl) ?_
          | refine op_move (by rfl) (by rfl) (by rfl) ?_
          | refine op_assign (by rfl) (by rfl) (by rfl) ?_
          | refine op_pick_true (by rfl) (by rfl) (by rfl) (by rfl) ?_
          | refine op_pick_false (by rfl) (by rfl) (by rfl) (by rfl) ?_
          | refine op_lss (by rfl) (by rfl) (by rfl) (by rfl) ?_
          | refine op_neq (by rfl) (by rfl) (by rfl) (by rfl) ?_
          | refine op_neq_str (by rfl) (by rfl) (by rfl) (by rfl) ?_
          | refine op_neq_bool (by rfl) (by rfl) (by rfl) (by rfl) ?_
          | refine op_neq_flat (by rfl) (by rfl) (by rfl) (by rfl) (by rfl) (by rfl) ?_
          | refine op_len_str (by rfl) (by rfl) (by rfl) ?_
          | refine op_len_slice (by rfl) (by rfl) (by rfl) ?_
          | refine op_not (by rfl) (by rfl) (by rfl) ?_
          | refine op_extract (by rfl) (by rfl) (by rfl) (by rfl) ?_
          | refine op_add (by rfl) (by rfl) (by rfl) (by rfl) (by omega) ?_
          | refine op_add_u8 (by rfl) (by rfl) (by rfl) (by rfl) (by omega) ?_
          | refine op_indexAddr_arr (by rfl) (by rfl) (by rfl) (by rfl) (by omega) (by omega) ?_
          | refine op_fieldAddr (by rfl) (by rfl) (by rfl) ?_
          | refine op_indexAddr (by rfl) (by rfl) (by rfl) (by rfl) (by omega) (by omega) ?_
          | refine op_load1 (by rfl) (by rfl) (by rfl) (by assumption) (by rfl) ?_
          | refine wl_skip (by rfl) (by rfl) (by rfl) ?_
          | (refine wl_split_dec (by rfl) (by rfl) (by rfl) (fun _ => ?_) (fun _ => ?_) <;> (try first | contradiction | (exfalso; omega)))
          | (refine wl_split (by rfl) (by rfl) (by rfl) (fun _ => ?_) (fun _ => ?_) <;> (fail_if_success contradiction))
          | refine wl_nil ?_
          | refine at_then_normal ?_
          | refine at_then_ret ?_
          | refine at_then_exit ?_
          | refine at_block_normal ?_
          | refine at_block_ret ?_
          | refine at_block_exit ?_
          | refine at_block_other (by rfl) ?_
          | refine wc_seq ?_
          | refine wc_region ?_
          | refine wc_block ?_
          | refine wc_skip ?_
          | refine wc_exit ?_
          | refine wc_ret ?_
          | refine at_ret1 (by rfl) (by rfl) ?_
          | refine wc_cond_true (by rfl) ?_
          | refine wc_cond_false (by rfl) ?_
          | (refine wc_cond_dec (by rfl) (fun _ => ?_) (fun _ => ?_) <;> (try first | contradiction | (exfalso; omega)))
          | refine wc_cond (by rfl) (fun _ => ?_) (fun _ => ?_))
        all_goals try (exfalso; omega)
        refine at_round (j + 1 : Nat) (by exact ⟨rfl, rfl, rfl, rfl, rfl, rfl, rfl, rfl, rfl, trivial⟩) ⟨hm.tl, by omega, ?_⟩ (by omega)
        rw [htp]
        intro x hx
        rcases List.mem_append.1 hx with hx | hx
        · exact hpz x hx
        · obtain rfl := List.mem_singleton.1 hx
          exact hp0
      · skip
        repeat' (first
          | (refine i_indexFlat (d := 38) (enc := encPar) (z := p) (by rfl) (by rfl) (by rfl) (by rfl) hpar5 (fun _ => rfl) (by omega) (by omega) (by exact hgp) ?_; intro bz oz hpz2)
          | (refine m_varS (d := 3) hm (by rfl) (by rfl) (by rfl) (by rfl) (by rfl) ?_; clear hm; intro b3 _ hm)
          | (refine m_var1 (d := 3) hm (by rfl) (by rfl) (by rfl) (by rfl) (by rfl) ?_; clear hm; intro b3 _ hm)
          | (refine m_varS (d := 6) hm (by rfl) (by rfl) (by rfl) (by rfl) (by rfl) ?_; clear hm; intro b6 _ hm)
          | (refine m_var1 (d := 6) hm (by rfl) (by rfl) (by rfl) (by rfl) (by rfl) ?_; clear hm; intro b6 _ hm)
          | (refine m_varS (d := 8) hm (by rfl) (by rfl) (by rfl) (by rfl) (by rfl) ?_; clear hm; intro b8 _ hm)
          | (refine m_var1 (d := 8) hm (by rfl) (by rfl) (by rfl) (by rfl) (by rfl) ?_; clear hm; intro b8 _ hm)
          | refine m_load1 hm (by rfl) (by rfl) (by rfl) (by first | exact gt0 | exact gt1 | exact gt2 | exact gt3 | exact gt4 | exact gt5 | exact gt6) (by rfl) ?_
          | refine i_load1 hm (by rfl) (by rfl) (by rfl) (by assumption) (by rfl) ?_
          | refine m_loadAll hm (by rfl) (by rfl) (by rfl) (by first | exact gt0 | exact gt1 | exact gt2 | exact gt3 | exact gt4 | exact gt5 | exact gt6) (by rfl) ?_
          | refine i_loadN hm (by rfl) (by rfl) (by rfl) (by assumption) (by rfl) ?_
          | refine i_load1z hm (by rfl) (by rfl) (by rfl) (by assumption) (by rfl) ?_
          | (refine m_storeAll hm (by rfl) (by rfl) (by rfl) (by rfl) (by first | exact gt0 | exact gt1 | exact gt2 | exact gt3 | exact gt4 | exact gt5 | exact gt6) (by rfl) (by rfl) (by rfl) ?_; clear hm; intro _ hm; try simp only [setn] at hm)
          | (refine m_store1 hm (by rfl) (by rfl) (by rfl) (by rfl) (by first | exact gt0 | exact gt1 | exact gt2 | exact gt3 | exact gt4 | exact gt5 | exact gt6) (by rfl) (by rfl) (by rfl) ?_; clear hm; intro _ hm; try simp only [setn] at hm)
          | (refine m_storeN hm (by rfl) (by rfl) (by rfl) (by rfl) (by first | exact gt0 | exact gt1 | exact gt2 | exact gt3 | exact gt4 | exact gt5 | exact gt6) (by rfl) (by rfl) (by rfl) ?_; clear hm; intro _ hm; try simp only [setn] at hm)
          | refine m_ret_agg hm (by rfl) (by rfl) (by first | exact gt0 | exact gt1 | exact gt2 | exact gt3 | exact gt4 | exact gt5 | exact gt6) (by rfl) ?_
          | refine m_ret2_agg hm (by rfl) (by rfl) (by rfl) (by first | exact gt0 | exact gt1 | exact gt2 | exact gt3 | exact gt4 | exact gt5 | exact gt6) (by rfl) ?_
          | refine op_move (by rfl) (by rfl) (by rfl) ?_
          | refine op_assign (by rfl) (by rfl) (by rfl) ?_
          | refine op_pick_true (by rfl) (by rfl) (by rfl) (by rfl) ?_
          | refine op_pick_false (by rfl) (by rfl) (by rfl) (by rfl) ?_
          | refine op_lss (by rfl) (by rfl) (by rfl) (by rfl) ?_
          | refine op_neq (by rfl) (by rfl) (by rfl) (by rfl) ?_
          | refine op_neq_str (by rfl) (by rfl) (by rfl) (by rfl) ?_
          | refine op_neq_bool (by rfl) (by rfl) (by rfl) (by rfl) ?_
          | refine op_neq_flat (by rfl) (by rfl) (by rfl) (by rfl) (by rfl) (by rfl) ?_
          | refine op_len_str (by rfl) (by rfl) (by rfl) ?_
          | refine op_len_slice (by rfl) (by rfl) (by rfl) ?_
          | refine op_not (by rfl) (by rfl) (by rfl) ?_
          | refine op_extract (by rfl) (by rfl) (by rfl) (by rfl) ?_
          | refine op_add (by rfl) (by rfl) (by rfl) (by rfl) (by omega) ?_
          | refine op_add_u8 (by rfl) (by rfl) (by rfl) (by rfl) (by omega) ?_
          | refine op_indexAddr_arr (by rfl) (by rfl) (by rfl) (by rfl) (by omega) (by omega) ?_
          | refine op_fieldAddr (by rfl) (by rfl) (by rfl) ?_
          | refine op_indexAddr (by rfl) (by rfl) (by rfl) (by rfl) (by omega) (by omega) ?_
          | refine op_load1 (by rfl) (by rfl) (by rfl) (by assumption) (by rfl) ?_
          | refine wl_skip (by rfl) (by rfl) (by rfl) ?_
          | (refine wl_split_dec (by rfl) (by rfl) (by rfl) (fun _ => ?_) (fun _ => ?_) <;> (try first | contradiction | (exfalso; omega)))
          | (refine wl_split (by rfl) (by rfl) (by rfl) (fun _ => ?_) (fun _ => ?_) <;> (fail_if_success contradiction))
          | refine wl_nil ?_
          | refine at_then_normal ?_
          | refine at_then_ret ?_
          | refine at_then_exit ?_
          | refine at_block_normal ?_
          | refine at_block_ret ?_
          | refine at_block_exit ?_
          | refine at_block_other (by rfl) ?_
          | refine wc_seq ?_
          | refine wc_region ?_
          | refine wc_block ?_
          | refine wc_skip ?_
          | refine wc_exit ?_
          | refine wc_ret ?_
          | refine at_ret1 (by rfl) (by rfl) ?_
          | refine wc_cond_true (by rfl) ?_
          | refine wc_cond_false (by rfl) ?_
          | (refine wc_cond_dec (by rfl) (fun _ => ?_) (fun _ => ?_) <;> (try first | contradiction | (exfalso; omega)))
          | refine wc_cond (by rfl) (fun _ => ?_) (fun _ => ?_))
        all_goals try (exfalso; omega)
        exact ⟨I5, [], ⟨rfl, rfl⟩, hm.left (H := [])⟩
    · obtain rfl : j = it.params.length := by omega
      rw [List.take_length] at hpz
      repeat' (first
        | (refine m_varS (d := 3) hm (by rfl) (by rfl) (by rfl) (by rfl) (by rfl) ?_; clear hm; intro b3 _ hm)
        | (refine m_var1 (d := 3) hm (by rfl) (by rfl) (by rfl) (by rfl) (by rfl) ?_; clear hm; intro b3 _ hm)
        | (refine m_varS (d := 6) hm (by rfl) (by rfl) (by rfl) (by rfl) (by rfl) ?_; clear hm; intro b6 _ hm)
        | (refine m_var1 (d := 6) hm (by rfl) (by rfl) (by rfl) (by rfl) (by rfl) ?_; clear hm; intro b6 _ hm)
        | (refine m_varS (d := 8) hm (by rfl) (by rfl) (by rfl) (by rfl) (by rfl) ?_; clear hm; intro b8 _ hm)
        | (refine m_var1 (d := 8) hm (by rfl) (by rfl) (by rfl) (by rfl) (by rfl) ?_; clear hm; intro b8 _ hm)
        | refine m_load1 hm (by rfl) (by rfl) (by rfl) (by first | exact gt0 | exact gt1 | exact gt2 | exact gt3 | exact gt4 | exact gt5 | exact gt6) (by rfl) ?_
        | refine i_load1 hm (by rfl) (by rfl) (by rfl) (by assumption) (by rfl) ?_
        | refine m_loadAll hm (by rfl) (by rfl) (by rfl) (by first | exact gt0 | exact gt1 | exact gt2 | exact gt3 | exact gt4 | exact gt5 | exact gt6) (by rfl) ?_
        | refine i_loadN hm (by rfl) (by rfl) (by rfl) (by assumption) (by rfl) ?_
        | refine i_load1z hm (by rfl) (by rfl) (by rfl) (by assumption) (by rfl) ?_
        | (refine m_storeAll hm (by rfl) (by rfl) (by rfl) (by rfl) (by first | exact gt0 | exact gt1 | exact gt2 | exact gt3 | exact gt4 | exact gt5 | exact gt6) (by rfl) (by rfl) (by rfl) ?_; clear hm; intro _ hm; try simp only [setn] at hm)
        | (refine m_store1 hm (by rfl) (by rfl) (by rfl) (by rfl) (by first | exact gt0 | exact gt1 | exact gt2 | exact gt3 | exact gt4 | exact gt5 | exact gt6) (by rfl) (by rfl) (by rfl) ?_; clear hm; intro _ hm; try simp only [setn] at hm)
        | (refine m_storeN hm (by rfl) (by rfl) (by rfl) (by rfl) (by first | exact gt0 | exact gt1 | exact gt2 | exact gt3 | exact gt4 | exact gt5 | exact gt6) (by rfl) (by rfl) (by rfl) ?_; clear hm; intro _ hm; try simp only [setn] at hm)
        | refine m_ret_agg hm (by rfl) (by rfl) (by first | exact gt0 | exact gt1 | exact gt2 | exact gt3 | exact gt4 | exact gt5 | exact gt6) (by rfl) ?_
        | refine m_ret2_agg hm (by rfl) (by rfl) (by rfl) (by first | exact gt0 | exact gt1 | exact gt2 | exact gt3 | exact gt4 | exact gt5 | exact gt6) (by rfl) ?_
        | refine op_move (by rfl) (by rfl) (by rfl) ?_
        | refine op_assign (by rfl) (by rfl) (by rfl) ?_
        | refine op_pick_true (by rfl) (by rfl) (by rfl) (by rfl) ?_
        | refine op_pick_false (by rfl) (by rfl) (by rfl) (by rfl) ?_
        | refine op_lss (by rfl) (by rfl) (by rfl) (by rfl) ?_
        | refine op_neq (by rfl) (by rfl) (by rfl) (by rfl) ?_
        | refine op_neq_str (by rfl) (by rfl) (by rfl) (by rfl) ?_
        | refine op_neq_bool (by rfl) (by rfl) (by rfl) (by rfl) ?_
        | refine op_neq_flat (by rfl) (by rfl) (by rfl) (by rfl) (by rfl) (by rfl) ?_
        | refine op_len_str (by rfl) (by rfl) (by rfl) ?_
        | refine op_len_slice (by rfl) (by rfl) (by rfl) ?_
        | refine op_not (by rfl) (by rfl) (by rfl) ?_
        | refine op_extract (by rfl) (by rfl) (by rfl) (by rfl) ?_
        | refine op_add (by rfl) (by rfl) (by rfl) (by rfl) (by omega) ?_
        | refine op_add_u8 (by rfl) (by rfl) (by rfl) (by rfl) (by omega) ?_
        | refine op_indexAddr_arr (by rfl) (by rfl) (by rfl) (by rfl) (by omega) (by omega) ?_
        | refine op_fieldAddr (by rfl) (by rfl) (by rfl) ?_
        | refine op_indexAddr (by rfl) (by rfl) (by rfl) (by rfl) (by omega) (by omega) ?_
        | refine op_load1 (by rfl) (by rfl) (by rfl) (by assumption) (by rfl) ?_
        | refine wl_skip (by rfl) (by rfl) (by rfl) ?_
        | (refine wl_split_dec (by rfl) (by rfl) (by rfl) (fun _ => ?_) (fun _ => ?_) <;> (try first | contradiction | (exfalso; omega)))
        | (refine wl_split (by rfl) (by rfl) (by rfl) (fun _ => ?_) (fun _ => ?_) <;> (fail_if_success contradiction))
        | refine wl_nil ?_
        | refine at_then_normal ?_
        | refine at_then_ret ?_
        | refine at_then_exit ?_
        | refine at_block_normal ?_
        | refine at_block_ret ?_
        | refine at_block_exit ?_
        | refine at_block_other (by rfl) ?_
        | refine wc_seq ?_
        | refine wc_region ?_
        | refine wc_block ?_
        | refine wc_skip ?_
        | refine wc_exit ?_
        | refine wc_ret ?_
        | refine at_ret1 (by rfl) (by rfl) ?_
        | refine wc_cond_true (by rfl) ?_
        | refine wc_cond_false (by rfl) ?_
        | (refine wc_cond_dec (by rfl) (fun _ => ?_) (fun _ => ?_) <;> (try first | contradiction | (exfalso; omega)))
        | refine wc_cond (by rfl) (fun _ => ?_) (fun _ => ?_))
      all_goals try (exfalso; omega)
      refine at_round (⟨k + 1, I5⟩ : NI) (by exact ⟨rfl, rfl, rfl, rfl, rfl, trivial⟩) ⟨hm.tl, hle4.trans hleI5, by dsimp only; omega, ?_⟩ (by dsimp only; omega)
      dsimp only
      rw [htk]
      intro x hx
      rcases List.mem_append.1 hx with hx | hx
      · exact hno x hx
      · obtain rfl := List.mem_singleton.1 hx
        exact ⟨hl0, hpz, hbz⟩
  · obtain rfl : k = its.length := by omega
    rw [List.take_length] at hno
    have hsnd := f_sound I4 (hfe.le hle4) g2 g1
    repeat' (first
      | (refine m_call (d := 46) hm (by rfl) (by rfl) (by rfl) (by first | exact pm0 | exact pm1_0 | exact pm1_1 | exact pm1_2 | exact pm1_3 | exact pm2_0 | exact pm2_1 | exact pm2_2 | exact pm2_3 | exact pm2_4 | exact pm3_0 | exact pm3_1 | exact pm3_2) (hsnd) ?_; clear hm; rintro _ I5 _ _ ⟨rfl, b1, rfl, hb1⟩ hle hm; have hleI5 := hle; try simp only [setn] at hm; have := hb1.2 (Sp.none_sound hno); subst this)
      | (refine m_varS (d := 3) hm (by rfl) (by rfl) (by rfl) (by rfl) (by rfl) ?_; clear hm; intro b3 _ hm)
      | (refine m_var1 (d := 3) hm (by rfl) (by rfl) (by rfl) (by rfl) (by rfl) ?_; clear hm; intro b3 _ hm)
      | (refine m_varS (d := 6) hm (by rfl) (by rfl) (by rfl) (by rfl) (by rfl) ?_; clear hm; intro b6 _ hm)
      | (refine m_var1 (d := 6) hm (by rfl) (by rfl) (by rfl) (by rfl) (by rfl) ?_; clear hm; intro b6 _ hm)
      | (refine m_varS (d := 8) hm (by rfl) (by rfl) (by rfl) (by rfl) (by rfl) ?_; clear hm; intro b8 _ hm)
      | (refine m_var1 (d := 8) hm (by rfl) (by rfl) (by rfl) (by rfl) (by rfl) ?_; clear hm; intro b8 _ hm)
      | refine m_load1 hm (by rfl) (by rfl) (by rfl) (by first | exact gt0 | exact gt1 | exact gt2 | exact gt3 | exact gt4 | exact gt5 | exact gt6) (by rfl) ?_
      | refine i_load1 hm (by rfl) (by rfl) (by rfl) (by assumption) (by rfl) ?_
      | refine m_loadAll hm (by rfl) (by rfl) (by rfl) (by first | exact gt0 | exact gt1 | exact gt2 | exact gt3 | exact gt4 | exact gt5 | exact gt6) (by rfl) ?_
      | refine i_loadN hm (by rfl) (by rfl) (by rfl) (by assumption) (by rfl) ?_
      | refine i_load1z hm (by rfl) (by rfl) (by rfl) (by assumption) (by rfl) ?_
      | (refine m_storeAll hm (by rfl) (by rfl) (by rfl) (by rfl) (by first | exact gt0 | exact gt1 | exact gt2 | exact gt3 | exact gt4 | exact gt5 | exact gt6) (by rfl) (by rfl) (by rfl) ?_; clear hm; intro _ hm; try simp only [setn] at hm)
      | (refine m_store1 hm (by rfl) (by rfl) (by rfl) (by rfl) (by first | exact gt0 | exact gt1 | exact gt2 | exact gt3 | exact gt4 | exact gt5 | exact gt6) (by rfl) (by rfl) (by rfl) ?_; clear hm; intro _ hm; try simp only [setn] at hm)
      | (refine m_storeN hm (by rfl) (by rfl) (by rfl) (by rfl) (by first | exact gt0 | exact gt1 | exact gt2 | exact gt3 | exact gt4 | exact gt5 | exact gt6) (by rfl) (by rfl) (by rfl) ?_; clear hm; intro _ hm; try simp only [setn] at hm)
      | refine m_ret_agg hm (by rfl) (by rfl) (by first | exact gt0 | exact gt1 | exact gt2 | exact gt3 | exact gt4 | exact gt5 | exact gt6) (by rfl) ?_
      | refine m_ret2_agg hm (by rfl) (by rfl) (by rfl) (by first | exact gt0 | exact gt1 | exact gt2 | exact gt3 | exact gt4 | exact gt5 | exact gt6) (by rfl) ?_
      | refine op_move (by rfl) (by rfl) (by rfl) ?_
      | refine op_assign (by rfl) (by rfl) (by rfl) ?_
      | refine op_pick_true (by rfl) (by rfl) (by rfl) (by rfl) ?_
      | refine op_pick_false (by rfl) (by rfl) (by rfl) (by rfl) ?_
      | refine op_lss (by rfl) (by rfl) (by rfl) (by rfl) ?_
      | refine op_neq (by rfl) (by rfl) (by rfl) (by rfl) ?_
      | refine op_neq_str (by rfl) (by rfl) (by rfl) (by rfl) ?_
      | refine op_neq_bool (by rfl) (by rfl) (by rfl) (by rfl) ?_
      | refine op_neq_flat (by rfl) (by rfl) (by rfl) (by rfl) (by rfl) (by rfl) ?_
      | refine op_len_str (by rfl) (by rfl) (by rfl) ?_
      | refine op_len_slice (by rfl) (by rfl) (by rfl) ?_
      | refine op_not (by rfl) (by rfl) (by rfl) ?_
      | refine op_extract (by rfl) (by rfl) (by rfl) (by rfl) ?_
      | refine op_add (by rfl) (by rfl) (by rfl) (by rfl) (by omega) ?_
      | refine op_add_u8 (by rfl) (by rfl) (by rfl) (by rfl) (by omega) ?_
      | refine op_indexAddr_arr (by rfl) (by rfl) (by rfl) (by rfl) (by omega) (by omega) ?_
      | refine op_fieldAddr (by rfl) (by rfl) (by rfl) ?_
      | refine op_indexAddr (by rfl) (by rfl) (by rfl) (by rfl) (by omega) (by omega) ?_
      | refine op_load1 (by rfl) (by rfl) (by rfl) (by assumption) (by rfl) ?_
      | refine wl_skip (by rfl) (by rfl) (by rfl) ?_
      | (refine wl_split_dec (by rfl) (by rfl) (by rfl) (fun _ => ?_) (fun _ => ?_) <;> (try first | contradiction | (exfalso; omega)))
      | (refine wl_split (by rfl) (by rfl) (by rfl) (fun _ => ?_) (fun _ => ?_) <;> (fail_if_success contradiction))
      | refine wl_nil ?_
      | refine at_then_normal ?_
      | refine at_then_ret ?_
      | refine at_then_exit ?_
      | refine at_block_normal ?_
      | refine at_block_ret ?_
      | refine at_block_exit ?_
      | refine at_block_other (by rfl) ?_
      | refine wc_seq ?_
      | refine wc_region ?_
      | refine wc_block ?_
      | refine wc_skip ?_
      | refine wc_exit ?_
      | refine wc_ret ?_
      | refine at_ret1 (by rfl) (by rfl) ?_
      | refine wc_cond_true (by rfl) ?_
      | refine wc_cond_false (by rfl) ?_
      | (refine wc_cond_dec (by rfl) (fun _ => ?_) (fun _ => ?_) <;> (try first | contradiction | (exfalso; omega)))
      | refine wc_cond (by rfl) (fun _ => ?_) (fun _ => ?_))
    all_goals try (exfalso; omega)
    exact ⟨I5, [], ⟨rfl, rfl⟩, hm.left (H := [])⟩
end Go.Proofs.YtkbiakajlfmakaaDoor
end
