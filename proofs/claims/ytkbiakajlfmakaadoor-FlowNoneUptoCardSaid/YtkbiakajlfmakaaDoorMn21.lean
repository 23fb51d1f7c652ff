/- Own work: texts FlB, one behind the other. -/
import Derived.Test.YtkbiakajlfmakaaDoorMn20
section
namespace Go.Sp
theorem plainF_eq (its : List Itm) (sc : List Lc) (e : Ex) : plainF its sc e = if e.kind = 2 then getF sc e.name else if e.kind = 3 then plainsF its sc e.args 0 else if e.kind = 4 then callLab its e.name else 0 := by
  cases e; rw [plainF]; rfl
theorem findV_some {its : List Itm} {k : Int} {n : List UInt8} {j : Nat} (h : findIt its k n = some j) : findV its k n = j := by rw [findV, h]
theorem findV_none {its : List Itm} {k : Int} {n : List UInt8} (h : findIt its k n = none) : findV its k n = -1 := by rw [findV, h]
end Go.Sp
namespace Go.Proofs.YtkbiakajlfmakaaDoor
open Go.Fw
set_option maxHeartbeats 8000000 in
theorem f_plain0 {its : List Sp.Itm} {it : Sp.Itm} {bc bf sp : Nat} {a : Option Addr} {cp : Nat} {xs : List Value} {pi vf v3 v5 v6 v7 : Value} {sc : List Sp.Lc} {sa : Option Addr} (hs : sc.length ≤ 1099511627776) (hsl : Sp.scLab sc) :
    ∀ (n : Nat) (e : Sp.Ex), SizeOf.sizeOf e ≤ n → e.small → ∀ (J : Imm) (b o tc : Nat) (ea : Option Addr) (ec : Nat) (ys : List Value), FRd J bc bf pi sc sa sp v3 vf v5 v6 v7 → FC J its it bf a cp xs pi vf →
      PtrI J b o tc (exCells e ea ec) → RowI J 120 6 (.slice ea e.args.length ec) e.args.length ys → ExsAt J e.args ys →
      CalR Tryd.prog 191 #[ptr bc, .pointer (some ⟨b, o, none⟩)] J [] (nt (Sp.plainF its sc e)) := by
  intro n
  induction n with
  | zero => intro e h; cases e; simp at h
  | succ n ih =>
  intro e hsz hsm J b o tc ea ec ys hR0 hC0 hp0 hr0 hx0
  obtain ⟨hal, hasm⟩ := Sp.small_args hsm
  refine CalR.of fun w K hm hl _ _ => enter (N := 68) Tryd.func191 rfl [(0, ptr bc), (1, .pointer (some ⟨b, o, none⟩))] args2 rfl ?_
  have hR := hR0.le hl
  have hC := hC0.le hl
  have hp := hp0.le hl
  have hr := hr0.le hl
  have hx := ExsAt.le hl _ _ hx0
  clear hR0 hC0 hp0 hr0 hx0
  obtain ⟨hRp, hRr⟩ := hR
  have hCf := hC.file
  rw [Sp.plainF_eq]
  by_cases k2 : e.kind = 2
  · rw [if_pos k2]
    repeat' (first
      | (refine m_readC (d := 19) hm (by rfl) (by rfl) (by rfl) (by first | exact sub_nil | exact sub1_0 | exact sub1_1 | exact sub1_2 | exact sub1_3 | exact sub2_0 | exact sub2_1 | exact sub2_2 | exact sub2_3 | exact sub2_4) (f_get0 e.name hs ⟨hRp, hRr⟩) ?_; clear hm; intro _ hm)
      | refine m_load1 hm (by rfl) (by rfl) (by rfl) (by first | exact gt0 | exact gt1 | exact gt2 | exact gt3 | exact gt4 | exact gt5 | exact gt6) (by rfl) ?_
      | refine i_load1 hm (by rfl) (by rfl) (by rfl) (by assumption) (by rfl) ?_
      | refine m_loadAll hm (by rfl) (by rfl) (by rfl) (by first | exact gt0 | exact gt1 | exact gt2 | exact gt3 | exact gt4 | exact gt5 | exact gt6) (by rfl) ?_
      | refine i_loadN hm (by rfl) (by rfl) (by rfl) (by assumption) (by rfl) ?_
      | refine i_load1z hm (by rfl) (by rfl) (by rfl) (by assumption) (by rfl) ?_
      | refine mq_load1 hm (by rfl) (by rfl) (by rfl) (by first | exact gt0 | exact gt1 | exact gt2 | exact gt3 | exact gt4 | exact gt5 | exact gt6) (by rfl) ?_
      | refine iq_load1 hm (by rfl) (by rfl) (by rfl) (by assumption) (by rfl) ?_
      | refine mq_loadAll hm (by rfl) (by rfl) (by rfl) (by first | exact gt0 | exact gt1 | exact gt2 | exact gt3 | exact gt4 | exact gt5 | exact gt6) (by rfl) ?_
      | refine iq_loadN hm (by rfl) (by rfl) (by rfl) (by assumption) (by rfl) ?_
      | refine iq_load1z hm (by rfl) (by rfl) (by rfl) (by assumption) (by rfl) ?_
      | refine m_ret_agg hm (by rfl) (by rfl) (by first | exact gt0 | exact gt1 | exact gt2 | exact gt3 | exact gt4 | exact gt5 | exact gt6) (by rfl) ?_
      | refine m_ret2_agg hm (by rfl) (by rfl) (by rfl) (by first | exact gt0 | exact gt1 | exact gt2 | exact gt3 | exact gt4 | exact gt5 | exact gt6) (by rfl) ?_
      | refine op_move (by rfl) (by rfl) (by rfl) ?_
      | refine op_assign (by rfl) (by rfl) (by rfl) ?_
      | refine op_lss (by rfl) (by rfl) (by rfl) (by rfl) ?_
      | refine op_geq (by rfl) (by rfl) (by rfl) (by rfl) ?_
      | refine op_eql (by rfl) (by rfl) (by rfl) (by rfl) ?_
      | refine op_eql_str (by rfl) (by rfl) (by rfl) (by rfl) ?_
      | refine op_eql_bool (by rfl) (by rfl) (by rfl) (by rfl) ?_
      | refine op_eql_flat (by rfl) (by rfl) (by rfl) (by rfl) (by rfl) (by rfl) ?_
      | refine op_len_str (by rfl) (by rfl) (by rfl) ?_
      | refine op_len_slice (by rfl) (by rfl) (by rfl) ?_
      | refine op_nilCheck (by rfl) (by rfl) (by rfl) ?_
      | refine op_add (by rfl) (by rfl) (by rfl) (by rfl) (by omega) ?_
      | refine op_add_u8 (by rfl) (by rfl) (by rfl) (by rfl) (by omega) ?_
      | refine op_indexAddr_arr (by rfl) (by rfl) (by rfl) (by rfl) (by omega) (by omega) ?_
      | refine op_fieldAddr (by rfl) (by rfl) (by rfl) ?_
      | refine op_indexAddr (by rfl) (by rfl) (by rfl) (by rfl) (by omega) (by omega) ?_
      | refine op_load1 (by rfl) (by rfl) (by rfl) (by assumption) (by rfl) ?_
      | refine wl_nil ?_
      | refine at_then_normal ?_
      | refine at_then_ret ?_
      | refine at_then_exit ?_
      | refine at_block_normal ?_
      | refine at_block_ret ?_
      | refine at_block_exit ?_
      | refine at_block_other (by rfl) ?_
      | refine wc_seq ?_
      | refine wc_region ?_
      | refine wc_block ?_
      | refine wc_skip ?_
      | refine wc_exit ?_
      | refine wc_ret ?_
      | refine at_ret1 (by rfl) (by rfl) ?_
      | refine wc_quiet (by kernel_rfl) ?_
      | (refine wq_nil ?_; intro _ hkq; replace hm := hm.kept0 hkq; clear hkq)
      | (refine wq_nil_tail ?_; intro _ hkq; replace hm := hm.kept0 hkq; clear hkq)
      | refine wc_cond_true (by rfl) ?_
      | refine wc_cond_false (by rfl) ?_
      | (refine wc_cond_dec (by rfl) (fun _ => ?_) (fun _ => ?_) <;> (try first | contradiction | (exfalso; omega)))
      | refine wc_cond (by rfl) (fun _ => ?_) (fun _ => ?_)
      | refine q_move (by rfl) (by rfl) (by rfl) ?_
      | refine q_assign (by rfl) (by rfl) (by rfl) ?_
      | refine q_lss (by rfl) (by rfl) (by rfl) (by rfl) ?_
      | refine q_geq (by rfl) (by rfl) (by rfl) (by rfl) ?_
      | refine q_eql (by rfl) (by rfl) (by rfl) (by rfl) ?_
      | refine q_eql_str (by rfl) (by rfl) (by rfl) (by rfl) ?_
      | refine q_eql_bool (by rfl) (by rfl) (by rfl) (by rfl) ?_
      | refine q_eql_flat (by rfl) (by rfl) (by rfl) (by rfl) (by rfl) (by rfl) ?_
      | refine q_len_str (by rfl) (by rfl) (by rfl) ?_
      | refine q_len_slice (by rfl) (by rfl) (by rfl) ?_
      | refine q_nilCheck (by rfl) (by rfl) (by rfl) ?_
      | refine q_add (by rfl) (by rfl) (by rfl) (by rfl) (by omega) ?_
      | refine q_add_u8 (by rfl) (by rfl) (by rfl) (by rfl) (by omega) ?_
      | refine q_indexAddr_arr (by rfl) (by rfl) (by rfl) (by rfl) (by omega) (by omega) ?_
      | refine q_fieldAddr (by rfl) (by rfl) (by rfl) ?_
      | refine q_indexAddr (by rfl) (by rfl) (by rfl) (by rfl) (by omega) (by omega) ?_
      | refine q_load1 (by rfl) (by rfl) (by rfl) (by assumption) (by rfl) ?_)
    all_goals try (exfalso; omega)
    exact ⟨rfl, hm.kept⟩
  rw [if_neg k2]
  by_cases k3 : e.kind = 3
  · rw [if_pos k3]
    repeat' (first
      | refine m_load1 hm (by rfl) (by rfl) (by rfl) (by first | exact gt0 | exact gt1 | exact gt2 | exact gt3 | exact gt4 | exact gt5 | exact gt6) (by rfl) ?_
      | refine i_load1 hm (by rfl) (by rfl) (by rfl) (by assumption) (by rfl) ?_
      | refine m_loadAll hm (by rfl) (by rfl) (by rfl) (by first | exact gt0 | exact gt1 | exact gt2 | exact gt3 | exact gt4 | exact gt5 | exact gt6) (by rfl) ?_
      | refine i_loadN hm (by rfl) (by rfl) (by rfl) (by assumption) (by rfl) ?_
      | refine i_load1z hm (by rfl) (by rfl) (by rfl) (by assumption) (by rfl) ?_
      | refine mq_load1 hm (by rfl) (by rfl) (by rfl) (by first | exact gt0 | exact gt1 | exact gt2 | exact gt3 | exact gt4 | exact gt5 | exact gt6) (by rfl) ?_
      | refine iq_load1 hm (by rfl) (by rfl) (by rfl) (by assumption) (by rfl) ?_
      | refine mq_loadAll hm (by rfl) (by rfl) (by rfl) (by first | exact gt0 | exact gt1 | exact gt2 | exact gt3 | exact gt4 | exact gt5 | exact gt6) (by rfl) ?_
      | refine iq_loadN hm (by rfl) (by rfl) (by rfl) (by assumption) (by rfl) ?_
      | refine iq_load1z hm (by rfl) (by rfl) (by rfl) (by assumption) (by rfl) ?_
      | refine m_ret_agg hm (by rfl) (by rfl) (by first | exact gt0 | exact gt1 | exact gt2 | exact gt3 | exact gt4 | exact gt5 | exact gt6) (by rfl) ?_
      | refine m_ret2_agg hm (by rfl) (by rfl) (by rfl) (by first | exact gt0 | exact gt1 | exact gt2 | exact gt3 | exact gt4 | exact gt5 | exact gt6) (by rfl) ?_
      | refine op_move (by rfl) (by rfl) (by rfl) ?_
      | refine op_assign (by rfl) (by rfl) (by rfl) ?_
      | refine op_lss (by rfl) (by rfl) (by rfl) (by rfl) ?_
      | refine op_geq (by rfl) (by rfl) (by rfl) (by rfl) ?_
      | refine op_eql (by rfl) (by rfl) (by rfl) (by rfl) ?_
      | refine op_eql_str (by rfl) (by rfl) (by rfl) (by rfl) ?_
      | refine op_eql_bool (by rfl) (by rfl) (by rfl) (by rfl) ?_
      | refine op_eql_flat (by rfl) (by rfl) (by rfl) (by rfl) (by rfl) (by rfl) ?_
      | refine op_len_str (by rfl) (by rfl) (by rfl) ?_
      | refine op_len_slice (by rfl) (by rfl) (by rfl) ?_
      | refine op_nilCheck (by rfl) (by rfl) (by rfl) ?_
      | refine op_add (by rfl) (by rfl) (by rfl) (by rfl) (by omega) ?_
      | refine op_add_u8 (by rfl) (by rfl) (by rfl) (by rfl) (by omega) ?_
      | refine op_indexAddr_arr (by rfl) (by rfl) (by rfl) (by rfl) (by omega) (by omega) ?_
      | refine op_fieldAddr (by rfl) (by rfl) (by rfl) ?_
      | refine op_indexAddr (by rfl) (by rfl) (by rfl) (by rfl) (by omega) (by omega) ?_
      | refine op_load1 (by rfl) (by rfl) (by rfl) (by assumption) (by rfl) ?_
      | refine wl_nil ?_
      | refine at_then_normal ?_
      | refine at_then_ret ?_
      | refine at_then_exit ?_
      | refine at_block_normal ?_
      | refine at_block_ret ?_
      | refine at_block_exit ?_
      | refine at_block_other (by rfl) ?_
      | refine wc_seq ?_
      | refine wc_region ?_
      | refine wc_block ?_
      | refine wc_skip ?_
      | refine wc_exit ?_
      | refine wc_ret ?_
      | refine at_ret1 (by rfl) (by rfl) ?_
      | refine wc_quiet (by kernel_rfl) ?_
      | (refine wq_nil ?_; intro _ hkq; replace hm := hm.kept0 hkq; clear hkq)
      | (refine wq_nil_tail ?_; intro _ hkq; replace hm := hm.kept0 hkq; clear hkq)
      | refine wc_cond_true (by rfl) ?_
      | refine wc_cond_false (by rfl) ?_
      | (refine wc_cond_dec (by rfl) (fun _ => ?_) (fun _ => ?_) <;> (try first | contradiction | (exfalso; omega)))
      | refine wc_cond (by rfl) (fun _ => ?_) (fun _ => ?_)
      | refine q_move (by rfl) (by rfl) (by rfl) ?_
      | refine q_assign (by rfl) (by rfl) (by rfl) ?_
      | refine q_lss (by rfl) (by rfl) (by rfl) (by rfl) ?_
      | refine q_geq (by rfl) (by rfl) (by rfl) (by rfl) ?_
      | refine q_eql (by rfl) (by rfl) (by rfl) (by rfl) ?_
      | refine q_eql_str (by rfl) (by rfl) (by rfl) (by rfl) ?_
      | refine q_eql_bool (by rfl) (by rfl) (by rfl) (by rfl) ?_
      | refine q_eql_flat (by rfl) (by rfl) (by rfl) (by rfl) (by rfl) (by rfl) ?_
      | refine q_len_str (by rfl) (by rfl) (by rfl) ?_
      | refine q_len_slice (by rfl) (by rfl) (by rfl) ?_
      | refine q_nilCheck (by rfl) (by rfl) (by rfl) ?_
      | refine q_add (by rfl) (by rfl) (by rfl) (by rfl) (by omega) ?_
      | refine q_add_u8 (by rfl) (by rfl) (by rfl) (by rfl) (by omega) ?_
      | refine q_indexAddr_arr (by rfl) (by rfl) (by rfl) (by rfl) (by omega) (by omega) ?_
      | refine q_fieldAddr (by rfl) (by rfl) (by rfl) ?_
      | refine q_indexAddr (by rfl) (by rfl) (by rfl) (by rfl) (by omega) (by omega) ?_
      | refine q_load1 (by rfl) (by rfl) (by rfl) (by assumption) (by rfl) ?_)
    all_goals try (exfalso; omega)
    refine wc_loop (fun k : Nat => [(0, ptr bc), (1, .pointer (some ⟨b, o, none⟩)), (5, nt (Sp.plainsF its sc (e.args.take k) 0)), (26, nt e.args.length), (27, nt k)]) (fun k w' => Mem ⟨w, [], K⟩ K [] w' ∧ k ≤ e.args.length) (fun k => e.args.length - k) 0
      (by exact ⟨rfl, rfl, by rw [List.take_zero, Sp.plainsF]; rfl, rfl, rfl, trivial⟩) ⟨hm, Nat.zero_le _⟩ ?_
    clear hm
    rintro k w1 ⟨hm, hk⟩
    try dsimp only at hm hk ⊢
    by_cases hlt : k < e.args.length
    · have hg : e.args[k]? = some e.args[k] := List.getElem?_eq_getElem hlt
      have hsz2 := Sp.size_args (List.getElem_mem hlt)
      have hsm2 := Sp.exsSmall_get hasm hg
      obtain ⟨ea2, ec2, ys2, hc2, hr2, hx2⟩ := (hx.get hg).out
      generalize e.args[k] = y at hg hsz2 hsm2 hc2 hr2 hx2
      have hst := Sp.plainsF_step its sc hg 0
      have hl1 := Sp.plainsF_lt hC.lab hsl (e.args.take k) 0 (by omega)
      have hl2 := Sp.plainF_lt hC.lab hsl y
      repeat' (first
        | (refine i_indexAddr (d := 37) (by rfl) (by rfl) (by rfl) (by rfl) hr (by omega) (by omega) ?_; intro bt ot hpt; rw [show ((k : Int).toNat * 6) = k * 6 from rfl, hc2] at hpt)
        | (refine m_readC (d := 38) hm (by rfl) (by rfl) (by rfl) (by first | exact sub_nil | exact sub1_0 | exact sub1_1 | exact sub1_2 | exact sub1_3 | exact sub2_0 | exact sub2_1 | exact sub2_2 | exact sub2_3 | exact sub2_4) (ih y (by omega) hsm2 K _ _ _ ea2 ec2 ys2 ⟨hRp, hRr⟩ hC hpt hr2 hx2) ?_; clear hm; intro _ hm)
        | (refine op_call (d := 39) (by rfl) (by rfl) (by rfl) (by exact c_join _ _ hl1 hl2 _) ?_; rintro _ _ ⟨rfl, rfl⟩)
        | refine m_load1 hm (by rfl) (by rfl) (by rfl) (by first | exact gt0 | exact gt1 | exact gt2 | exact gt3 | exact gt4 | exact gt5 | exact gt6) (by rfl) ?_
        | refine i_load1 hm (by rfl) (by rfl) (by rfl) (by assumption) (by rfl) ?_
        | refine m_loadAll hm (by rfl) (by rfl) (by rfl) (by first | exact gt0 | exact gt1 | exact gt2 | exact gt3 | exact gt4 | exact gt5 | exact gt6) (by rfl) ?_
        | refine i_loadN hm (by rfl) (by rfl) (by rfl) (by assumption) (by rfl) ?_
        | refine i_load1z hm (by rfl) (by rfl) (by rfl) (by assumption) (by rfl) ?_
        | refine mq_load1 hm (by rfl) (by rfl) (by rfl) (by first | exact gt0 | exact gt1 | exact gt2 | exact gt3 | exact gt4 | exact gt5 | exact gt6) (by rfl) ?_
        | refine iq_load1 hm (by rfl) (by rfl) (by rfl) (by assumption) (by rfl) ?_
        | refine mq_loadAll hm (by rfl) (by rfl) (by rfl) (by first | exact gt0 | exact gt1 | exact gt2 | exact gt3 | exact gt4 | exact gt5 | exact gt6) (by rfl) ?_
        | refine iq_loadN hm (by rfl) (by rfl) (by rfl) (by assumption) (by rfl) ?_
        | refine iq_load1z hm (by rfl) (by rfl) (by rfl) (by assumption) (by rfl) ?_
        | refine m_ret_agg hm (by rfl) (by rfl) (by first | exact gt0 | exact gt1 | exact gt2 | exact gt3 | exact gt4 | exact gt5 | exact gt6) (by rfl) ?_
        | refine m_ret2_agg hm (by rfl) (by rfl) (by rfl) (by first | exact gt0 | exact gt1 | exact gt2 | exact gt3 | exact gt4 | exact gt5 | exact gt6) (by rfl) ?_
        | refine op_move (by rfl) (by rfl) (by rfl) ?_
        | refine op_assign (by rfl) (by rfl) (by rfl) ?_
        | refine op_lss (by rfl) (by rfl) (by rfl) (by rfl) ?_
        | refine op_geq (by rfl) (by rfl) (by rfl) (by rfl) ?_
        | refine op_eql (by rfl) (by rfl) (by rfl) (by rfl) ?_
        | refine op_eql_str (by rfl) (by rfl) (by rfl) (by rfl) ?_
        | refine op_eql_bool (by rfl) (by rfl) (by rfl) (by rfl) ?_
        | refine op_eql_flat (by rfl) (by rfl) (by rfl) (by rfl) (by rfl) (by rfl) ?_
        | refine op_len_str (by rfl) (by rfl) (by rfl) ?_
        | refine op_len_slice (by rfl) (by rfl) (by rfl) ?_
        | refine op_nilCheck (by rfl) (by rfl) (by rfl) ?_
        | refine op_add (by rfl) (by rfl) (by rfl) (by rfl) (by omega) ?_
        | refine op_add_u8 (by rfl) (by rfl) (by rfl) (by rfl) (by omega) ?_
        | refine op_indexAddr_arr (by rfl) (by rfl) (by rfl) (by rfl) (by omega) (by omega) ?_
        | refine op_fieldAddr (by rfl) (by rfl) (by rfl) ?_
        | refine op_indexAddr (by rfl) (by rfl) (by rfl) (by rfl) (by omega) (by omega) ?_
        | refine op_load1 (by rfl) (by rfl) (by rfl) (by assumption) (by rfl) ?_
        | refine wl_nil ?_
        | refine at_then_normal ?_
        | refine at_then_ret ?_
        | refine at_then_exit ?_
        | refine at_block_normal ?_
        | refine at_block_ret ?_
        | refine at_block_exit ?_
        | refine at_block_other (by rfl) ?_
        | refine wc_seq ?_
        | refine wc_region ?_
        | refine wc_block ?_
        | refine wc_skip ?_
        | refine wc_exit ?_
        | refine wc_ret ?_
        | refine at_ret1 (by rfl) (by rfl) ?_
        | refine wc_quiet (by kernel_rfl) ?_
        | (refine wq_nil ?_; intro _ hkq; replace hm := hm.kept0 hkq; clear hkq)
        | (refine wq_nil_tail ?_; intro _ hkq; replace hm := hm.kept0 hkq; clear hkq)
        | refine wc_cond_true (by rfl) ?_
        | refine wc_cond_false (by rfl) ?_
        | (refine wc_cond_dec (by rfl) (fun _ => ?_) (fun _ => ?_) <;> (try first | contradiction | (exfalso; omega)))
        | refine wc_cond (by rfl) (fun _ => ?_) (fun _ => ?_)
        | refine q_move (by rfl) (by rfl) (by rfl) ?_
        | refine q_assign (by rfl) (by rfl) (by rfl) ?_
        | refine q_lss (by rfl) (by rfl) (by rfl) (by rfl) ?_
        | refine q_geq (by rfl) (by rfl) (by rfl) (by rfl) ?_
        | refine q_eql (by rfl) (by rfl) (by rfl) (by rfl) ?_
        | refine q_eql_str (by rfl) (by rfl) (by rfl) (by rfl) ?_
        | refine q_eql_bool (by rfl) (by rfl) (by rfl) (by rfl) ?_
        | refine q_eql_flat (by rfl) (by rfl) (by rfl) (by rfl) (by rfl) (by rfl) ?_
        | refine q_len_str (by rfl) (by rfl) (by rfl) ?_
        | refine q_len_slice (by rfl) (by rfl) (by rfl) ?_
        | refine q_nilCheck (by rfl) (by rfl) (by rfl) ?_
        | refine q_add (by rfl) (by rfl) (by rfl) (by rfl) (by omega) ?_
        | refine q_add_u8 (by rfl) (by rfl) (by rfl) (by rfl) (by omega) ?_
        | refine q_indexAddr_arr (by rfl) (by rfl) (by rfl) (by rfl) (by omega) (by omega) ?_
        | refine q_fieldAddr (by rfl) (by rfl) (by rfl) ?_
        | refine q_indexAddr (by rfl) (by rfl) (by rfl) (by rfl) (by omega) (by omega) ?_
        | refine q_load1 (by rfl) (by rfl) (by rfl) (by assumption) (by rfl) ?_)
      all_goals try (exfalso; omega)
      refine at_round (k + 1 : Nat) (by exact ⟨rfl, rfl, by rw [hst]; rfl, rfl, rfl, trivial⟩) ⟨hm, by omega⟩ (by omega)
    · obtain rfl : k = e.args.length := by omega
      repeat' (first
        | refine m_load1 hm (by rfl) (by rfl) (by rfl) (by first | exact gt0 | exact gt1 | exact gt2 | exact gt3 | exact gt4 | exact gt5 | exact gt6) (by rfl) ?_
        | refine i_load1 hm (by rfl) (by rfl) (by rfl) (by assumption) (by rfl) ?_
        | refine m_loadAll hm (by rfl) (by rfl) (by rfl) (by first | exact gt0 | exact gt1 | exact gt2 | exact gt3 | exact gt4 | exact gt5 | exact gt6) (by rfl) ?_
        | refine i_loadN hm (by rfl) (by rfl) (by rfl) (by assumption) (by rfl) ?_
        | refine i_load1z hm (by rfl) (by rfl) (by rfl) (by assumption) (by rfl) ?_
        | refine mq_load1 hm (by rfl) (by rfl) (by rfl) (by first | exact gt0 | exact gt1 | exact gt2 | exact gt3 | exact gt4 | exact gt5 | exact gt6) (by rfl) ?_
        | refine iq_load1 hm (by rfl) (by rfl) (by rfl) (by assumption) (by rfl) ?_
        | refine mq_loadAll hm (by rfl) (by rfl) (by rfl) (by first | exact gt0 | exact gt1 | exact gt2 | exact gt3 | exact gt4 | exact gt5 | exact gt6) (by rfl) ?_
        | refine iq_loadN hm (by rfl) (by rfl) (by rfl) (by assumption) (by rfl) ?_
        | refine iq_load1z hm (by rfl) (by rfl) (by rfl) (by assumption) (by rfl) ?_
        | refine m_ret_agg hm (by rfl) (by rfl) (by first | exact gt0 | exact gt1 | exact gt2 | exact gt3 | exact gt4 | exact gt5 | exact gt6) (by rfl) ?_
        | refine m_ret2_agg hm (by rfl) (by rfl) (by rfl) (by first | exact gt0 | exact gt1 | exact gt2 | exact gt3 | exact gt4 | exact gt5 | exact gt6) (by rfl) ?_
        | refine op_move (by rfl) (by rfl) (by rfl) ?_
        | refine op_assign (by rfl) (by rfl) (by rfl) ?_
        | refine op_lss (by rfl) (by rfl) (by rfl) (by rfl) ?_
        | refine op_geq (by rfl) (by rfl) (by rfl) (by rfl) ?_
        | refine op_eql (by rfl) (by rfl) (by rfl) (by rfl) ?_
        | refine op_eql_str (by rfl) (by rfl) (by rfl) (by rfl) ?_
        | refine op_eql_bool (by rfl) (by rfl) (by rfl) (by rfl) ?_
        | refine op_eql_flat (by rfl) (by rfl) (by rfl) (by rfl) (by rfl) (by rfl) ?_
        | refine op_len_str (by rfl) (by rfl) (by rfl) ?_
        | refine op_len_slice (by rfl) (by rfl) (by rfl) ?_
        | refine op_nilCheck (by rfl) (by rfl) (by rfl) ?_
        | refine op_add (by rfl) (by rfl) (by rfl) (by rfl) (by omega) ?_
        | refine op_add_u8 (by rfl) (by rfl) (by rfl) (by rfl) (by omega) ?_
        | refine op_indexAddr_arr (by rfl) (by rfl) (by rfl) (by rfl) (by omega) (by omega) ?_
        | refine op_fieldAddr (by rfl) (by rfl) (by rfl) ?_
        | refine op_indexAddr (by rfl) (by rfl) (by rfl) (by rfl) (by omega) (by omega) ?_
        | refine op_load1 (by rfl) (by rfl) (by rfl) (by assumption) (by rfl) ?_
        | refine wl_nil ?_
        | refine at_then_normal ?_
        | refine at_then_ret ?_
        | refine at_then_exit ?_
        | refine at_block_normal ?_
        | refine at_block_ret ?_
        | refine at_block_exit ?_
        | refine at_block_other (by rfl) ?_
        | refine wc_seq ?_
        | refine wc_region ?_
        | refine wc_block ?_
        | refine wc_skip ?_
        | refine wc_exit ?_
        | refine wc_ret ?_
        | refine at_ret1 (by rfl) (by rfl) ?_
        | refine wc_quiet (by kernel_rfl) ?_
        | (refine wq_nil ?_; intro _ hkq; replace hm := hm.kept0 hkq; clear hkq)
        | (refine wq_nil_tail ?_; intro _ hkq; replace hm := hm.kept0 hkq; clear hkq)
        | refine wc_cond_true (by rfl) ?_
        | refine wc_cond_false (by rfl) ?_
        | (refine wc_cond_dec (by rfl) (fun _ => ?_) (fun _ => ?_) <;> (try first | contradiction | (exfalso; omega)))
        | refine wc_cond (by rfl) (fun _ => ?_) (fun _ => ?_)
        | refine q_move (by rfl) (by rfl) (by rfl) ?_
        | refine q_assign (by rfl) (by rfl) (by rfl) ?_
        | refine q_lss (by rfl) (by rfl) (by rfl) (by rfl) ?_
        | refine q_geq (by rfl) (by rfl) (by rfl) (by rfl) ?_
        | refine q_eql (by rfl) (by rfl) (by rfl) (by rfl) ?_
        | refine q_eql_str (by rfl) (by rfl) (by rfl) (by rfl) ?_
        | refine q_eql_bool (by rfl) (by rfl) (by rfl) (by rfl) ?_
        | refine q_eql_flat (by rfl) (by rfl) (by rfl) (by rfl) (by rfl) (by rfl) ?_
        | refine q_len_str (by rfl) (by rfl) (by rfl) ?_
        | refine q_len_slice (by rfl) (by rfl) (by rfl) ?_
        | refine q_nilCheck (by rfl) (by rfl) (by rfl) ?_
        | refine q_add (by rfl) (by rfl) (by rfl) (by rfl) (by omega) ?_
        | refine q_add_u8 (by rfl) (by rfl) (by rfl) (by rfl) (by omega) ?_
        | refine q_indexAddr_arr (by rfl) (by rfl) (by rfl) (by rfl) (by omega) (by omega) ?_
        | refine q_fieldAddr (by rfl) (by rfl) (by rfl) ?_
        | refine q_indexAddr (by rfl) (by rfl) (by rfl) (by rfl) (by omega) (by omega) ?_
        | refine q_load1 (by rfl) (by rfl) (by rfl) (by assumption) (by rfl) ?_)
      all_goals try (exfalso; omega)
      exact ⟨by rw [List.take_length], hm.kept⟩
  rw [if_neg k3]
  by_cases k4 : e.kind = 4
  · rw [if_pos k4]
    have hfind := (n_find 2 e.name its K a cp xs hC.fe).read
    cases hf : Sp.findIt its 2 e.name with
    | some j =>
      obtain ⟨hj, _, _, _, _⟩ := Sp.findIt_lt hf
      obtain ⟨ci, hci, hat, hlc⟩ := hC.fe.get (Sp.itNo_get hj)
      obtain ⟨pa, pc, sa1, sc1, ba, bc1, da, dc, xb, rfl, _⟩ := hat
      have hri := hC.fe.row
      rw [Sp.callLab, hf]
      rw [Sp.findV_some hf] at hfind
      repeat' (first
        | (refine mq_readC (d := 53) hm (by rfl) (by rfl) (by rfl) (by first | exact sub_nil | exact sub1_0 | exact sub1_1 | exact sub1_2 | exact sub1_3 | exact sub2_0 | exact sub2_1 | exact sub2_2 | exact sub2_3 | exact sub2_4) (hfind) ?_)
        | (refine i_indexAddr (d := 64) (by rfl) (by rfl) (by rfl) (by rfl) hri (by omega) (by omega) ?_; intro bt ot hpt; rw [show ((j : Int).toNat * 10) = j * 10 from rfl, hci] at hpt)
        | refine m_load1 hm (by rfl) (by rfl) (by rfl) (by first | exact gt0 | exact gt1 | exact gt2 | exact gt3 | exact gt4 | exact gt5 | exact gt6) (by rfl) ?_
        | refine i_load1 hm (by rfl) (by rfl) (by rfl) (by assumption) (by rfl) ?_
        | refine m_loadAll hm (by rfl) (by rfl) (by rfl) (by first | exact gt0 | exact gt1 | exact gt2 | exact gt3 | exact gt4 | exact gt5 | exact gt6) (by rfl) ?_
        | refine i_loadN hm (by rfl) (by rfl) (by rfl) (by assumption) (by rfl) ?_
        | refine i_load1z hm (by rfl) (by rfl) (by rfl) (by assumption) (by rfl) ?_
        | refine mq_load1 hm (by rfl) (by rfl) (by rfl) (by first | exact gt0 | exact gt1 | exact gt2 | exact gt3 | exact gt4 | exact gt5 | exact gt6) (by rfl) ?_
        | refine iq_load1 hm (by rfl) (by rfl) (by rfl) (by assumption) (by rfl) ?_
        | refine mq_loadAll hm (by rfl) (by rfl) (by rfl) (by first | exact gt0 | exact gt1 | exact gt2 | exact gt3 | exact gt4 | exact gt5 | exact gt6) (by rfl) ?_
        | refine iq_loadN hm (by rfl) (by rfl) (by rfl) (by assumption) (by rfl) ?_
        | refine iq_load1z hm (by rfl) (by rfl) (by rfl) (by assumption) (by rfl) ?_
        | refine m_ret_agg hm (by rfl) (by rfl) (by first | exact gt0 | exact gt1 | exact gt2 | exact gt3 | exact gt4 | exact gt5 | exact gt6) (by rfl) ?_
        | refine m_ret2_agg hm (by rfl) (by rfl) (by rfl) (by first | exact gt0 | exact gt1 | exact gt2 | exact gt3 | exact gt4 | exact gt5 | exact gt6) (by rfl) ?_
        | refine op_move (by rfl) (by rfl) (by rfl) ?_
        | refine op_assign (by rfl) (by rfl) (by rfl) ?_
        | refine op_lss (by rfl) (by rfl) (by rfl) (by rfl) ?_
        | refine op_geq (by rfl) (by rfl) (by rfl) (by rfl) ?_
        | refine op_eql (by rfl) (by rfl) (by rfl) (by rfl) ?_
        | refine op_eql_str (by rfl) (by rfl) (by rfl) (by rfl) ?_
        | refine op_eql_bool (by rfl) (by rfl) (by rfl) (by rfl) ?_
        | refine op_eql_flat (by rfl) (by rfl) (by rfl) (by rfl) (by rfl) (by rfl) ?_
        | refine op_len_str (by rfl) (by rfl) (by rfl) ?_
        | refine op_len_slice (by rfl) (by rfl) (by rfl) ?_
        | refine op_nilCheck (by rfl) (by rfl) (by rfl) ?_
        | refine op_add (by rfl) (by rfl) (by rfl) (by rfl) (by omega) ?_
        | refine op_add_u8 (by rfl) (by rfl) (by rfl) (by rfl) (by omega) ?_
        | refine op_indexAddr_arr (by rfl) (by rfl) (by rfl) (by rfl) (by omega) (by omega) ?_
        | refine op_fieldAddr (by rfl) (by rfl) (by rfl) ?_
        | refine op_indexAddr (by rfl) (by rfl) (by rfl) (by rfl) (by omega) (by omega) ?_
        | refine op_load1 (by rfl) (by rfl) (by rfl) (by assumption) (by rfl) ?_
        | refine wl_nil ?_
        | refine at_then_normal ?_
        | refine at_then_ret ?_
        | refine at_then_exit ?_
        | refine at_block_normal ?_
        | refine at_block_ret ?_
        | refine at_block_exit ?_
        | refine at_block_other (by rfl) ?_
        | refine wc_seq ?_
        | refine wc_region ?_
        | refine wc_block ?_
        | refine wc_skip ?_
        | refine wc_exit ?_
        | refine wc_ret ?_
        | refine at_ret1 (by rfl) (by rfl) ?_
        | refine wc_quiet (by kernel_rfl) ?_
        | (refine wq_nil ?_; intro _ hkq; replace hm := hm.kept0 hkq; clear hkq)
        | (refine wq_nil_tail ?_; intro _ hkq; replace hm := hm.kept0 hkq; clear hkq)
        | refine wc_cond_true (by rfl) ?_
        | refine wc_cond_false (by rfl) ?_
        | (refine wc_cond_dec (by rfl) (fun _ => ?_) (fun _ => ?_) <;> (try first | contradiction | (exfalso; omega)))
        | refine wc_cond (by rfl) (fun _ => ?_) (fun _ => ?_)
        | refine q_move (by rfl) (by rfl) (by rfl) ?_
        | refine q_assign (by rfl) (by rfl) (by rfl) ?_
        | refine q_lss (by rfl) (by rfl) (by rfl) (by rfl) ?_
        | refine q_geq (by rfl) (by rfl) (by rfl) (by rfl) ?_
        | refine q_eql (by rfl) (by rfl) (by rfl) (by rfl) ?_
        | refine q_eql_str (by rfl) (by rfl) (by rfl) (by rfl) ?_
        | refine q_eql_bool (by rfl) (by rfl) (by rfl) (by rfl) ?_
        | refine q_eql_flat (by rfl) (by rfl) (by rfl) (by rfl) (by rfl) (by rfl) ?_
        | refine q_len_str (by rfl) (by rfl) (by rfl) ?_
        | refine q_len_slice (by rfl) (by rfl) (by rfl) ?_
        | refine q_nilCheck (by rfl) (by rfl) (by rfl) ?_
        | refine q_add (by rfl) (by rfl) (by rfl) (by rfl) (by omega) ?_
        | refine q_add_u8 (by rfl) (by rfl) (by rfl) (by rfl) (by omega) ?_
        | refine q_indexAddr_arr (by rfl) (by rfl) (by rfl) (by rfl) (by omega) (by omega) ?_
        | refine q_fieldAddr (by rfl) (by rfl) (by rfl) ?_
        | refine q_indexAddr (by rfl) (by rfl) (by rfl) (by rfl) (by omega) (by omega) ?_
        | refine q_load1 (by rfl) (by rfl) (by rfl) (by assumption) (by rfl) ?_)
      all_goals try (exfalso; omega)
      exact ⟨rfl, hm.kept⟩
    | none =>
      rw [Sp.callLab, hf]
      rw [Sp.findV_none hf] at hfind
      repeat' (first
        | (refine mq_readC (d := 53) hm (by rfl) (by rfl) (by rfl) (by first | exact sub_nil | exact sub1_0 | exact sub1_1 | exact sub1_2 | exact sub1_3 | exact sub2_0 | exact sub2_1 | exact sub2_2 | exact sub2_3 | exact sub2_4) (hfind) ?_)
        | refine m_load1 hm (by rfl) (by rfl) (by rfl) (by first | exact gt0 | exact gt1 | exact gt2 | exact gt3 | exact gt4 | exact gt5 | exact gt6) (by rfl) ?_
        | refine i_load1 hm (by rfl) (by rfl) (by rfl) (by assumption) (by rfl) ?_
        | refine m_loadAll hm (by rfl) (by rfl) (by rfl) (by first | exact gt0 | exact gt1 | exact gt2 | exact gt3 | exact gt4 | exact gt5 | exact gt6) (by rfl) ?_
        | refine i_loadN hm (by rfl) (by rfl) (by rfl) (by assumption) (by rfl) ?_
        | refine i_load1z hm (by rfl) (by rfl) (by rfl) (by assumption) (by rfl) ?_
        | refine mq_load1 hm (by rfl) (by rfl) (by rfl) (by first | exact gt0 | exact gt1 | exact gt2 | exact gt3 | exact gt4 | exact gt5 | exact gt6) (by rfl) ?_
        | refine iq_load1 hm (by rfl) (by rfl) (by rfl) (by assumption) (by rfl) ?_
        | refine mq_loadAll hm (by rfl) (by rfl) (by rfl) (by first | exact gt0 | exact gt1 | exact gt2 | exact gt3 | exact gt4 | exact gt5 | exact gt6) (by rfl) ?_
        | refine iq_loadN hm (by rfl) (by rfl) (by rfl) (by assumption) (by rfl) ?_
        | refine iq_load1z hm (by rfl) (by rfl) (by rfl) (by assumption) (by rfl) ?_
        | refine m_ret_agg hm (by rfl) (by rfl) (by first | exact gt0 | exact gt1 | exact gt2 | exact gt3 | exact gt4 | exact gt5 | exact gt6) (by rfl) ?_
        | refine m_ret2_agg hm (by rfl) (by rfl) (by rfl) (by first | exact gt0 | exact gt1 | exact gt2 | exact gt3 | exact gt4 | exact gt5 | exact gt6) (by rfl) ?_
        | refine op_move (by rfl) (by rfl) (by rfl) ?_
        | refine op_assign (by rfl) (by rfl) (by rfl) ?_
        | refine op_lss (by rfl) (by rfl) (by rfl) (by rfl) ?_
        | refine op_geq (by rfl) (by rfl) (by rfl) (by rfl) ?_
        | refine op_eql (by rfl) (by rfl) (by rfl) (by rfl) ?_
        | refine op_eql_str (by rfl) (by rfl) (by rfl) (by rfl) ?_
        | refine op_eql_bool (by rfl) (by rfl) (by rfl) (by rfl) ?_
        | refine op_eql_flat (by rfl) (by rfl) (by rfl) (by rfl) (by rfl) (by rfl) ?_
        | refine op_len_str (by rfl) (by rfl) (by rfl) ?_
        | refine op_len_slice (by rfl) (by rfl) (by rfl) ?_
        | refine op_nilCheck (by rfl) (by rfl) (by rfl) ?_
        | refine op_add (by rfl) (by rfl) (by rfl) (by rfl) (by omega) ?_
        | refine op_add_u8 (by rfl) (by rfl) (by rfl) (by rfl) (by omega) ?_
        | refine op_indexAddr_arr (by rfl) (by rfl) (by rfl) (by rfl) (by omega) (by omega) ?_
        | refine op_fieldAddr (by rfl) (by rfl) (by rfl) ?_
        | refine op_indexAddr (by rfl) (by rfl) (by rfl) (by rfl) (by omega) (by omega) ?_
        | refine op_load1 (by rfl) (by rfl) (by rfl) (by assumption) (by rfl) ?_
        | refine wl_nil ?_
        | refine at_then_normal ?_
        | refine at_then_ret ?_
        | refine at_then_exit ?_
        | refine at_block_normal ?_
        | refine at_block_ret ?_
        | refine at_block_exit ?_
        | refine at_block_other (by rfl) ?_
        | refine wc_seq ?_
        | refine wc_region ?_
        | refine wc_block ?_
        | refine wc_skip ?_
        | refine wc_exit ?_
        | refine wc_ret ?_
        | refine at_ret1 (by rfl) (by rfl) ?_
        | refine wc_quiet (by kernel_rfl) ?_
        | (refine wq_nil ?_; intro _ hkq; replace hm := hm.kept0 hkq; clear hkq)
        | (refine wq_nil_tail ?_; intro _ hkq; replace hm := hm.kept0 hkq; clear hkq)
        | refine wc_cond_true (by rfl) ?_
        | refine wc_cond_false (by rfl) ?_
        | (refine wc_cond_dec (by rfl) (fun _ => ?_) (fun _ => ?_) <;> (try first | contradiction | (exfalso; omega)))
        | refine wc_cond (by rfl) (fun _ => ?_) (fun _ => ?_)
        | refine q_move (by rfl) (by rfl) (by rfl) ?_
        | refine q_assign (by rfl) (by rfl) (by rfl) ?_
        | refine q_lss (by rfl) (by rfl) (by rfl) (by rfl) ?_
        | refine q_geq (by rfl) (by rfl) (by rfl) (by rfl) ?_
        | refine q_eql (by rfl) (by rfl) (by rfl) (by rfl) ?_
        | refine q_eql_str (by rfl) (by rfl) (by rfl) (by rfl) ?_
        | refine q_eql_bool (by rfl) (by rfl) (by rfl) (by rfl) ?_
        | refine q_eql_flat (by rfl) (by rfl) (by rfl) (by rfl) (by rfl) (by rfl) ?_
        | refine q_len_str (by rfl) (by rfl) (by rfl) ?_
        | refine q_len_slice (by rfl) (by rfl) (by rfl) ?_
        | refine q_nilCheck (by rfl) (by rfl) (by rfl) ?_
        | refine q_add (by rfl) (by rfl) (by rfl) (by rfl) (by omega) ?_
        | refine q_add_u8 (by rfl) (by rfl) (by rfl) (by rfl) (by omega) ?_
        | refine q_indexAddr_arr (by rfl) (by rfl) (by rfl) (by rfl) (by omega) (by omega) ?_
        | refine q_fieldAddr (by rfl) (by rfl) (by rfl) ?_
        | refine q_indexAddr (by rfl) (by rfl) (by rfl) (by rfl) (by omega) (by omega) ?_
        | refine q_load1 (by rfl) (by rfl) (by rfl) (by assumption) (by rfl) ?_)
      all_goals try (exfalso; omega)
      exact ⟨rfl, hm.kept⟩
  · rw [if_neg k4]
    repeat' (first
      | refine m_load1 hm (by rfl) (by rfl) (by rfl) (by first | exact gt0 | exact gt1 | exact gt2 | exact gt3 | exact gt4 | exact gt5 | exact gt6) (by rfl) ?_
      | refine i_load1 hm (by rfl) (by rfl) (by rfl) (by assumption) (by rfl) ?_
      | refine m_loadAll hm (by rfl) (by rfl) (by rfl) (by first | exact gt0 | exact gt1 | exact gt2 | exact gt3 | exact gt4 | exact gt5 | exact gt6) (by rfl) ?_
      | refine i_loadN hm (by rfl) (by rfl) (by rfl) (by assumption) (by rfl) ?_
      | refine i_load1z hm (by rfl) (by rfl) (by rfl) (by assumption) (by rfl) ?_
      | refine mq_load1 hm (by rfl) (by rfl) (by rfl) (by first | exact gt0 | exact gt1 | exact gt2 | exact gt3 | exact gt4 | exact gt5 | exact gt6) (by rfl) ?_
      | refine iq_load1 hm (by rfl) (by rfl) (by rfl) (by assumption) (by rfl) ?_
      | refine mq_loadAll hm (by rfl) (by rfl) (by rfl) (by first | exact gt0 | exact gt1 | exact gt2 | exact gt3 | exact gt4 | exact gt5 | exact gt6) (by rfl) ?_
      | refine iq_loadN hm (by rfl) (by rfl) (by rfl) (by assumption) (by rfl) ?_
      | refine iq_load1z hm (by rfl) (by rfl) (by rfl) (by assumption) (by rfl) ?_
      | refine m_ret_agg hm (by rfl) (by rfl) (by first | exact gt0 | exact gt1 | exact gt2 | exact gt3 | exact gt4 | exact gt5 | exact gt6) (by rfl) ?_
      | refine m_ret2_agg hm (by rfl) (by rfl) (by rfl) (by first | exact gt0 | exact gt1 | exact gt2 | exact gt3 | exact gt4 | exact gt5 | exact gt6) (by rfl) ?_
      | refine op_move (by rfl) (by rfl) (by rfl) ?_
      | refine op_assign (by rfl) (by rfl) (by rfl) ?_
      | refine op_lss (by rfl) (by rfl) (by rfl) (by rfl) ?_
      | refine op_geq (by rfl) (by rfl) (by rfl) (by rfl) ?_
      | refine op_eql (by rfl) (by rfl) (by rfl) (by rfl) ?_
      | refine op_eql_str (by rfl) (by rfl) (by rfl) (by rfl) ?_
      | refine op_eql_bool (by rfl) (by rfl) (by rfl) (by rfl) ?_
      | refine op_eql_flat (by rfl) (by rfl) (by rfl) (by rfl) (by rfl) (by rfl) ?_
      | refine op_len_str (by rfl) (by rfl) (by rfl) ?_
      | refine op_len_slice (by rfl) (by rfl) (by rfl) ?_
      | refine op_nilCheck (by rfl) (by rfl) (by rfl) ?_
      | refine op_add (by rfl) (by rfl) (by rfl) (by rfl) (by omega) ?_
      | refine op_add_u8 (by rfl) (by rfl) (by rfl) (by rfl) (by omega) ?_
      | refine op_indexAddr_arr (by rfl) (by rfl) (by rfl) (by rfl) (by omega) (by omega) ?_
      | refine op_fieldAddr (by rfl) (by rfl) (by rfl) ?_
      | refine op_indexAddr (by rfl) (by rfl) (by rfl) (by rfl) (by omega) (by omega) ?_
      | refine op_load1 (by rfl) (by rfl) (by rfl) (by assumption) (by rfl) ?_
      | refine wl_nil ?_
      | refine at_then_normal ?_
      | refine at_then_ret ?_
      | refine at_then_exit ?_
      | refine at_block_normal ?_
      | refine at_block_ret ?_
      | refine at_block_exit ?_
      | refine at_block_other (by rfl) ?_
      | refine wc_seq ?_
      | refine wc_region ?_
      | refine wc_block ?_
      | refine wc_skip ?_
      | refine wc_exit ?_
      | refine wc_ret ?_
      | refine at_ret1 (by rfl) (by rfl) ?_
      | refine wc_quiet (by kernel_rfl) ?_
      | (refine wq_nil ?_; intro _ hkq; replace hm := hm.kept0 hkq; clear hkq)
      | (refine wq_nil_tail ?_; intro _ hkq; replace hm := hm.kept0 hkq; clear hkq)
      | refine wc_cond_true (by rfl) ?_
      | refine wc_cond_false (by rfl) ?_
      | (refine wc_cond_dec (by rfl) (fun _ => ?_) (fun _ => ?_) <;> (try first | contradiction | (exfalso; omega)))
      | refine wc_cond (by rfl) (fun _ => ?_) (fun _ => ?_)
      | refine q_move (by rfl) (by rfl) (by rfl) ?_
      | refine q_assign (by rfl) (by rfl) (by rfl) ?_
      | refine q_lss (by rfl) (by rfl) (by rfl) (by rfl) ?_
      | refine q_geq (by rfl) (by rfl) (by rfl) (by rfl) ?_
      | refine q_eql (by rfl) (by rfl) (by rfl) (by rfl) ?_
      | refine q_eql_str (by rfl) (by rfl) (by rfl) (by rfl) ?_
      | refine q_eql_bool (by rfl) (by rfl) (by rfl) (by rfl) ?_
      | refine q_eql_flat (by rfl) (by rfl) (by rfl) (by rfl) (by rfl) (by rfl) ?_
      | refine q_len_str (by rfl) (by rfl) (by rfl) ?_
      | refine q_len_slice (by rfl) (by rfl) (by rfl) ?_
      | refine q_nilCheck (by rfl) (by rfl) (by rfl) ?_
      | refine q_add (by rfl) (by rfl) (by rfl) (by rfl) (by omega) ?_
      | refine q_add_u8 (by rfl) (by rfl) (by rfl) (by rfl) (by omega) ?_
      | refine q_indexAddr_arr (by rfl) (by rfl) (by rfl) (by rfl) (by omega) (by omega) ?_
      | refine q_fieldAddr (by rfl) (by rfl) (by rfl) ?_
      | refine q_indexAddr (by rfl) (by rfl) (by rfl) (by rfl) (by omega) (by omega) ?_
      | refine q_load1 (by rfl) (by rfl) (by rfl) (by assumption) (by rfl) ?_)
    all_goals try (exfalso; omega)
    exact ⟨rfl, hm.kept⟩
end Go.Proofs.YtkbiakajlfmakaaDoor
end
