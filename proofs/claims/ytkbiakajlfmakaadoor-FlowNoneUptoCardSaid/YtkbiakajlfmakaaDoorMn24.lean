/- Own work: texts FlD, one behind the other. -/
import Derived.Test.YtkbiakajlfmakaaDoorMn23
section
namespace Go.Fw
theorem wc_cut_regH {P : Program} {N : Nat} {ds : List Deferred} {Q : Exit → Act → World → Prop} {l : Log} {w : World} (id : Nat) {ops : Array Oper} {dr : Bool} {x y : Code} {α : Type} (L : α → Log) (J : α → World → Prop)
    (h : WHold (WC P N ds (.seq (.region id ops dr) x) (Exit.then (fun a w => ∃ x, Fits N ds (L x) a ∧ J x w) Q) l w))
    (k : ∀ x w, J x w → WC P N ds y Q (L x) w) : WC P N ds (.seq (.seq (.region id ops dr) x) y) Q l w := wc_cut_reg id L J h.out k
end Go.Fw
namespace Go.Proofs.YtkbiakajlfmakaaDoor
open Go.Fw
section
variable {its : List Sp.Itm} {it : Sp.Itm} {bc bf : Nat} {a : Option Addr} {cp : Nat} {xs : List Value} {pi vf : Value} {sc : List Sp.Lc} {at_ : Int} {un : Nat}
set_option maxHeartbeats 16000000 in
theorem f_expr (hun : un < 256) (hsc : sc.length ≤ 1099511627776) (hsl : Sp.scLab sc) : ∀ (n : Nat) (e : Sp.Ex), SizeOf.sizeOf e ≤ n → e.small → ExprOk its it bc bf a cp xs pi vf sc at_ un e := by
  intro n
  induction n with
  | zero => intro e h; cases e; simp at h
  | succ n ih =>
  intro e hsz hsm I b o tc ea ec ys s sa sp da dp hn hC hp hr hx
  obtain ⟨hal, hasm⟩ := Sp.small_args hsm
  have hcnt := Sp.Ex.cnt_eq e
  refine CalM.of fun w E hm => enter (N := 86) Tryd.func192 rfl [(0, ptr bc), (1, .pointer (some ⟨b, o, none⟩)), (2, nt un)] args3 rfl ?_
  have hcore := Sp.coreF_ds its at_ sc un e s
  rw [Sp.exF_eq]
  have hlt := Sp.exF_lt hC.lab at_ hsl un e s
  rw [Sp.exF_eq] at hlt
  dsimp only at hlt ⊢
  have hcr : Sp.coreF its at_ sc un e s = if e.kind = 2 then (Sp.getF sc e.name, s) else if e.kind = 3 then Sp.opsF its at_ sc un e.args 0 s else
    if e.kind = 4 then (Sp.callLab its e.name, Sp.askFloor its un e.name e.fr e.to (Sp.argsF its at_ sc un e.name e.args 0 s)) else (0, s) := rfl
  generalize Sp.coreF its at_ sc un e s = r at hcr hcore hlt ⊢
  repeat' (first
    | (refine wc_cut_regH 2 (fun _ : FX => [(0, ptr bc), (1, .pointer (some ⟨b, o, none⟩)), (2, nt un), (7, nt r.1)]) (fun x w' => Mem E x.I (FSt bc bf pi sc x.sa x.sp r.2 x.da x.dp vf at_) w' ∧ Le I x.I) ?_ ?_)
    | refine m_load1 hm (by rfl) (by rfl) (by rfl) (by first | exact gt0 | exact gt1 | exact gt2 | exact gt3 | exact gt4 | exact gt5 | exact gt6) (by rfl) ?_
    | refine i_load1 hm (by rfl) (by rfl) (by rfl) (by assumption) (by rfl) ?_
    | refine m_loadAll hm (by rfl) (by rfl) (by rfl) (by first | exact gt0 | exact gt1 | exact gt2 | exact gt3 | exact gt4 | exact gt5 | exact gt6) (by rfl) ?_
    | refine i_loadN hm (by rfl) (by rfl) (by rfl) (by assumption) (by rfl) ?_
    | refine i_load1z hm (by rfl) (by rfl) (by rfl) (by assumption) (by rfl) ?_
    | refine mq_load1 hm (by rfl) (by rfl) (by rfl) (by first | exact gt0 | exact gt1 | exact gt2 | exact gt3 | exact gt4 | exact gt5 | exact gt6) (by rfl) ?_
    | refine iq_load1 hm (by rfl) (by rfl) (by rfl) (by assumption) (by rfl) ?_
    | refine mq_loadAll hm (by rfl) (by rfl) (by rfl) (by first | exact gt0 | exact gt1 | exact gt2 | exact gt3 | exact gt4 | exact gt5 | exact gt6) (by rfl) ?_
    | refine iq_loadN hm (by rfl) (by rfl) (by rfl) (by assumption) (by rfl) ?_
    | refine iq_load1z hm (by rfl) (by rfl) (by rfl) (by assumption) (by rfl) ?_
    | (refine m_storeAll hm (by rfl) (by rfl) (by rfl) (by rfl) (by first | exact gt0 | exact gt1 | exact gt2 | exact gt3 | exact gt4 | exact gt5 | exact gt6) (by rfl) (by rfl) (by rfl) ?_; clear hm; intro _ hm; try simp only [setn] at hm)
    | (refine m_store1 hm (by rfl) (by rfl) (by rfl) (by rfl) (by first | exact gt0 | exact gt1 | exact gt2 | exact gt3 | exact gt4 | exact gt5 | exact gt6) (by rfl) (by rfl) (by rfl) ?_; clear hm; intro _ hm; try simp only [setn] at hm)
    | (refine m_storeN hm (by rfl) (by rfl) (by rfl) (by rfl) (by first | exact gt0 | exact gt1 | exact gt2 | exact gt3 | exact gt4 | exact gt5 | exact gt6) (by rfl) (by rfl) (by rfl) ?_; clear hm; intro _ hm; try simp only [setn] at hm)
    | refine m_ret_agg hm (by rfl) (by rfl) (by first | exact gt0 | exact gt1 | exact gt2 | exact gt3 | exact gt4 | exact gt5 | exact gt6) (by rfl) ?_
    | refine m_ret2_agg hm (by rfl) (by rfl) (by rfl) (by first | exact gt0 | exact gt1 | exact gt2 | exact gt3 | exact gt4 | exact gt5 | exact gt6) (by rfl) ?_
    | refine op_move (by rfl) (by rfl) (by rfl) ?_
    | refine op_assign (by rfl) (by rfl) (by rfl) ?_
    | refine op_pick_true (by rfl) (by rfl) (by rfl) (by rfl) ?_
    | refine op_pick_false (by rfl) (by rfl) (by rfl) (by rfl) ?_
    | refine op_lss (by rfl) (by rfl) (by rfl) (by rfl) ?_
    | refine op_leq (by rfl) (by rfl) (by rfl) (by rfl) ?_
    | refine op_eql (by rfl) (by rfl) (by rfl) (by rfl) ?_
    | refine op_eql_str (by rfl) (by rfl) (by rfl) (by rfl) ?_
    | refine op_eql_bool (by rfl) (by rfl) (by rfl) (by rfl) ?_
    | refine op_eql_flat (by rfl) (by rfl) (by rfl) (by rfl) (by rfl) (by rfl) ?_
    | refine op_len_str (by rfl) (by rfl) (by rfl) ?_
    | refine op_len_slice (by rfl) (by rfl) (by rfl) ?_
    | refine op_not (by rfl) (by rfl) (by rfl) ?_
    | refine op_nilCheck (by rfl) (by rfl) (by rfl) ?_
    | refine op_add (by rfl) (by rfl) (by rfl) (by rfl) (by omega) ?_
    | refine op_add_u8 (by rfl) (by rfl) (by rfl) (by rfl) (by omega) ?_
    | refine op_indexAddr_arr (by rfl) (by rfl) (by rfl) (by rfl) (by omega) (by omega) ?_
    | refine op_fieldAddr (by rfl) (by rfl) (by rfl) ?_
    | refine op_indexAddr (by rfl) (by rfl) (by rfl) (by rfl) (by omega) (by omega) ?_
    | refine op_load1 (by rfl) (by rfl) (by rfl) (by assumption) (by rfl) ?_
    | refine wl_skip (by rfl) (by rfl) (by rfl) ?_
    | (refine wl_split_dec (by rfl) (by rfl) (by rfl) (fun _ => ?_) (fun _ => ?_) <;> (try first | contradiction | (exfalso; omega)))
    | (refine wl_split (by rfl) (by rfl) (by rfl) (fun _ => ?_) (fun _ => ?_) <;> (fail_if_success contradiction))
    | refine wl_nil ?_
    | refine at_then_normal ?_
    | refine at_then_ret ?_
    | refine at_then_exit ?_
    | refine at_block_normal ?_
    | refine at_block_ret ?_
    | refine at_block_exit ?_
    | refine at_block_other (by rfl) ?_
    | refine wc_seq ?_
    | refine wc_region ?_
    | refine wc_block ?_
    | refine wc_skip ?_
    | refine wc_exit ?_
    | refine wc_ret ?_
    | refine at_ret1 (by rfl) (by rfl) ?_
    | refine wc_quiet (by kernel_rfl) ?_
    | (refine wq_nil ?_; intro _ hkq; replace hm := hm.kept0 hkq; clear hkq)
    | (refine wq_nil_tail ?_; intro _ hkq; replace hm := hm.kept0 hkq; clear hkq)
    | refine wc_cond_true (by rfl) ?_
    | refine wc_cond_false (by rfl) ?_
    | (refine wc_cond_dec (by rfl) (fun _ => ?_) (fun _ => ?_) <;> (try first | contradiction | (exfalso; omega)))
    | refine wc_cond (by rfl) (fun _ => ?_) (fun _ => ?_)
    | refine q_move (by rfl) (by rfl) (by rfl) ?_
    | refine q_assign (by rfl) (by rfl) (by rfl) ?_
    | refine q_pick_true (by rfl) (by rfl) (by rfl) (by rfl) ?_
    | refine q_pick_false (by rfl) (by rfl) (by rfl) (by rfl) ?_
    | refine q_lss (by rfl) (by rfl) (by rfl) (by rfl) ?_
    | refine q_leq (by rfl) (by rfl) (by rfl) (by rfl) ?_
    | refine q_eql (by rfl) (by rfl) (by rfl) (by rfl) ?_
    | refine q_eql_str (by rfl) (by rfl) (by rfl) (by rfl) ?_
    | refine q_eql_bool (by rfl) (by rfl) (by rfl) (by rfl) ?_
    | refine q_eql_flat (by rfl) (by rfl) (by rfl) (by rfl) (by rfl) (by rfl) ?_
    | refine q_len_str (by rfl) (by rfl) (by rfl) ?_
    | refine q_len_slice (by rfl) (by rfl) (by rfl) ?_
    | refine q_not (by rfl) (by rfl) (by rfl) ?_
    | refine q_nilCheck (by rfl) (by rfl) (by rfl) ?_
    | refine q_add (by rfl) (by rfl) (by rfl) (by rfl) (by omega) ?_
    | refine q_add_u8 (by rfl) (by rfl) (by rfl) (by rfl) (by omega) ?_
    | refine q_indexAddr_arr (by rfl) (by rfl) (by rfl) (by rfl) (by omega) (by omega) ?_
    | refine q_fieldAddr (by rfl) (by rfl) (by rfl) ?_
    | refine q_indexAddr (by rfl) (by rfl) (by rfl) (by rfl) (by omega) (by omega) ?_
    | refine q_load1 (by rfl) (by rfl) (by rfl) (by assumption) (by rfl) ?_
    | refine wq_skip (by rfl) (by rfl) (by rfl) ?_
    | (refine wq_split_dec (by rfl) (by rfl) (by rfl) (fun _ => ?_) (fun _ => ?_) <;> (try first | contradiction | (exfalso; omega)))
    | (refine wq_split (by rfl) (by rfl) (by rfl) (fun _ => ?_) (fun _ => ?_) <;> (fail_if_success contradiction)))
  · refine ⟨?_⟩
    by_cases k2 : e.kind = 2
    · rw [if_pos k2] at hcr
      subst hcr
      have hg := CalR.flow (I := I) (bc := bc) (bf := bf) (pi := pi) (sc := sc) (sa := sa) (sp := sp) (s := s) (da := da) (dp := dp) (vf := vf) (at_ := at_) (fun J m h => f_get0 e.name hsc h)
      repeat' (first
        | (refine m_readC (d := 20) hm (by rfl) (by rfl) (by rfl) sub3_0 (by exact hg) ?_; clear hm; intro _ hm)
        | refine m_load1 hm (by rfl) (by rfl) (by rfl) (by first | exact gt0 | exact gt1 | exact gt2 | exact gt3 | exact gt4 | exact gt5 | exact gt6) (by rfl) ?_
        | refine i_load1 hm (by rfl) (by rfl) (by rfl) (by assumption) (by rfl) ?_
        | refine m_loadAll hm (by rfl) (by rfl) (by rfl) (by first | exact gt0 | exact gt1 | exact gt2 | exact gt3 | exact gt4 | exact gt5 | exact gt6) (by rfl) ?_
        | refine i_loadN hm (by rfl) (by rfl) (by rfl) (by assumption) (by rfl) ?_
        | refine i_load1z hm (by rfl) (by rfl) (by rfl) (by assumption) (by rfl) ?_
        | refine mq_load1 hm (by rfl) (by rfl) (by rfl) (by first | exact gt0 | exact gt1 | exact gt2 | exact gt3 | exact gt4 | exact gt5 | exact gt6) (by rfl) ?_
        | refine iq_load1 hm (by rfl) (by rfl) (by rfl) (by assumption) (by rfl) ?_
        | refine mq_loadAll hm (by rfl) (by rfl) (by rfl) (by first | exact gt0 | exact gt1 | exact gt2 | exact gt3 | exact gt4 | exact gt5 | exact gt6) (by rfl) ?_
        | refine iq_loadN hm (by rfl) (by rfl) (by rfl) (by assumption) (by rfl) ?_
        | refine iq_load1z hm (by rfl) (by rfl) (by rfl) (by assumption) (by rfl) ?_
        | (refine m_storeAll hm (by rfl) (by rfl) (by rfl) (by rfl) (by first | exact gt0 | exact gt1 | exact gt2 | exact gt3 | exact gt4 | exact gt5 | exact gt6) (by rfl) (by rfl) (by rfl) ?_; clear hm; intro _ hm; try simp only [setn] at hm)
        | (refine m_store1 hm (by rfl) (by rfl) (by rfl) (by rfl) (by first | exact gt0 | exact gt1 | exact gt2 | exact gt3 | exact gt4 | exact gt5 | exact gt6) (by rfl) (by rfl) (by rfl) ?_; clear hm; intro _ hm; try simp only [setn] at hm)
        | (refine m_storeN hm (by rfl) (by rfl) (by rfl) (by rfl) (by first | exact gt0 | exact gt1 | exact gt2 | exact gt3 | exact gt4 | exact gt5 | exact gt6) (by rfl) (by rfl) (by rfl) ?_; clear hm; intro _ hm; try simp only [setn] at hm)
        | refine m_ret_agg hm (by rfl) (by rfl) (by first | exact gt0 | exact gt1 | exact gt2 | exact gt3 | exact gt4 | exact gt5 | exact gt6) (by rfl) ?_
        | refine m_ret2_agg hm (by rfl) (by rfl) (by rfl) (by first | exact gt0 | exact gt1 | exact gt2 | exact gt3 | exact gt4 | exact gt5 | exact gt6) (by rfl) ?_
        | refine op_move (by rfl) (by rfl) (by rfl) ?_
        | refine op_assign (by rfl) (by rfl) (by rfl) ?_
        | refine op_pick_true (by rfl) (by rfl) (by rfl) (by rfl) ?_
        | refine op_pick_false (by rfl) (by rfl) (by rfl) (by rfl) ?_
        | refine op_lss (by rfl) (by rfl) (by rfl) (by rfl) ?_
        | refine op_leq (by rfl) (by rfl) (by rfl) (by rfl) ?_
        | refine op_eql (by rfl) (by rfl) (by rfl) (by rfl) ?_
        | refine op_eql_str (by rfl) (by rfl) (by rfl) (by rfl) ?_
        | refine op_eql_bool (by rfl) (by rfl) (by rfl) (by rfl) ?_
        | refine op_eql_flat (by rfl) (by rfl) (by rfl) (by rfl) (by rfl) (by rfl) ?_
        | refine op_len_str (by rfl) (by rfl) (by rfl) ?_
        | refine op_len_slice (by rfl) (by rfl) (by rfl) ?_
        | refine op_not (by rfl) (by rfl) (by rfl) ?_
        | refine op_nilCheck (by rfl) (by rfl) (by rfl) ?_
        | refine op_add (by rfl) (by rfl) (by rfl) (by rfl) (by omega) ?_
        | refine op_add_u8 (by rfl) (by rfl) (by rfl) (by rfl) (by omega) ?_
        | refine op_indexAddr_arr (by rfl) (by rfl) (by rfl) (by rfl) (by omega) (by omega) ?_
        | refine op_fieldAddr (by rfl) (by rfl) (by rfl) ?_
        | refine op_indexAddr (by rfl) (by rfl) (by rfl) (by rfl) (by omega) (by omega) ?_
        | refine op_load1 (by rfl) (by rfl) (by rfl) (by assumption) (by rfl) ?_
        | refine wl_skip (by rfl) (by rfl) (by rfl) ?_
        | (refine wl_split_dec (by rfl) (by rfl) (by rfl) (fun _ => ?_) (fun _ => ?_) <;> (try first | contradiction | (exfalso; omega)))
        | (refine wl_split (by rfl) (by rfl) (by rfl) (fun _ => ?_) (fun _ => ?_) <;> (fail_if_success contradiction))
        | refine wl_nil ?_
        | refine at_then_normal ?_
        | refine at_then_ret ?_
        | refine at_then_exit ?_
        | refine at_block_normal ?_
        | refine at_block_ret ?_
        | refine at_block_exit ?_
        | refine at_block_other (by rfl) ?_
        | refine wc_seq ?_
        | refine wc_region ?_
        | refine wc_block ?_
        | refine wc_skip ?_
        | refine wc_exit ?_
        | refine wc_ret ?_
        | refine at_ret1 (by rfl) (by rfl) ?_
        | refine wc_quiet (by kernel_rfl) ?_
        | (refine wq_nil ?_; intro _ hkq; replace hm := hm.kept0 hkq; clear hkq)
        | (refine wq_nil_tail ?_; intro _ hkq; replace hm := hm.kept0 hkq; clear hkq)
        | refine wc_cond_true (by rfl) ?_
        | refine wc_cond_false (by rfl) ?_
        | (refine wc_cond_dec (by rfl) (fun _ => ?_) (fun _ => ?_) <;> (try first | contradiction | (exfalso; omega)))
        | refine wc_cond (by rfl) (fun _ => ?_) (fun _ => ?_)
        | refine q_move (by rfl) (by rfl) (by rfl) ?_
        | refine q_assign (by rfl) (by rfl) (by rfl) ?_
        | refine q_pick_true (by rfl) (by rfl) (by rfl) (by rfl) ?_
        | refine q_pick_false (by rfl) (by rfl) (by rfl) (by rfl) ?_
        | refine q_lss (by rfl) (by rfl) (by rfl) (by rfl) ?_
        | refine q_leq (by rfl) (by rfl) (by rfl) (by rfl) ?_
        | refine q_eql (by rfl) (by rfl) (by rfl) (by rfl) ?_
        | refine q_eql_str (by rfl) (by rfl) (by rfl) (by rfl) ?_
        | refine q_eql_bool (by rfl) (by rfl) (by rfl) (by rfl) ?_
        | refine q_eql_flat (by rfl) (by rfl) (by rfl) (by rfl) (by rfl) (by rfl) ?_
        | refine q_len_str (by rfl) (by rfl) (by rfl) ?_
        | refine q_len_slice (by rfl) (by rfl) (by rfl) ?_
        | refine q_not (by rfl) (by rfl) (by rfl) ?_
        | refine q_nilCheck (by rfl) (by rfl) (by rfl) ?_
        | refine q_add (by rfl) (by rfl) (by rfl) (by rfl) (by omega) ?_
        | refine q_add_u8 (by rfl) (by rfl) (by rfl) (by rfl) (by omega) ?_
        | refine q_indexAddr_arr (by rfl) (by rfl) (by rfl) (by rfl) (by omega) (by omega) ?_
        | refine q_fieldAddr (by rfl) (by rfl) (by rfl) ?_
        | refine q_indexAddr (by rfl) (by rfl) (by rfl) (by rfl) (by omega) (by omega) ?_
        | refine q_load1 (by rfl) (by rfl) (by rfl) (by assumption) (by rfl) ?_
        | refine wq_skip (by rfl) (by rfl) (by rfl) ?_
        | (refine wq_split_dec (by rfl) (by rfl) (by rfl) (fun _ => ?_) (fun _ => ?_) <;> (try first | contradiction | (exfalso; omega)))
        | (refine wq_split (by rfl) (by rfl) (by rfl) (fun _ => ?_) (fun _ => ?_) <;> (fail_if_success contradiction)))
      all_goals try (exfalso; omega)
      exact at_cut (⟨0, I, sa, sp, da, dp⟩ : FX) (by exact ⟨rfl, rfl, rfl, rfl, trivial⟩) ⟨hm, Le.refl _⟩
    rw [if_neg k2] at hcr
    by_cases k3 : e.kind = 3
    · rw [if_pos k3] at hcr
      repeat' (first
        | refine m_load1 hm (by rfl) (by rfl) (by rfl) (by first | exact gt0 | exact gt1 | exact gt2 | exact gt3 | exact gt4 | exact gt5 | exact gt6) (by rfl) ?_
        | refine i_load1 hm (by rfl) (by rfl) (by rfl) (by assumption) (by rfl) ?_
        | refine m_loadAll hm (by rfl) (by rfl) (by rfl) (by first | exact gt0 | exact gt1 | exact gt2 | exact gt3 | exact gt4 | exact gt5 | exact gt6) (by rfl) ?_
        | refine i_loadN hm (by rfl) (by rfl) (by rfl) (by assumption) (by rfl) ?_
        | refine i_load1z hm (by rfl) (by rfl) (by rfl) (by assumption) (by rfl) ?_
        | refine mq_load1 hm (by rfl) (by rfl) (by rfl) (by first | exact gt0 | exact gt1 | exact gt2 | exact gt3 | exact gt4 | exact gt5 | exact gt6) (by rfl) ?_
        | refine iq_load1 hm (by rfl) (by rfl) (by rfl) (by assumption) (by rfl) ?_
        | refine mq_loadAll hm (by rfl) (by rfl) (by rfl) (by first | exact gt0 | exact gt1 | exact gt2 | exact gt3 | exact gt4 | exact gt5 | exact gt6) (by rfl) ?_
        | refine iq_loadN hm (by rfl) (by rfl) (by rfl) (by assumption) (by rfl) ?_
        | refine iq_load1z hm (by rfl) (by rfl) (by rfl) (by assumption) (by rfl) ?_
        | (refine m_storeAll hm (by rfl) (by rfl) (by rfl) (by rfl) (by first | exact gt0 | exact gt1 | exact gt2 | exact gt3 | exact gt4 | exact gt5 | exact gt6) (by rfl) (by rfl) (by rfl) ?_; clear hm; intro _ hm; try simp only [setn] at hm)
        | (refine m_store1 hm (by rfl) (by rfl) (by rfl) (by rfl) (by first | exact gt0 | exact gt1 | exact gt2 | exact gt3 | exact gt4 | exact gt5 | exact gt6) (by rfl) (by rfl) (by rfl) ?_; clear hm; intro _ hm; try simp only [setn] at hm)
        | (refine m_storeN hm (by rfl) (by rfl) (by rfl) (by rfl) (by first | exact gt0 | exact gt1 | exact gt2 | exact gt3 | exact gt4 | exact gt5 | exact gt6) (by rfl) (by rfl) (by rfl) ?_; clear hm; intro _ hm; try simp only [setn] at hm)
        | refine m_ret_agg hm (by rfl) (by rfl) (by first | exact gt0 | exact gt1 | exact gt2 | exact gt3 | exact gt4 | exact gt5 | exact gt6) (by rfl) ?_
        | refine m_ret2_agg hm (by rfl) (by rfl) (by rfl) (by first | exact gt0 | exact gt1 | exact gt2 | exact gt3 | exact gt4 | exact gt5 | exact gt6) (by rfl) ?_
        | refine op_move (by rfl) (by rfl) (by rfl) ?_
        | refine op_assign (by rfl) (by rfl) (by rfl) ?_
        | refine op_pick_true (by rfl) (by rfl) (by rfl) (by rfl) ?_
        | refine op_pick_false (by rfl) (by rfl) (by rfl) (by rfl) ?_
        | refine op_lss (by rfl) (by rfl) (by rfl) (by rfl) ?_
        | refine op_leq (by rfl) (by rfl) (by rfl) (by rfl) ?_
        | refine op_eql (by rfl) (by rfl) (by rfl) (by rfl) ?_
        | refine op_eql_str (by rfl) (by rfl) (by rfl) (by rfl) ?_
        | refine op_eql_bool (by rfl) (by rfl) (by rfl) (by rfl) ?_
        | refine op_eql_flat (by rfl) (by rfl) (by rfl) (by rfl) (by rfl) (by rfl) ?_
        | refine op_len_str (by rfl) (by rfl) (by rfl) ?_
        | refine op_len_slice (by rfl) (by rfl) (by rfl) ?_
        | refine op_not (by rfl) (by rfl) (by rfl) ?_
        | refine op_nilCheck (by rfl) (by rfl) (by rfl) ?_
        | refine op_add (by rfl) (by rfl) (by rfl) (by rfl) (by omega) ?_
        | refine op_add_u8 (by rfl) (by rfl) (by rfl) (by rfl) (by omega) ?_
        | refine op_indexAddr_arr (by rfl) (by rfl) (by rfl) (by rfl) (by omega) (by omega) ?_
        | refine op_fieldAddr (by rfl) (by rfl) (by rfl) ?_
        | refine op_indexAddr (by rfl) (by rfl) (by rfl) (by rfl) (by omega) (by omega) ?_
        | refine op_load1 (by rfl) (by rfl) (by rfl) (by assumption) (by rfl) ?_
        | refine wl_skip (by rfl) (by rfl) (by rfl) ?_
        | (refine wl_split_dec (by rfl) (by rfl) (by rfl) (fun _ => ?_) (fun _ => ?_) <;> (try first | contradiction | (exfalso; omega)))
        | (refine wl_split (by rfl) (by rfl) (by rfl) (fun _ => ?_) (fun _ => ?_) <;> (fail_if_success contradiction))
        | refine wl_nil ?_
        | refine at_then_normal ?_
        | refine at_then_ret ?_
        | refine at_then_exit ?_
        | refine at_block_normal ?_
        | refine at_block_ret ?_
        | refine at_block_exit ?_
        | refine at_block_other (by rfl) ?_
        | refine wc_seq ?_
        | refine wc_region ?_
        | refine wc_block ?_
        | refine wc_skip ?_
        | refine wc_exit ?_
        | refine wc_ret ?_
        | refine at_ret1 (by rfl) (by rfl) ?_
        | refine wc_quiet (by kernel_rfl) ?_
        | (refine wq_nil ?_; intro _ hkq; replace hm := hm.kept0 hkq; clear hkq)
        | (refine wq_nil_tail ?_; intro _ hkq; replace hm := hm.kept0 hkq; clear hkq)
        | refine wc_cond_true (by rfl) ?_
        | refine wc_cond_false (by rfl) ?_
        | (refine wc_cond_dec (by rfl) (fun _ => ?_) (fun _ => ?_) <;> (try first | contradiction | (exfalso; omega)))
        | refine wc_cond (by rfl) (fun _ => ?_) (fun _ => ?_)
        | refine q_move (by rfl) (by rfl) (by rfl) ?_
        | refine q_assign (by rfl) (by rfl) (by rfl) ?_
        | refine q_pick_true (by rfl) (by rfl) (by rfl) (by rfl) ?_
        | refine q_pick_false (by rfl) (by rfl) (by rfl) (by rfl) ?_
        | refine q_lss (by rfl) (by rfl) (by rfl) (by rfl) ?_
        | refine q_leq (by rfl) (by rfl) (by rfl) (by rfl) ?_
        | refine q_eql (by rfl) (by rfl) (by rfl) (by rfl) ?_
        | refine q_eql_str (by rfl) (by rfl) (by rfl) (by rfl) ?_
        | refine q_eql_bool (by rfl) (by rfl) (by rfl) (by rfl) ?_
        | refine q_eql_flat (by rfl) (by rfl) (by rfl) (by rfl) (by rfl) (by rfl) ?_
        | refine q_len_str (by rfl) (by rfl) (by rfl) ?_
        | refine q_len_slice (by rfl) (by rfl) (by rfl) ?_
        | refine q_not (by rfl) (by rfl) (by rfl) ?_
        | refine q_nilCheck (by rfl) (by rfl) (by rfl) ?_
        | refine q_add (by rfl) (by rfl) (by rfl) (by rfl) (by omega) ?_
        | refine q_add_u8 (by rfl) (by rfl) (by rfl) (by rfl) (by omega) ?_
        | refine q_indexAddr_arr (by rfl) (by rfl) (by rfl) (by rfl) (by omega) (by omega) ?_
        | refine q_fieldAddr (by rfl) (by rfl) (by rfl) ?_
        | refine q_indexAddr (by rfl) (by rfl) (by rfl) (by rfl) (by omega) (by omega) ?_
        | refine q_load1 (by rfl) (by rfl) (by rfl) (by assumption) (by rfl) ?_
        | refine wq_skip (by rfl) (by rfl) (by rfl) ?_
        | (refine wq_split_dec (by rfl) (by rfl) (by rfl) (fun _ => ?_) (fun _ => ?_) <;> (try first | contradiction | (exfalso; omega)))
        | (refine wq_split (by rfl) (by rfl) (by rfl) (fun _ => ?_) (fun _ => ?_) <;> (fail_if_success contradiction)))
      all_goals try (exfalso; omega)
      refine wc_loop (fun x : FX => [(0, ptr bc), (1, .pointer (some ⟨b, o, none⟩)), (2, nt un), (7, nt (Sp.opsF its at_ sc un (e.args.take x.k) 0 s).1), (27, nt e.args.length), (28, nt x.k)])
        (fun x w' => Mem E x.I (FSt bc bf pi sc x.sa x.sp (Sp.opsF its at_ sc un (e.args.take x.k) 0 s).2 x.da x.dp vf at_) w' ∧ Le I x.I ∧ x.k ≤ e.args.length) (fun x => e.args.length - x.k) ⟨0, I, sa, sp, da, dp⟩
        (by exact ⟨rfl, rfl, rfl, by rw [List.take_zero, Sp.opsF]; rfl, rfl, rfl, trivial⟩) ⟨by dsimp only; rw [List.take_zero, Sp.opsF]; exact hm, Le.refl _, Nat.zero_le _⟩ ?_
      clear hm
      rintro ⟨k, I1, sa1, sp1, da1, dp1⟩ w1 ⟨hm, hle1, hk⟩
      dsimp only at hm hle1 hk ⊢
      have hC1 := hC.le hle1
      have hp1 := hp.le hle1
      have hrow := hr.le hle1
      by_cases hlt : k < e.args.length
      · have hg : e.args[k]? = some e.args[k] := List.getElem?_eq_getElem hlt
        have hsz2 := Sp.size_args (List.getElem_mem hlt)
        have hsm2 := Sp.exsSmall_get hasm hg
        obtain ⟨ea2, ec2, ys2, hc2, hr2, hx2⟩ := (hx.get hg).out
        generalize e.args[k] = y at hg hsz2 hsm2 hc2 hr2 hx2
        have hst := Sp.opsF_step its at_ sc un hg 0 s
        have hcy := Sp.exsCnt_take_le hg
        have hnn := Sp.opsF_n its at_ sc un (e.args.take k) 0 s
        have hl1 := Sp.opsF_lt hC.lab at_ hsl un (e.args.take k) 0 s (by omega)
        generalize Sp.opsF its at_ sc un (e.args.take k) 0 s = q at hm hst hnn hl1 ⊢
        have hcl := ih y (by omega) hsm2
        have hl2 := Sp.exF_lt hC.lab at_ hsl un y q.2
        have hcl2 := fun b o tc (hpt : PtrI I1 b o tc (exCells y ea2 ec2)) => hcl I1 b o tc ea2 ec2 ys2 q.2 sa1 sp1 da1 dp1 (by omega) hC1 hpt (hr2.le hle1) (ExsAt.le hle1 _ _ hx2)
        generalize Sp.exF its at_ sc un y q.2 = p at hcl2 hst hl2
        repeat' (first
          | (refine i_indexAddr (d := 38) (by rfl) (by rfl) (by rfl) (by rfl) hrow (by omega) (by omega) ?_; intro bt ot hpt; rw [show ((k : Int).toNat * 6) = k * 6 from rfl, hc2] at hpt)
          | (refine m_call (d := 40) hm (by rfl) (by rfl) (by rfl) (by first | exact pm0 | exact pm1_0 | exact pm1_1 | exact pm1_2 | exact pm1_3 | exact pm2_0 | exact pm2_1 | exact pm2_2 | exact pm2_3 | exact pm2_4 | exact pm3_0 | exact pm3_1 | exact pm3_2) (hcl2 _ _ _ hpt) ?_; clear hm; rintro _ I2 _ _ ⟨rfl, sa2, sp2, da2, dp2, rfl⟩ hle hm; have hleI2 := hle; try simp only [setn] at hm)
          | (refine op_call (d := 41) (by rfl) (by rfl) (by rfl) (by exact c_join _ _ hl1 hl2 _) ?_; rintro _ _ ⟨rfl, rfl⟩)
          | refine m_load1 hm (by rfl) (by rfl) (by rfl) (by first | exact gt0 | exact gt1 | exact gt2 | exact gt3 | exact gt4 | exact gt5 | exact gt6) (by rfl) ?_
          | refine i_load1 hm (by rfl) (by rfl) (by rfl) (by assumption) (by rfl) ?_
          | refine m_loadAll hm (by rfl) (by rfl) (by rfl) (by first | exact gt0 | exact gt1 | exact gt2 | exact gt3 | exact gt4 | exact gt5 | exact gt6) (by rfl) ?_
          | refine i_loadN hm (by rfl) (by rfl) (by rfl) (by assumption) (by rfl) ?_
          | refine i_load1z hm (by rfl) (by rfl) (by rfl) (by assumption) (by rfl) ?_
          | refine mq_load1 hm (by rfl) (by rfl) (by rfl) (by first | exact gt0 | exact gt1 | exact gt2 | exact gt3 | exact gt4 | exact gt5 | exact gt6) (by rfl) ?_
          | refine iq_load1 hm (by rfl) (by rfl) (by rfl) (by assumption) (by rfl) ?_
          | refine mq_loadAll hm (by rfl) (by rfl) (by rfl) (by first | exact gt0 | exact gt1 | exact gt2 | exact gt3 | exact gt4 | exact gt5 | exact gt6) (by rfl) ?_
          | refine iq_loadN hm (by rfl) (by rfl) (by rfl) (by assumption) (by rfl) ?_
          | refine iq_load1z hm (by rfl) (by rfl) (by rfl) (by assumption) (by rfl) ?_
          | (refine m_storeAll hm (by rfl) (by rfl) (by rfl) (by rfl) (by first | exact gt0 | exact gt1 | exact gt2 | exact gt3 | exact gt4 | exact gt5 | exact gt6) (by rfl) (by rfl) (by rfl) ?_; clear hm; intro _ hm; try simp only [setn] at hm)
          | (refine m_store1 hm (by rfl) (by rfl) (by rfl) (by rfl) (by first | exact gt0 | exact gt1 | exact gt2 | exact gt3 | exact gt4 | exact gt5 | exact gt6) (by rfl) (by rfl) (by rfl) ?_; clear hm; intro _ hm; try simp only [setn] at hm)
          | (refine m_storeN hm (by rfl) (by rfl) (by rfl) (by rfl) (by first | exact gt0 | exact gt1 | exact gt2 | exact gt3 | exact gt4 | exact gt5 | exact gt6) (by rfl) (by rfl) (by rfl) ?_; clear hm; intro _ hm; try simp only [setn] at hm)
          | refine m_ret_agg hm (by rfl) (by rfl) (by first | exact gt0 | exact gt1 | exact gt2 | exact gt3 | exact gt4 | exact gt5 | exact gt6) (by rfl) ?_
          | refine m_ret2_agg hm (by rfl) (by rfl) (by rfl) (by first | exact gt0 | exact gt1 | exact gt2 | exact gt3 | exact gt4 | exact gt5 | exact gt6) (by rfl) ?_
          | refine op_move (by rfl) (by rfl) (by rfl) ?_
          | refine op_assign (by rfl) (by rfl) (by rfl) ?_
          | refine op_pick_true (by rfl) (by rfl) (by rfl) (by rfl) ?_
          | refine op_pick_false (by rfl) (by rfl) (by rfl) (by rfl) ?_
          | refine op_lss (by rfl) (by rfl) (by rfl) (by rfl) ?_
          | refine op_leq (by rfl) (by rfl) (by rfl) (by rfl) ?_
          | refine op_eql (by rfl) (by rfl) (by rfl) (by rfl) ?_
          | refine op_eql_str (by rfl) (by rfl) (by rfl) (by rfl) ?_
          | refine op_eql_bool (by rfl) (by rfl) (by rfl) (by rfl) ?_
          | refine op_eql_flat (by rfl) (by rfl) (by rfl) (by rfl) (by rfl) (by rfl) ?_
          | refine op_len_str (by rfl) (by rfl) (by rfl) ?_
          | refine op_len_slice (by rfl) (by rfl) (by rfl) ?_
          | refine op_not (by rfl) (by rfl) (by rfl) ?_
          | refine op_nilCheck (by rfl) (by rfl) (by rfl) ?_
          | refine op_add (by rfl) (by rfl) (by rfl) (by rfl) (by omega) ?_
          | refine op_add_u8 (by rfl) (by rfl) (by rfl) (by rfl) (by omega) ?_
          | refine op_indexAddr_arr (by rfl) (by rfl) (by rfl) (by rfl) (by omega) (by omega) ?_
          | refine op_fieldAddr (by rfl) (by rfl) (by rfl) ?_
          | refine op_indexAddr (by rfl) (by rfl) (by rfl) (by rfl) (by omega) (by omega) ?_
          | refine op_load1 (by rfl) (by rfl) (by rfl) (by assumption) (by rfl) ?_
          | refine wl_skip (by rfl) (by rfl) (by rfl) ?_
          | (refine wl_split_dec (by rfl) (by rfl) (by rfl) (fun _ => ?_) (fun _ => ?_) <;> (try first | contradiction | (exfalso; omega)))
          | (refine wl_split (by rfl) (by rfl) (by rfl) (fun _ => ?_) (fun _ => ?_) <;> (fail_if_success contradiction))
          | refine wl_nil ?_
          | refine at_then_normal ?_
          | refine at_then_ret ?_
          | refine at_then_exit ?_
          | refine at_block_normal ?_
          | refine at_block_ret ?_
          | refine at_block_exit ?_
          | refine at_block_other (by rfl) ?_
          | refine wc_seq ?_
          | refine wc_region ?_
          | refine wc_block ?_
          | refine wc_skip ?_
          | refine wc_exit ?_
          | refine wc_ret ?_
          | refine at_ret1 (by rfl) (by rfl) ?_
          | refine wc_quiet (by kernel_rfl) ?_
          | (refine wq_nil ?_; intro _ hkq; replace hm := hm.kept0 hkq; clear hkq)
          | (refine wq_nil_tail ?_; intro _ hkq; replace hm := hm.kept0 hkq; clear hkq)
          | refine wc_cond_true (by rfl) ?_
          | refine wc_cond_false (by rfl) ?_
          | (refine wc_cond_dec (by rfl) (fun _ => ?_) (fun _ => ?_) <;> (try first | contradiction | (exfalso; omega)))
          | refine wc_cond (by rfl) (fun _ => ?_) (fun _ => ?_)
          | refine q_move (by rfl) (by rfl) (by rfl) ?_
          | refine q_assign (by rfl) (by rfl) (by rfl) ?_
          | refine q_pick_true (by rfl) (by rfl) (by rfl) (by rfl) ?_
          | refine q_pick_false (by rfl) (by rfl) (by rfl) (by rfl) ?_
          | refine q_lss (by rfl) (by rfl) (by rfl) (by rfl) ?_
          | refine q_leq (by rfl) (by rfl) (by rfl) (by rfl) ?_
          | refine q_eql (by rfl) (by rfl) (by rfl) (by rfl) ?_
          | refine q_eql_str (by rfl) (by rfl) (by rfl) (by rfl) ?_
          | refine q_eql_bool (by rfl) (by rfl) (by rfl) (by rfl) ?_
          | refine q_eql_flat (by rfl) (by rfl) (by rfl) (by rfl) (by rfl) (by rfl) ?_
          | refine q_len_str (by rfl) (by rfl) (by rfl) ?_
          | refine q_len_slice (by rfl) (by rfl) (by rfl) ?_
          | refine q_not (by rfl) (by rfl) (by rfl) ?_
          | refine q_nilCheck (by rfl) (by rfl) (by rfl) ?_
          | refine q_add (by rfl) (by rfl) (by rfl) (by rfl) (by omega) ?_
          | refine q_add_u8 (by rfl) (by rfl) (by rfl) (by rfl) (by omega) ?_
          | refine q_indexAddr_arr (by rfl) (by rfl) (by rfl) (by rfl) (by omega) (by omega) ?_
          | refine q_fieldAddr (by rfl) (by rfl) (by rfl) ?_
          | refine q_indexAddr (by rfl) (by rfl) (by rfl) (by rfl) (by omega) (by omega) ?_
          | refine q_load1 (by rfl) (by rfl) (by rfl) (by assumption) (by rfl) ?_
          | refine wq_skip (by rfl) (by rfl) (by rfl) ?_
          | (refine wq_split_dec (by rfl) (by rfl) (by rfl) (fun _ => ?_) (fun _ => ?_) <;> (try first | contradiction | (exfalso; omega)))
          | (refine wq_split (by rfl) (by rfl) (by rfl) (fun _ => ?_) (fun _ => ?_) <;> (fail_if_success contradiction)))
        all_goals try (exfalso; omega)
        exact at_round (⟨k + 1, I2, sa2, sp2, da2, dp2⟩ : FX) (by exact ⟨rfl, rfl, rfl, by rw [hst]; rfl, rfl, rfl, trivial⟩) ⟨by dsimp only; rw [hst]; exact hm, hle1.trans hleI2, by dsimp only; omega⟩ (by dsimp only; omega)
      · obtain rfl : k = e.args.length := by omega
        rw [List.take_length, ← hcr] at hm
        rw [List.take_length, ← hcr]
        repeat' (first
          | refine m_load1 hm (by rfl) (by rfl) (by rfl) (by first | exact gt0 | exact gt1 | exact gt2 | exact gt3 | exact gt4 | exact gt5 | exact gt6) (by rfl) ?_
          | refine i_load1 hm (by rfl) (by rfl) (by rfl) (by assumption) (by rfl) ?_
          | refine m_loadAll hm (by rfl) (by rfl) (by rfl) (by first | exact gt0 | exact gt1 | exact gt2 | exact gt3 | exact gt4 | exact gt5 | exact gt6) (by rfl) ?_
          | refine i_loadN hm (by rfl) (by rfl) (by rfl) (by assumption) (by rfl) ?_
          | refine i_load1z hm (by rfl) (by rfl) (by rfl) (by assumption) (by rfl) ?_
          | refine mq_load1 hm (by rfl) (by rfl) (by rfl) (by first | exact gt0 | exact gt1 | exact gt2 | exact gt3 | exact gt4 | exact gt5 | exact gt6) (by rfl) ?_
          | refine iq_load1 hm (by rfl) (by rfl) (by rfl) (by assumption) (by rfl) ?_
          | refine mq_loadAll hm (by rfl) (by rfl) (by rfl) (by first | exact gt0 | exact gt1 | exact gt2 | exact gt3 | exact gt4 | exact gt5 | exact gt6) (by rfl) ?_
          | refine iq_loadN hm (by rfl) (by rfl) (by rfl) (by assumption) (by rfl) ?_
          | refine iq_load1z hm (by rfl) (by rfl) (by rfl) (by assumption) (by rfl) ?_
          | (refine m_storeAll hm (by rfl) (by rfl) (by rfl) (by rfl) (by first | exact gt0 | exact gt1 | exact gt2 | exact gt3 | exact gt4 | exact gt5 | exact gt6) (by rfl) (by rfl) (by rfl) ?_; clear hm; intro _ hm; try simp only [setn] at hm)
          | (refine m_store1 hm (by rfl) (by rfl) (by rfl) (by rfl) (by first | exact gt0 | exact gt1 | exact gt2 | exact gt3 | exact gt4 | exact gt5 | exact gt6) (by rfl) (by rfl) (by rfl) ?_; clear hm; intro _ hm; try simp only [setn] at hm)
          | (refine m_storeN hm (by rfl) (by rfl) (by rfl) (by rfl) (by first | exact gt0 | exact gt1 | exact gt2 | exact gt3 | exact gt4 | exact gt5 | exact gt6) (by rfl) (by rfl) (by rfl) ?_; clear hm; intro _ hm; try simp only [setn] at hm)
          | refine m_ret_agg hm (by rfl) (by rfl) (by first | exact gt0 | exact gt1 | exact gt2 | exact gt3 | exact gt4 | exact gt5 | exact gt6) (by rfl) ?_
          | refine m_ret2_agg hm (by rfl) (by rfl) (by rfl) (by first | exact gt0 | exact gt1 | exact gt2 | exact gt3 | exact gt4 | exact gt5 | exact gt6) (by rfl) ?_
          | refine op_move (by rfl) (by rfl) (by rfl) ?_
          | refine op_assign (by rfl) (by rfl) (by rfl) ?_
          | refine op_pick_true (by rfl) (by rfl) (by rfl) (by rfl) ?_
          | refine op_pick_false (by rfl) (by rfl) (by rfl) (by rfl) ?_
          | refine op_lss (by rfl) (by rfl) (by rfl) (by rfl) ?_
          | refine op_leq (by rfl) (by rfl) (by rfl) (by rfl) ?_
          | refine op_eql (by rfl) (by rfl) (by rfl) (by rfl) ?_
          | refine op_eql_str (by rfl) (by rfl) (by rfl) (by rfl) ?_
          | refine op_eql_bool (by rfl) (by rfl) (by rfl) (by rfl) ?_
          | refine op_eql_flat (by rfl) (by rfl) (by rfl) (by rfl) (by rfl) (by rfl) ?_
          | refine op_len_str (by rfl) (by rfl) (by rfl) ?_
          | refine op_len_slice (by rfl) (by rfl) (by rfl) ?_
          | refine op_not (by rfl) (by rfl) (by rfl) ?_
          | refine op_nilCheck (by rfl) (by rfl) (by rfl) ?_
          | refine op_add (by rfl) (by rfl) (by rfl) (by rfl) (by omega) ?_
          | refine op_add_u8 (by rfl) (by rfl) (by rfl) (by rfl) (by omega) ?_
          | refine op_indexAddr_arr (by rfl) (by rfl) (by rfl) (by rfl) (by omega) (by omega) ?_
          | refine op_fieldAddr (by rfl) (by rfl) (by rfl) ?_
          | refine op_indexAddr (by rfl) (by rfl) (by rfl) (by rfl) (by omega) (by omega) ?_
          | refine op_load1 (by rfl) (by rfl) (by rfl) (by assumption) (by rfl) ?_
          | refine wl_skip (by rfl) (by rfl) (by rfl) ?_
          | (refine wl_split_dec (by rfl) (by rfl) (by rfl) (fun _ => ?_) (fun _ => ?_) <;> (try first | contradiction | (exfalso; omega)))
          | (refine wl_split (by rfl) (by rfl) (by rfl) (fun _ => ?_) (fun _ => ?_) <;> (fail_if_success contradiction))
          | refine wl_nil ?_
          | refine at_then_normal ?_
          | refine at_then_ret ?_
          | refine at_then_exit ?_
          | refine at_block_normal ?_
          | refine at_block_ret ?_
          | refine at_block_exit ?_
          | refine at_block_other (by rfl) ?_
          | refine wc_seq ?_
          | refine wc_region ?_
          | refine wc_block ?_
          | refine wc_skip ?_
          | refine wc_exit ?_
          | refine wc_ret ?_
          | refine at_ret1 (by rfl) (by rfl) ?_
          | refine wc_quiet (by kernel_rfl) ?_
          | (refine wq_nil ?_; intro _ hkq; replace hm := hm.kept0 hkq; clear hkq)
          | (refine wq_nil_tail ?_; intro _ hkq; replace hm := hm.kept0 hkq; clear hkq)
          | refine wc_cond_true (by rfl) ?_
          | refine wc_cond_false (by rfl) ?_
          | (refine wc_cond_dec (by rfl) (fun _ => ?_) (fun _ => ?_) <;> (try first | contradiction | (exfalso; omega)))
          | refine wc_cond (by rfl) (fun _ => ?_) (fun _ => ?_)
          | refine q_move (by rfl) (by rfl) (by rfl) ?_
          | refine q_assign (by rfl) (by rfl) (by rfl) ?_
          | refine q_pick_true (by rfl) (by rfl) (by rfl) (by rfl) ?_
          | refine q_pick_false (by rfl) (by rfl) (by rfl) (by rfl) ?_
          | refine q_lss (by rfl) (by rfl) (by rfl) (by rfl) ?_
          | refine q_leq (by rfl) (by rfl) (by rfl) (by rfl) ?_
          | refine q_eql (by rfl) (by rfl) (by rfl) (by rfl) ?_
          | refine q_eql_str (by rfl) (by rfl) (by rfl) (by rfl) ?_
          | refine q_eql_bool (by rfl) (by rfl) (by rfl) (by rfl) ?_
          | refine q_eql_flat (by rfl) (by rfl) (by rfl) (by rfl) (by rfl) (by rfl) ?_
          | refine q_len_str (by rfl) (by rfl) (by rfl) ?_
          | refine q_len_slice (by rfl) (by rfl) (by rfl) ?_
          | refine q_not (by rfl) (by rfl) (by rfl) ?_
          | refine q_nilCheck (by rfl) (by rfl) (by rfl) ?_
          | refine q_add (by rfl) (by rfl) (by rfl) (by rfl) (by omega) ?_
          | refine q_add_u8 (by rfl) (by rfl) (by rfl) (by rfl) (by omega) ?_
          | refine q_indexAddr_arr (by rfl) (by rfl) (by rfl) (by rfl) (by omega) (by omega) ?_
          | refine q_fieldAddr (by rfl) (by rfl) (by rfl) ?_
          | refine q_indexAddr (by rfl) (by rfl) (by rfl) (by rfl) (by omega) (by omega) ?_
          | refine q_load1 (by rfl) (by rfl) (by rfl) (by assumption) (by rfl) ?_
          | refine wq_skip (by rfl) (by rfl) (by rfl) ?_
          | (refine wq_split_dec (by rfl) (by rfl) (by rfl) (fun _ => ?_) (fun _ => ?_) <;> (try first | contradiction | (exfalso; omega)))
          | (refine wq_split (by rfl) (by rfl) (by rfl) (fun _ => ?_) (fun _ => ?_) <;> (fail_if_success contradiction)))
        all_goals try (exfalso; omega)
        exact at_cut (⟨0, I1, sa1, sp1, da1, dp1⟩ : FX) (by exact ⟨rfl, rfl, rfl, rfl, trivial⟩) ⟨hm, hle1⟩
    rw [if_neg k3] at hcr
    by_cases k4 : e.kind = 4
    · rw [if_pos k4] at hcr
      subst hcr
      have hc := f_call (at_ := at_) hun hsc hsl e hsm (fun y hy => ih y (by have := Sp.size_args hy; omega) (by obtain ⟨j, hj, rfl⟩ := List.getElem_of_mem hy; exact Sp.exsSmall_get hasm (List.getElem?_eq_getElem hj))) I b o tc ea ec ys s sa sp da dp hn hC hp hr hx
      repeat' (first
        | (refine m_call (d := 48) hm (by rfl) (by rfl) (by rfl) (by first | exact pm0 | exact pm1_0 | exact pm1_1 | exact pm1_2 | exact pm1_3 | exact pm2_0 | exact pm2_1 | exact pm2_2 | exact pm2_3 | exact pm2_4 | exact pm3_0 | exact pm3_1 | exact pm3_2) (hc) ?_; clear hm; rintro _ I2 _ _ ⟨rfl, sa2, sp2, da2, dp2, rfl⟩ hle hm; have hleI2 := hle; try simp only [setn] at hm)
        | refine m_load1 hm (by rfl) (by rfl) (by rfl) (by first | exact gt0 | exact gt1 | exact gt2 | exact gt3 | exact gt4 | exact gt5 | exact gt6) (by rfl) ?_
        | refine i_load1 hm (by rfl) (by rfl) (by rfl) (by assumption) (by rfl) ?_
        | refine m_loadAll hm (by rfl) (by rfl) (by rfl) (by first | exact gt0 | exact gt1 | exact gt2 | exact gt3 | exact gt4 | exact gt5 | exact gt6) (by rfl) ?_
        | refine i_loadN hm (by rfl) (by rfl) (by rfl) (by assumption) (by rfl) ?_
        | refine i_load1z hm (by rfl) (by rfl) (by rfl) (by assumption) (by rfl) ?_
        | refine mq_load1 hm (by rfl) (by rfl) (by rfl) (by first | exact gt0 | exact gt1 | exact gt2 | exact gt3 | exact gt4 | exact gt5 | exact gt6) (by rfl) ?_
        | refine iq_load1 hm (by rfl) (by rfl) (by rfl) (by assumption) (by rfl) ?_
        | refine mq_loadAll hm (by rfl) (by rfl) (by rfl) (by first | exact gt0 | exact gt1 | exact gt2 | exact gt3 | exact gt4 | exact gt5 | exact gt6) (by rfl) ?_
        | refine iq_loadN hm (by rfl) (by rfl) (by rfl) (by assumption) (by rfl) ?_
        | refine iq_load1z hm (by rfl) (by rfl) (by rfl) (by assumption) (by rfl) ?_
        | (refine m_storeAll hm (by rfl) (by rfl) (by rfl) (by rfl) (by first | exact gt0 | exact gt1 | exact gt2 | exact gt3 | exact gt4 | exact gt5 | exact gt6) (by rfl) (by rfl) (by rfl) ?_; clear hm; intro _ hm; try simp only [setn] at hm)
        | (refine m_store1 hm (by rfl) (by rfl) (by rfl) (by rfl) (by first | exact gt0 | exact gt1 | exact gt2 | exact gt3 | exact gt4 | exact gt5 | exact gt6) (by rfl) (by rfl) (by rfl) ?_; clear hm; intro _ hm; try simp only [setn] at hm)
        | (refine m_storeN hm (by rfl) (by rfl) (by rfl) (by rfl) (by first | exact gt0 | exact gt1 | exact gt2 | exact gt3 | exact gt4 | exact gt5 | exact gt6) (by rfl) (by rfl) (by rfl) ?_; clear hm; intro _ hm; try simp only [setn] at hm)
        | refine m_ret_agg hm (by rfl) (by rfl) (by first | exact gt0 | exact gt1 | exact gt2 | exact gt3 | exact gt4 | exact gt5 | exact gt6) (by rfl) ?_
        | refine m_ret2_agg hm (by rfl) (by rfl) (by rfl) (by first | exact gt0 | exact gt1 | exact gt2 | exact gt3 | exact gt4 | exact gt5 | exact gt6) (by rfl) ?_
        | refine op_move (by rfl) (by rfl) (by rfl) ?_
        | refine op_assign (by rfl) (by rfl) (by rfl) ?_
        | refine op_pick_true (by rfl) (by rfl) (by rfl) (by rfl) ?_
        | refine op_pick_false (by rfl) (by rfl) (by rfl) (by rfl) ?_
        | refine op_lss (by rfl) (by rfl) (by rfl) (by rfl) ?_
        | refine op_leq (by rfl) (by rfl) (by rfl) (by rfl) ?_
        | refine op_eql (by rfl) (by rfl) (by rfl) (by rfl) ?_
        | refine op_eql_str (by rfl) (by rfl) (by rfl) (by rfl) ?_
        | refine op_eql_bool (by rfl) (by rfl) (by rfl) (by rfl) ?_
        | refine op_eql_flat (by rfl) (by rfl) (by rfl) (by rfl) (by rfl) (by rfl) ?_
        | refine op_len_str (by rfl) (by rfl) (by rfl) ?_
        | refine op_len_slice (by rfl) (by rfl) (by rfl) ?_
        | refine op_not (by rfl) (by rfl) (by rfl) ?_
        | refine op_nilCheck (by rfl) (by rfl) (by rfl) ?_
        | refine op_add (by rfl) (by rfl) (by rfl) (by rfl) (by omega) ?_
        | refine op_add_u8 (by rfl) (by rfl) (by rfl) (by rfl) (by omega) ?_
        | refine op_indexAddr_arr (by rfl) (by rfl) (by rfl) (by rfl) (by omega) (by omega) ?_
        | refine op_fieldAddr (by rfl) (by rfl) (by rfl) ?_
        | refine op_indexAddr (by rfl) (by rfl) (by rfl) (by rfl) (by omega) (by omega) ?_
        | refine op_load1 (by rfl) (by rfl) (by rfl) (by assumption) (by rfl) ?_
        | refine wl_skip (by rfl) (by rfl) (by rfl) ?_
        | (refine wl_split_dec (by rfl) (by rfl) (by rfl) (fun _ => ?_) (fun _ => ?_) <;> (try first | contradiction | (exfalso; omega)))
        | (refine wl_split (by rfl) (by rfl) (by rfl) (fun _ => ?_) (fun _ => ?_) <;> (fail_if_success contradiction))
        | refine wl_nil ?_
        | refine at_then_normal ?_
        | refine at_then_ret ?_
        | refine at_then_exit ?_
        | refine at_block_normal ?_
        | refine at_block_ret ?_
        | refine at_block_exit ?_
        | refine at_block_other (by rfl) ?_
        | refine wc_seq ?_
        | refine wc_region ?_
        | refine wc_block ?_
        | refine wc_skip ?_
        | refine wc_exit ?_
        | refine wc_ret ?_
        | refine at_ret1 (by rfl) (by rfl) ?_
        | refine wc_quiet (by kernel_rfl) ?_
        | (refine wq_nil ?_; intro _ hkq; replace hm := hm.kept0 hkq; clear hkq)
        | (refine wq_nil_tail ?_; intro _ hkq; replace hm := hm.kept0 hkq; clear hkq)
        | refine wc_cond_true (by rfl) ?_
        | refine wc_cond_false (by rfl) ?_
        | (refine wc_cond_dec (by rfl) (fun _ => ?_) (fun _ => ?_) <;> (try first | contradiction | (exfalso; omega)))
        | refine wc_cond (by rfl) (fun _ => ?_) (fun _ => ?_)
        | refine q_move (by rfl) (by rfl) (by rfl) ?_
        | refine q_assign (by rfl) (by rfl) (by rfl) ?_
        | refine q_pick_true (by rfl) (by rfl) (by rfl) (by rfl) ?_
        | refine q_pick_false (by rfl) (by rfl) (by rfl) (by rfl) ?_
        | refine q_lss (by rfl) (by rfl) (by rfl) (by rfl) ?_
        | refine q_leq (by rfl) (by rfl) (by rfl) (by rfl) ?_
        | refine q_eql (by rfl) (by rfl) (by rfl) (by rfl) ?_
        | refine q_eql_str (by rfl) (by rfl) (by rfl) (by rfl) ?_
        | refine q_eql_bool (by rfl) (by rfl) (by rfl) (by rfl) ?_
        | refine q_eql_flat (by rfl) (by rfl) (by rfl) (by rfl) (by rfl) (by rfl) ?_
        | refine q_len_str (by rfl) (by rfl) (by rfl) ?_
        | refine q_len_slice (by rfl) (by rfl) (by rfl) ?_
        | refine q_not (by rfl) (by rfl) (by rfl) ?_
        | refine q_nilCheck (by rfl) (by rfl) (by rfl) ?_
        | refine q_add (by rfl) (by rfl) (by rfl) (by rfl) (by omega) ?_
        | refine q_add_u8 (by rfl) (by rfl) (by rfl) (by rfl) (by omega) ?_
        | refine q_indexAddr_arr (by rfl) (by rfl) (by rfl) (by rfl) (by omega) (by omega) ?_
        | refine q_fieldAddr (by rfl) (by rfl) (by rfl) ?_
        | refine q_indexAddr (by rfl) (by rfl) (by rfl) (by rfl) (by omega) (by omega) ?_
        | refine q_load1 (by rfl) (by rfl) (by rfl) (by assumption) (by rfl) ?_
        | refine wq_skip (by rfl) (by rfl) (by rfl) ?_
        | (refine wq_split_dec (by rfl) (by rfl) (by rfl) (fun _ => ?_) (fun _ => ?_) <;> (try first | contradiction | (exfalso; omega)))
        | (refine wq_split (by rfl) (by rfl) (by rfl) (fun _ => ?_) (fun _ => ?_) <;> (fail_if_success contradiction)))
      all_goals try (exfalso; omega)
      exact at_cut (⟨0, I2, sa2, sp2, da2, dp2⟩ : FX) (by exact ⟨rfl, rfl, rfl, rfl, trivial⟩) ⟨hm, hleI2⟩
    · rw [if_neg k4] at hcr
      subst hcr
      repeat' (first
        | refine m_load1 hm (by rfl) (by rfl) (by rfl) (by first | exact gt0 | exact gt1 | exact gt2 | exact gt3 | exact gt4 | exact gt5 | exact gt6) (by rfl) ?_
        | refine i_load1 hm (by rfl) (by rfl) (by rfl) (by assumption) (by rfl) ?_
        | refine m_loadAll hm (by rfl) (by rfl) (by rfl) (by first | exact gt0 | exact gt1 | exact gt2 | exact gt3 | exact gt4 | exact gt5 | exact gt6) (by rfl) ?_
        | refine i_loadN hm (by rfl) (by rfl) (by rfl) (by assumption) (by rfl) ?_
        | refine i_load1z hm (by rfl) (by rfl) (by rfl) (by assumption) (by rfl) ?_
        | refine mq_load1 hm (by rfl) (by rfl) (by rfl) (by first | exact gt0 | exact gt1 | exact gt2 | exact gt3 | exact gt4 | exact gt5 | exact gt6) (by rfl) ?_
        | refine iq_load1 hm (by rfl) (by rfl) (by rfl) (by assumption) (by rfl) ?_
        | refine mq_loadAll hm (by rfl) (by rfl) (by rfl) (by first | exact gt0 | exact gt1 | exact gt2 | exact gt3 | exact gt4 | exact gt5 | exact gt6) (by rfl) ?_
        | refine iq_loadN hm (by rfl) (by rfl) (by rfl) (by assumption) (by rfl) ?_
        | refine iq_load1z hm (by rfl) (by rfl) (by rfl) (by assumption) (by rfl) ?_
        | (refine m_storeAll hm (by rfl) (by rfl) (by rfl) (by rfl) (by first | exact gt0 | exact gt1 | exact gt2 | exact gt3 | exact gt4 | exact gt5 | exact gt6) (by rfl) (by rfl) (by rfl) ?_; clear hm; intro _ hm; try simp only [setn] at hm)
        | (refine m_store1 hm (by rfl) (by rfl) (by rfl) (by rfl) (by first | exact gt0 | exact gt1 | exact gt2 | exact gt3 | exact gt4 | exact gt5 | exact gt6) (by rfl) (by rfl) (by rfl) ?_; clear hm; intro _ hm; try simp only [setn] at hm)
        | (refine m_storeN hm (by rfl) (by rfl) (by rfl) (by rfl) (by first | exact gt0 | exact gt1 | exact gt2 | exact gt3 | exact gt4 | exact gt5 | exact gt6) (by rfl) (by rfl) (by rfl) ?_; clear hm; intro _ hm; try simp only [setn] at hm)
        | refine m_ret_agg hm (by rfl) (by rfl) (by first | exact gt0 | exact gt1 | exact gt2 | exact gt3 | exact gt4 | exact gt5 | exact gt6) (by rfl) ?_
        | refine m_ret2_agg hm (by rfl) (by rfl) (by rfl) (by first | exact gt0 | exact gt1 | exact gt2 | exact gt3 | exact gt4 | exact gt5 | exact gt6) (by rfl) ?_
        | refine op_move (by rfl) (by rfl) (by rfl) ?_
        | refine op_assign (by rfl) (by rfl) (by rfl) ?_
        | refine op_pick_true (by rfl) (by rfl) (by rfl) (by rfl) ?_
        | refine op_pick_false (by rfl) (by rfl) (by rfl) (by rfl) ?_
        | refine op_lss (by rfl) (by rfl) (by rfl) (by rfl) ?_
        | refine op_leq (by rfl) (by rfl) (by rfl) (by rfl) ?_
        | refine op_eql (by rfl) (by rfl) (by rfl) (by rfl) ?_
        | refine op_eql_str (by rfl) (by rfl) (by rfl) (by rfl) ?_
        | refine op_eql_bool (by rfl) (by rfl) (by rfl) (by rfl) ?_
        | refine op_eql_flat (by rfl) (by rfl) (by rfl) (by rfl) (by rfl) (by rfl) ?_
        | refine op_len_str (by rfl) (by rfl) (by rfl) ?_
        | refine op_len_slice (by rfl) (by rfl) (by rfl) ?_
        | refine op_not (by rfl) (by rfl) (by rfl) ?_
        | refine op_nilCheck (by rfl) (by rfl) (by rfl) ?_
        | refine op_add (by rfl) (by rfl) (by rfl) (by rfl) (by omega) ?_
        | refine op_add_u8 (by rfl) (by rfl) (by rfl) (by rfl) (by omega) ?_
        | refine op_indexAddr_arr (by rfl) (by rfl) (by rfl) (by rfl) (by omega) (by omega) ?_
        | refine op_fieldAddr (by rfl) (by rfl) (by rfl) ?_
        | refine op_indexAddr (by rfl) (by rfl) (by rfl) (by rfl) (by omega) (by omega) ?_
        | refine op_load1 (by rfl) (by rfl) (by rfl) (by assumption) (by rfl) ?_
        | refine wl_skip (by rfl) (by rfl) (by rfl) ?_
        | (refine wl_split_dec (by rfl) (by rfl) (by rfl) (fun _ => ?_) (fun _ => ?_) <;> (try first | contradiction | (exfalso; omega)))
        | (refine wl_split (by rfl) (by rfl) (by rfl) (fun _ => ?_) (fun _ => ?_) <;> (fail_if_success contradiction))
        | refine wl_nil ?_
        | refine at_then_normal ?_
        | refine at_then_ret ?_
        | refine at_then_exit ?_
        | refine at_block_normal ?_
        | refine at_block_ret ?_
        | refine at_block_exit ?_
        | refine at_block_other (by rfl) ?_
        | refine wc_seq ?_
        | refine wc_region ?_
        | refine wc_block ?_
        | refine wc_skip ?_
        | refine wc_exit ?_
        | refine wc_ret ?_
        | refine at_ret1 (by rfl) (by rfl) ?_
        | refine wc_quiet (by kernel_rfl) ?_
        | (refine wq_nil ?_; intro _ hkq; replace hm := hm.kept0 hkq; clear hkq)
        | (refine wq_nil_tail ?_; intro _ hkq; replace hm := hm.kept0 hkq; clear hkq)
        | refine wc_cond_true (by rfl) ?_
        | refine wc_cond_false (by rfl) ?_
        | (refine wc_cond_dec (by rfl) (fun _ => ?_) (fun _ => ?_) <;> (try first | contradiction | (exfalso; omega)))
        | refine wc_cond (by rfl) (fun _ => ?_) (fun _ => ?_)
        | refine q_move (by rfl) (by rfl) (by rfl) ?_
        | refine q_assign (by rfl) (by rfl) (by rfl) ?_
        | refine q_pick_true (by rfl) (by rfl) (by rfl) (by rfl) ?_
        | refine q_pick_false (by rfl) (by rfl) (by rfl) (by rfl) ?_
        | refine q_lss (by rfl) (by rfl) (by rfl) (by rfl) ?_
        | refine q_leq (by rfl) (by rfl) (by rfl) (by rfl) ?_
        | refine q_eql (by rfl) (by rfl) (by rfl) (by rfl) ?_
        | refine q_eql_str (by rfl) (by rfl) (by rfl) (by rfl) ?_
        | refine q_eql_bool (by rfl) (by rfl) (by rfl) (by rfl) ?_
        | refine q_eql_flat (by rfl) (by rfl) (by rfl) (by rfl) (by rfl) (by rfl) ?_
        | refine q_len_str (by rfl) (by rfl) (by rfl) ?_
        | refine q_len_slice (by rfl) (by rfl) (by rfl) ?_
        | refine q_not (by rfl) (by rfl) (by rfl) ?_
        | refine q_nilCheck (by rfl) (by rfl) (by rfl) ?_
        | refine q_add (by rfl) (by rfl) (by rfl) (by rfl) (by omega) ?_
        | refine q_add_u8 (by rfl) (by rfl) (by rfl) (by rfl) (by omega) ?_
        | refine q_indexAddr_arr (by rfl) (by rfl) (by rfl) (by rfl) (by omega) (by omega) ?_
        | refine q_fieldAddr (by rfl) (by rfl) (by rfl) ?_
        | refine q_indexAddr (by rfl) (by rfl) (by rfl) (by rfl) (by omega) (by omega) ?_
        | refine q_load1 (by rfl) (by rfl) (by rfl) (by assumption) (by rfl) ?_
        | refine wq_skip (by rfl) (by rfl) (by rfl) ?_
        | (refine wq_split_dec (by rfl) (by rfl) (by rfl) (fun _ => ?_) (fun _ => ?_) <;> (try first | contradiction | (exfalso; omega)))
        | (refine wq_split (by rfl) (by rfl) (by rfl) (fun _ => ?_) (fun _ => ?_) <;> (fail_if_success contradiction)))
      all_goals try (exfalso; omega)
      exact at_cut (⟨0, I, sa, sp, da, dp⟩ : FX) (by exact ⟨rfl, rfl, rfl, rfl, trivial⟩) ⟨hm, Le.refl _⟩
  · clear hm
    rintro ⟨_, I1, sa1, sp1, da1, dp1⟩ w1 ⟨hm, hle1⟩
    dsimp only at hm hle1 ⊢
    have hp1 := hp.le hle1
    clear hcr hp hr hx
    cases hv : r.2.hv with
    | some m =>
      rw [Sp.hit_some hv]
      have e1 : r.2 = ⟨r.2.ds, some m⟩ := by rw [← hv]
      rw [e1] at hm ⊢
      repeat' (first
        | refine m_load1 hm (by rfl) (by rfl) (by rfl) (by first | exact gt0 | exact gt1 | exact gt2 | exact gt3 | exact gt4 | exact gt5 | exact gt6) (by rfl) ?_
        | refine i_load1 hm (by rfl) (by rfl) (by rfl) (by assumption) (by rfl) ?_
        | refine m_loadAll hm (by rfl) (by rfl) (by rfl) (by first | exact gt0 | exact gt1 | exact gt2 | exact gt3 | exact gt4 | exact gt5 | exact gt6) (by rfl) ?_
        | refine i_loadN hm (by rfl) (by rfl) (by rfl) (by assumption) (by rfl) ?_
        | refine i_load1z hm (by rfl) (by rfl) (by rfl) (by assumption) (by rfl) ?_
        | refine mq_load1 hm (by rfl) (by rfl) (by rfl) (by first | exact gt0 | exact gt1 | exact gt2 | exact gt3 | exact gt4 | exact gt5 | exact gt6) (by rfl) ?_
        | refine iq_load1 hm (by rfl) (by rfl) (by rfl) (by assumption) (by rfl) ?_
        | refine mq_loadAll hm (by rfl) (by rfl) (by rfl) (by first | exact gt0 | exact gt1 | exact gt2 | exact gt3 | exact gt4 | exact gt5 | exact gt6) (by rfl) ?_
        | refine iq_loadN hm (by rfl) (by rfl) (by rfl) (by assumption) (by rfl) ?_
        | refine iq_load1z hm (by rfl) (by rfl) (by rfl) (by assumption) (by rfl) ?_
        | (refine m_storeAll hm (by rfl) (by rfl) (by rfl) (by rfl) (by first | exact gt0 | exact gt1 | exact gt2 | exact gt3 | exact gt4 | exact gt5 | exact gt6) (by rfl) (by rfl) (by rfl) ?_; clear hm; intro _ hm; try simp only [setn] at hm)
        | (refine m_store1 hm (by rfl) (by rfl) (by rfl) (by rfl) (by first | exact gt0 | exact gt1 | exact gt2 | exact gt3 | exact gt4 | exact gt5 | exact gt6) (by rfl) (by rfl) (by rfl) ?_; clear hm; intro _ hm; try simp only [setn] at hm)
        | (refine m_storeN hm (by rfl) (by rfl) (by rfl) (by rfl) (by first | exact gt0 | exact gt1 | exact gt2 | exact gt3 | exact gt4 | exact gt5 | exact gt6) (by rfl) (by rfl) (by rfl) ?_; clear hm; intro _ hm; try simp only [setn] at hm)
        | refine m_ret_agg hm (by rfl) (by rfl) (by first | exact gt0 | exact gt1 | exact gt2 | exact gt3 | exact gt4 | exact gt5 | exact gt6) (by rfl) ?_
        | refine m_ret2_agg hm (by rfl) (by rfl) (by rfl) (by first | exact gt0 | exact gt1 | exact gt2 | exact gt3 | exact gt4 | exact gt5 | exact gt6) (by rfl) ?_
        | refine op_move (by rfl) (by rfl) (by rfl) ?_
        | refine op_assign (by rfl) (by rfl) (by rfl) ?_
        | refine op_pick_true (by rfl) (by rfl) (by rfl) (by rfl) ?_
        | refine op_pick_false (by rfl) (by rfl) (by rfl) (by rfl) ?_
        | refine op_lss (by rfl) (by rfl) (by rfl) (by rfl) ?_
        | refine op_leq (by rfl) (by rfl) (by rfl) (by rfl) ?_
        | refine op_eql (by rfl) (by rfl) (by rfl) (by rfl) ?_
        | refine op_eql_str (by rfl) (by rfl) (by rfl) (by rfl) ?_
        | refine op_eql_bool (by rfl) (by rfl) (by rfl) (by rfl) ?_
        | refine op_eql_flat (by rfl) (by rfl) (by rfl) (by rfl) (by rfl) (by rfl) ?_
        | refine op_len_str (by rfl) (by rfl) (by rfl) ?_
        | refine op_len_slice (by rfl) (by rfl) (by rfl) ?_
        | refine op_not (by rfl) (by rfl) (by rfl) ?_
        | refine op_nilCheck (by rfl) (by rfl) (by rfl) ?_
        | refine op_add (by rfl) (by rfl) (by rfl) (by rfl) (by omega) ?_
        | refine op_add_u8 (by rfl) (by rfl) (by rfl) (by rfl) (by omega) ?_
        | refine op_indexAddr_arr (by rfl) (by rfl) (by rfl) (by rfl) (by omega) (by omega) ?_
        | refine op_fieldAddr (by rfl) (by rfl) (by rfl) ?_
        | refine op_indexAddr (by rfl) (by rfl) (by rfl) (by rfl) (by omega) (by omega) ?_
        | refine op_load1 (by rfl) (by rfl) (by rfl) (by assumption) (by rfl) ?_
        | refine wl_skip (by rfl) (by rfl) (by rfl) ?_
        | (refine wl_split_dec (by rfl) (by rfl) (by rfl) (fun _ => ?_) (fun _ => ?_) <;> (try first | contradiction | (exfalso; omega)))
        | (refine wl_split (by rfl) (by rfl) (by rfl) (fun _ => ?_) (fun _ => ?_) <;> (fail_if_success contradiction))
        | refine wl_nil ?_
        | refine at_then_normal ?_
        | refine at_then_ret ?_
        | refine at_then_exit ?_
        | refine at_block_normal ?_
        | refine at_block_ret ?_
        | refine at_block_exit ?_
        | refine at_block_other (by rfl) ?_
        | refine wc_seq ?_
        | refine wc_region ?_
        | refine wc_block ?_
        | refine wc_skip ?_
        | refine wc_exit ?_
        | refine wc_ret ?_
        | refine at_ret1 (by rfl) (by rfl) ?_
        | refine wc_quiet (by kernel_rfl) ?_
        | (refine wq_nil ?_; intro _ hkq; replace hm := hm.kept0 hkq; clear hkq)
        | (refine wq_nil_tail ?_; intro _ hkq; replace hm := hm.kept0 hkq; clear hkq)
        | refine wc_cond_true (by rfl) ?_
        | refine wc_cond_false (by rfl) ?_
        | (refine wc_cond_dec (by rfl) (fun _ => ?_) (fun _ => ?_) <;> (try first | contradiction | (exfalso; omega)))
        | refine wc_cond (by rfl) (fun _ => ?_) (fun _ => ?_)
        | refine q_move (by rfl) (by rfl) (by rfl) ?_
        | refine q_assign (by rfl) (by rfl) (by rfl) ?_
        | refine q_pick_true (by rfl) (by rfl) (by rfl) (by rfl) ?_
        | refine q_pick_false (by rfl) (by rfl) (by rfl) (by rfl) ?_
        | refine q_lss (by rfl) (by rfl) (by rfl) (by rfl) ?_
        | refine q_leq (by rfl) (by rfl) (by rfl) (by rfl) ?_
        | refine q_eql (by rfl) (by rfl) (by rfl) (by rfl) ?_
        | refine q_eql_str (by rfl) (by rfl) (by rfl) (by rfl) ?_
        | refine q_eql_bool (by rfl) (by rfl) (by rfl) (by rfl) ?_
        | refine q_eql_flat (by rfl) (by rfl) (by rfl) (by rfl) (by rfl) (by rfl) ?_
        | refine q_len_str (by rfl) (by rfl) (by rfl) ?_
        | refine q_len_slice (by rfl) (by rfl) (by rfl) ?_
        | refine q_not (by rfl) (by rfl) (by rfl) ?_
        | refine q_nilCheck (by rfl) (by rfl) (by rfl) ?_
        | refine q_add (by rfl) (by rfl) (by rfl) (by rfl) (by omega) ?_
        | refine q_add_u8 (by rfl) (by rfl) (by rfl) (by rfl) (by omega) ?_
        | refine q_indexAddr_arr (by rfl) (by rfl) (by rfl) (by rfl) (by omega) (by omega) ?_
        | refine q_fieldAddr (by rfl) (by rfl) (by rfl) ?_
        | refine q_indexAddr (by rfl) (by rfl) (by rfl) (by rfl) (by omega) (by omega) ?_
        | refine q_load1 (by rfl) (by rfl) (by rfl) (by assumption) (by rfl) ?_
        | refine wq_skip (by rfl) (by rfl) (by rfl) ?_
        | (refine wq_split_dec (by rfl) (by rfl) (by rfl) (fun _ => ?_) (fun _ => ?_) <;> (try first | contradiction | (exfalso; omega)))
        | (refine wq_split (by rfl) (by rfl) (by rfl) (fun _ => ?_) (fun _ => ?_) <;> (fail_if_success contradiction)))
      all_goals try (exfalso; omega)
      exact ⟨I1, _, ⟨rfl, _, _, _, _, rfl⟩, hm⟩
    | none =>
      have e1 : r.2 = ⟨r.2.ds, none⟩ := by rw [← hv]
      by_cases hh : (e.fr : Int) ≤ at_ ∧ at_ < e.to
      · rw [Sp.hit_pos hv hh.1 hh.2]
        rw [e1] at hm
        repeat' (first
          | (refine op_call (d := 80) (by rfl) (by rfl) (by rfl) (by exact c_join _ _ hlt hun _) ?_; rintro _ _ ⟨rfl, rfl⟩)
          | refine m_load1 hm (by rfl) (by rfl) (by rfl) (by first | exact gt0 | exact gt1 | exact gt2 | exact gt3 | exact gt4 | exact gt5 | exact gt6) (by rfl) ?_
          | refine i_load1 hm (by rfl) (by rfl) (by rfl) (by assumption) (by rfl) ?_
          | refine m_loadAll hm (by rfl) (by rfl) (by rfl) (by first | exact gt0 | exact gt1 | exact gt2 | exact gt3 | exact gt4 | exact gt5 | exact gt6) (by rfl) ?_
          | refine i_loadN hm (by rfl) (by rfl) (by rfl) (by assumption) (by rfl) ?_
          | refine i_load1z hm (by rfl) (by rfl) (by rfl) (by assumption) (by rfl) ?_
          | refine mq_load1 hm (by rfl) (by rfl) (by rfl) (by first | exact gt0 | exact gt1 | exact gt2 | exact gt3 | exact gt4 | exact gt5 | exact gt6) (by rfl) ?_
          | refine iq_load1 hm (by rfl) (by rfl) (by rfl) (by assumption) (by rfl) ?_
          | refine mq_loadAll hm (by rfl) (by rfl) (by rfl) (by first | exact gt0 | exact gt1 | exact gt2 | exact gt3 | exact gt4 | exact gt5 | exact gt6) (by rfl) ?_
          | refine iq_loadN hm (by rfl) (by rfl) (by rfl) (by assumption) (by rfl) ?_
          | refine iq_load1z hm (by rfl) (by rfl) (by rfl) (by assumption) (by rfl) ?_
          | (refine m_storeAll hm (by rfl) (by rfl) (by rfl) (by rfl) (by first | exact gt0 | exact gt1 | exact gt2 | exact gt3 | exact gt4 | exact gt5 | exact gt6) (by rfl) (by rfl) (by rfl) ?_; clear hm; intro _ hm; try simp only [setn] at hm)
          | (refine m_store1 hm (by rfl) (by rfl) (by rfl) (by rfl) (by first | exact gt0 | exact gt1 | exact gt2 | exact gt3 | exact gt4 | exact gt5 | exact gt6) (by rfl) (by rfl) (by rfl) ?_; clear hm; intro _ hm; try simp only [setn] at hm)
          | (refine m_storeN hm (by rfl) (by rfl) (by rfl) (by rfl) (by first | exact gt0 | exact gt1 | exact gt2 | exact gt3 | exact gt4 | exact gt5 | exact gt6) (by rfl) (by rfl) (by rfl) ?_; clear hm; intro _ hm; try simp only [setn] at hm)
          | refine m_ret_agg hm (by rfl) (by rfl) (by first | exact gt0 | exact gt1 | exact gt2 | exact gt3 | exact gt4 | exact gt5 | exact gt6) (by rfl) ?_
          | refine m_ret2_agg hm (by rfl) (by rfl) (by rfl) (by first | exact gt0 | exact gt1 | exact gt2 | exact gt3 | exact gt4 | exact gt5 | exact gt6) (by rfl) ?_
          | refine op_move (by rfl) (by rfl) (by rfl) ?_
          | refine op_assign (by rfl) (by rfl) (by rfl) ?_
          | refine op_pick_true (by rfl) (by rfl) (by rfl) (by rfl) ?_
          | refine op_pick_false (by rfl) (by rfl) (by rfl) (by rfl) ?_
          | refine op_lss (by rfl) (by rfl) (by rfl) (by rfl) ?_
          | refine op_leq (by rfl) (by rfl) (by rfl) (by rfl) ?_
          | refine op_eql (by rfl) (by rfl) (by rfl) (by rfl) ?_
          | refine op_eql_str (by rfl) (by rfl) (by rfl) (by rfl) ?_
          | refine op_eql_bool (by rfl) (by rfl) (by rfl) (by rfl) ?_
          | refine op_eql_flat (by rfl) (by rfl) (by rfl) (by rfl) (by rfl) (by rfl) ?_
          | refine op_len_str (by rfl) (by rfl) (by rfl) ?_
          | refine op_len_slice (by rfl) (by rfl) (by rfl) ?_
          | refine op_not (by rfl) (by rfl) (by rfl) ?_
          | refine op_nilCheck (by rfl) (by rfl) (by rfl) ?_
          | refine op_add (by rfl) (by rfl) (by rfl) (by rfl) (by omega) ?_
          | refine op_add_u8 (by rfl) (by rfl) (by rfl) (by rfl) (by omega) ?_
          | refine op_indexAddr_arr (by rfl) (by rfl) (by rfl) (by rfl) (by omega) (by omega) ?_
          | refine op_fieldAddr (by rfl) (by rfl) (by rfl) ?_
          | refine op_indexAddr (by rfl) (by rfl) (by rfl) (by rfl) (by omega) (by omega) ?_
          | refine op_load1 (by rfl) (by rfl) (by rfl) (by assumption) (by rfl) ?_
          | refine wl_skip (by rfl) (by rfl) (by rfl) ?_
          | (refine wl_split_dec (by rfl) (by rfl) (by rfl) (fun _ => ?_) (fun _ => ?_) <;> (try first | contradiction | (exfalso; omega)))
          | (refine wl_split (by rfl) (by rfl) (by rfl) (fun _ => ?_) (fun _ => ?_) <;> (fail_if_success contradiction))
          | refine wl_nil ?_
          | refine at_then_normal ?_
          | refine at_then_ret ?_
          | refine at_then_exit ?_
          | refine at_block_normal ?_
          | refine at_block_ret ?_
          | refine at_block_exit ?_
          | refine at_block_other (by rfl) ?_
          | refine wc_seq ?_
          | refine wc_region ?_
          | refine wc_block ?_
          | refine wc_skip ?_
          | refine wc_exit ?_
          | refine wc_ret ?_
          | refine at_ret1 (by rfl) (by rfl) ?_
          | refine wc_quiet (by kernel_rfl) ?_
          | (refine wq_nil ?_; intro _ hkq; replace hm := hm.kept0 hkq; clear hkq)
          | (refine wq_nil_tail ?_; intro _ hkq; replace hm := hm.kept0 hkq; clear hkq)
          | refine wc_cond_true (by rfl) ?_
          | refine wc_cond_false (by rfl) ?_
          | (refine wc_cond_dec (by rfl) (fun _ => ?_) (fun _ => ?_) <;> (try first | contradiction | (exfalso; omega)))
          | refine wc_cond (by rfl) (fun _ => ?_) (fun _ => ?_)
          | refine q_move (by rfl) (by rfl) (by rfl) ?_
          | refine q_assign (by rfl) (by rfl) (by rfl) ?_
          | refine q_pick_true (by rfl) (by rfl) (by rfl) (by rfl) ?_
          | refine q_pick_false (by rfl) (by rfl) (by rfl) (by rfl) ?_
          | refine q_lss (by rfl) (by rfl) (by rfl) (by rfl) ?_
          | refine q_leq (by rfl) (by rfl) (by rfl) (by rfl) ?_
          | refine q_eql (by rfl) (by rfl) (by rfl) (by rfl) ?_
          | refine q_eql_str (by rfl) (by rfl) (by rfl) (by rfl) ?_
          | refine q_eql_bool (by rfl) (by rfl) (by rfl) (by rfl) ?_
          | refine q_eql_flat (by rfl) (by rfl) (by rfl) (by rfl) (by rfl) (by rfl) ?_
          | refine q_len_str (by rfl) (by rfl) (by rfl) ?_
          | refine q_len_slice (by rfl) (by rfl) (by rfl) ?_
          | refine q_not (by rfl) (by rfl) (by rfl) ?_
          | refine q_nilCheck (by rfl) (by rfl) (by rfl) ?_
          | refine q_add (by rfl) (by rfl) (by rfl) (by rfl) (by omega) ?_
          | refine q_add_u8 (by rfl) (by rfl) (by rfl) (by rfl) (by omega) ?_
          | refine q_indexAddr_arr (by rfl) (by rfl) (by rfl) (by rfl) (by omega) (by omega) ?_
          | refine q_fieldAddr (by rfl) (by rfl) (by rfl) ?_
          | refine q_indexAddr (by rfl) (by rfl) (by rfl) (by rfl) (by omega) (by omega) ?_
          | refine q_load1 (by rfl) (by rfl) (by rfl) (by assumption) (by rfl) ?_
          | refine wq_skip (by rfl) (by rfl) (by rfl) ?_
          | (refine wq_split_dec (by rfl) (by rfl) (by rfl) (fun _ => ?_) (fun _ => ?_) <;> (try first | contradiction | (exfalso; omega)))
          | (refine wq_split (by rfl) (by rfl) (by rfl) (fun _ => ?_) (fun _ => ?_) <;> (fail_if_success contradiction)))
        all_goals try (exfalso; omega)
        exact ⟨I1, _, ⟨rfl, _, _, _, _, rfl⟩, hm⟩
      · rw [Sp.hit_neg hh]
        rw [e1] at hm ⊢
        repeat' (first
          | refine m_load1 hm (by rfl) (by rfl) (by rfl) (by first | exact gt0 | exact gt1 | exact gt2 | exact gt3 | exact gt4 | exact gt5 | exact gt6) (by rfl) ?_
          | refine i_load1 hm (by rfl) (by rfl) (by rfl) (by assumption) (by rfl) ?_
          | refine m_loadAll hm (by rfl) (by rfl) (by rfl) (by first | exact gt0 | exact gt1 | exact gt2 | exact gt3 | exact gt4 | exact gt5 | exact gt6) (by rfl) ?_
          | refine i_loadN hm (by rfl) (by rfl) (by rfl) (by assumption) (by rfl) ?_
          | refine i_load1z hm (by rfl) (by rfl) (by rfl) (by assumption) (by rfl) ?_
          | refine mq_load1 hm (by rfl) (by rfl) (by rfl) (by first | exact gt0 | exact gt1 | exact gt2 | exact gt3 | exact gt4 | exact gt5 | exact gt6) (by rfl) ?_
          | refine iq_load1 hm (by rfl) (by rfl) (by rfl) (by assumption) (by rfl) ?_
          | refine mq_loadAll hm (by rfl) (by rfl) (by rfl) (by first | exact gt0 | exact gt1 | exact gt2 | exact gt3 | exact gt4 | exact gt5 | exact gt6) (by rfl) ?_
          | refine iq_loadN hm (by rfl) (by rfl) (by rfl) (by assumption) (by rfl) ?_
          | refine iq_load1z hm (by rfl) (by rfl) (by rfl) (by assumption) (by rfl) ?_
          | (refine m_storeAll hm (by rfl) (by rfl) (by rfl) (by rfl) (by first | exact gt0 | exact gt1 | exact gt2 | exact gt3 | exact gt4 | exact gt5 | exact gt6) (by rfl) (by rfl) (by rfl) ?_; clear hm; intro _ hm; try simp only [setn] at hm)
          | (refine m_store1 hm (by rfl) (by rfl) (by rfl) (by rfl) (by first | exact gt0 | exact gt1 | exact gt2 | exact gt3 | exact gt4 | exact gt5 | exact gt6) (by rfl) (by rfl) (by rfl) ?_; clear hm; intro _ hm; try simp only [setn] at hm)
          | (refine m_storeN hm (by rfl) (by rfl) (by rfl) (by rfl) (by first | exact gt0 | exact gt1 | exact gt2 | exact gt3 | exact gt4 | exact gt5 | exact gt6) (by rfl) (by rfl) (by rfl) ?_; clear hm; intro _ hm; try simp only [setn] at hm)
          | refine m_ret_agg hm (by rfl) (by rfl) (by first | exact gt0 | exact gt1 | exact gt2 | exact gt3 | exact gt4 | exact gt5 | exact gt6) (by rfl) ?_
          | refine m_ret2_agg hm (by rfl) (by rfl) (by rfl) (by first | exact gt0 | exact gt1 | exact gt2 | exact gt3 | exact gt4 | exact gt5 | exact gt6) (by rfl) ?_
          | refine op_move (by rfl) (by rfl) (by rfl) ?_
          | refine op_assign (by rfl) (by rfl) (by rfl) ?_
          | refine op_pick_true (by rfl) (by rfl) (by rfl) (by rfl) ?_
          | refine op_pick_false (by rfl) (by rfl) (by rfl) (by rfl) ?_
          | refine op_lss (by rfl) (by rfl) (by rfl) (by rfl) ?_
          | refine op_leq (by rfl) (by rfl) (by rfl) (by rfl) ?_
          | refine op_eql (by rfl) (by rfl) (by rfl) (by rfl) ?_
          | refine op_eql_str (by rfl) (by rfl) (by rfl) (by rfl) ?_
          | refine op_eql_bool (by rfl) (by rfl) (by rfl) (by rfl) ?_
          | refine op_eql_flat (by rfl) (by rfl) (by rfl) (by rfl) (by rfl) (by rfl) ?_
          | refine op_len_str (by rfl) (by rfl) (by rfl) ?_
          | refine op_len_slice (by rfl) (by rfl) (by rfl) ?_
          | refine op_not (by rfl) (by rfl) (by rfl) ?_
          | refine op_nilCheck (by rfl) (by rfl) (by rfl) ?_
          | refine op_add (by rfl) (by rfl) (by rfl) (by rfl) (by omega) ?_
          | refine op_add_u8 (by rfl) (by rfl) (by rfl) (by rfl) (by omega) ?_
          | refine op_indexAddr_arr (by rfl) (by rfl) (by rfl) (by rfl) (by omega) (by omega) ?_
          | refine op_fieldAddr (by rfl) (by rfl) (by rfl) ?_
          | refine op_indexAddr (by rfl) (by rfl) (by rfl) (by rfl) (by omega) (by omega) ?_
          | refine op_load1 (by rfl) (by rfl) (by rfl) (by assumption) (by rfl) ?_
          | refine wl_skip (by rfl) (by rfl) (by rfl) ?_
          | (refine wl_split_dec (by rfl) (by rfl) (by rfl) (fun _ => ?_) (fun _ => ?_) <;> (try first | contradiction | (exfalso; omega)))
          | (refine wl_split (by rfl) (by rfl) (by rfl) (fun _ => ?_) (fun _ => ?_) <;> (fail_if_success contradiction))
          | refine wl_nil ?_
          | refine at_then_normal ?_
          | refine at_then_ret ?_
          | refine at_then_exit ?_
          | refine at_block_normal ?_
          | refine at_block_ret ?_
          | refine at_block_exit ?_
          | refine at_block_other (by rfl) ?_
          | refine wc_seq ?_
          | refine wc_region ?_
          | refine wc_block ?_
          | refine wc_skip ?_
          | refine wc_exit ?_
          | refine wc_ret ?_
          | refine at_ret1 (by rfl) (by rfl) ?_
          | refine wc_quiet (by kernel_rfl) ?_
          | (refine wq_nil ?_; intro _ hkq; replace hm := hm.kept0 hkq; clear hkq)
          | (refine wq_nil_tail ?_; intro _ hkq; replace hm := hm.kept0 hkq; clear hkq)
          | refine wc_cond_true (by rfl) ?_
          | refine wc_cond_false (by rfl) ?_
          | (refine wc_cond_dec (by rfl) (fun _ => ?_) (fun _ => ?_) <;> (try first | contradiction | (exfalso; omega)))
          | refine wc_cond (by rfl) (fun _ => ?_) (fun _ => ?_)
          | refine q_move (by rfl) (by rfl) (by rfl) ?_
          | refine q_assign (by rfl) (by rfl) (by rfl) ?_
          | refine q_pick_true (by rfl) (by rfl) (by rfl) (by rfl) ?_
          | refine q_pick_false (by rfl) (by rfl) (by rfl) (by rfl) ?_
          | refine q_lss (by rfl) (by rfl) (by rfl) (by rfl) ?_
          | refine q_leq (by rfl) (by rfl) (by rfl) (by rfl) ?_
          | refine q_eql (by rfl) (by rfl) (by rfl) (by rfl) ?_
          | refine q_eql_str (by rfl) (by rfl) (by rfl) (by rfl) ?_
          | refine q_eql_bool (by rfl) (by rfl) (by rfl) (by rfl) ?_
          | refine q_eql_flat (by rfl) (by rfl) (by rfl) (by rfl) (by rfl) (by rfl) ?_
          | refine q_len_str (by rfl) (by rfl) (by rfl) ?_
          | refine q_len_slice (by rfl) (by rfl) (by rfl) ?_
          | refine q_not (by rfl) (by rfl) (by rfl) ?_
          | refine q_nilCheck (by rfl) (by rfl) (by rfl) ?_
          | refine q_add (by rfl) (by rfl) (by rfl) (by rfl) (by omega) ?_
          | refine q_add_u8 (by rfl) (by rfl) (by rfl) (by rfl) (by omega) ?_
          | refine q_indexAddr_arr (by rfl) (by rfl) (by rfl) (by rfl) (by omega) (by omega) ?_
          | refine q_fieldAddr (by rfl) (by rfl) (by rfl) ?_
          | refine q_indexAddr (by rfl) (by rfl) (by rfl) (by rfl) (by omega) (by omega) ?_
          | refine q_load1 (by rfl) (by rfl) (by rfl) (by assumption) (by rfl) ?_
          | refine wq_skip (by rfl) (by rfl) (by rfl) ?_
          | (refine wq_split_dec (by rfl) (by rfl) (by rfl) (fun _ => ?_) (fun _ => ?_) <;> (try first | contradiction | (exfalso; omega)))
          | (refine wq_split (by rfl) (by rfl) (by rfl) (fun _ => ?_) (fun _ => ?_) <;> (fail_if_success contradiction)))
        all_goals try (exfalso; omega)
        all_goals exact ⟨I1, _, ⟨rfl, _, _, _, _, rfl⟩, hm⟩
end
end Go.Proofs.YtkbiakajlfmakaaDoor
end
