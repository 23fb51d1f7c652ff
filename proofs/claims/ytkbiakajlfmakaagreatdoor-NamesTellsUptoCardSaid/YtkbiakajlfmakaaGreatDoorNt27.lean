/- Own work: texts RnF, NsI, NsJ, LawNu, EqUs, one behind the other. -/
import Derived.Test.YtkbiakajlfmakaaGreatDoorNt26
section
namespace Go.Proofs.YtkbiakajlfmakaaGreatDoor
open Go.Fw
section
variable {src : List UInt8} {its : List Sp.Itm} {a : Option Addr} {cp : Nat} {xs : List Value}
set_option maxHeartbeats 32000000 in
theorem r_uses (I : Imm) (h : FE I its a cp xs) (hlen : src.length ≤ 4000) (hN : ∀ x ∈ its, Sp.ItN src x) :
    CalM Tryz.prog 13 #[.agg [.slice a its.length cp].toArray] I [] (fun v I' H' => H' = [] ∧ ∃ ua up, v = .slice ua (Sp.usesN its).length up ∧ RowI I' 39 3 (.slice ua (Sp.usesN its).length up) (Sp.usesN its).length ((Sp.usesN its).flatMap encUs)) := by
  refine CalM.of fun w E hm => enter (N := 21) Tryz.func13 rfl [(0, .agg [.slice a its.length cp].toArray)] args1 rfl ?_
  have hfew := h.few
  repeat' (first
  | (refine m_box (d:=1) hm (k:=?_); clear hm; intro b1 _ hm)
  | (refine m_push (d:=18) hm (k:=?_); clear hm; intro a18 cp18 _ _ hm; try simp only [setn] at hm)
  | refine m_load1 hm (k:=?_)
  | refine i_load1 hm (k:=?_)
  | refine m_loadAll hm (k:=?_)
  | refine i_loadN hm (k:=?_)
  | refine i_load1z hm (k:=?_)
  | refine m_ret_agg hm (h:=?_)
  | refine m_ret2_agg hm (h:=?_)
  | refine op_move (k:=?_)
  | refine op_assign (k:=?_)
  | refine op_lss (k:=?_)
  | refine op_len_str (k:=?_)
  | refine op_len_slice (k:=?_)
  | refine op_nilCheck (k:=?_)
  | refine op_add (k:=?_)
  | refine op_add_u8 (k:=?_)
  | refine op_fieldAddr (k:=?_)
  | refine op_load1 (k:=?_)
  | refine wl_nil ?_
  | refine at_then_normal ?_
  | refine at_then_ret ?_
  | refine at_then_exit ?_
  | refine at_block_normal ?_
  | refine at_block_ret ?_
  | refine at_block_exit ?_
  | refine at_block_other (h:=?_)
  | refine wc_seq ?_
  | refine wc_region ?_
  | refine wc_block ?_
  | refine wc_skip ?_
  | refine wc_exit ?_
  | refine wc_ret ?_
  | refine at_ret1 (h:=?_)
  | refine wc_cond_true (ht:=?_)
  | refine wc_cond_false (hf:=?_)
  | (refine wc_cond_dec (ht:=fun _ => ?_) (hf:=fun _ => ?_)<;> (try first | contradiction | (exfalso; omega)))
  | refine wc_cond (ht:=fun _ => ?_) (hf:=fun _ => ?_))
  all_goals try (exfalso; omega)
  obtain ⟨I2, hle2, hm2, hpf⟩ := hm.freezeO
  clear hm
  have hm := hm2
  clear hm2
  refine wc_loop (fun x : RX => [(1, ptr b1), (3, .slice x.ua (Sp.usesTo its x.k).length x.up), (7, nt its.length), (8, nt x.k)])
    (fun x w' => Mem E x.I [.row (.slice x.ua (Sp.usesTo its x.k).length x.up) 39 3 (Sp.usesTo its x.k).length ((Sp.usesTo its x.k).flatMap encUs)] w' ∧ Le I2 x.I ∧ x.k ≤ its.length ∧ (Sp.usesTo its x.k).length ≤ x.k * 900000000) (fun x => its.length - x.k) ⟨0, I2, none, 0, none, 0⟩
    (by exact ⟨rfl, rfl, rfl, rfl, trivial⟩) ⟨hm.nil 39 3, Le.refl _, Nat.zero_le _, Nat.zero_le _⟩ ?_
  clear hm
  rintro ⟨k, I3, _, _, ua1, up1⟩ w1 ⟨hm, hle3, hk, hn⟩
  dsimp only at hm hle3 hk hn ⊢
  have hpf3 := hpf.le hle3
  by_cases hlt : k < its.length
  · have hus := Sp.usesTo_succ its k
    have hwn := Sp.walk_few hN hlt
    have hwl : (Sp.walkN its k).us.length ≤ (Sp.walkN its k).n := by rw [Sp.NW.n]; omega
    have hc := r_look k hlt I3 ((h.le hle2).le hle3) hlen hN
    unfold LookI at hc
    generalize Sp.usesTo its k = us at hm hn hus ⊢
    generalize Sp.walkN its k = r at hc hus hwn hwl
    repeat' (first
    | (refine m_call (d:=14) hm (hp:=pm0) (hc:=hc) (k:=?_); clear hm; rintro _ I4 _ _ ⟨rfl, bc, da, dp, ua, up, rfl, hobj, hdr, husr⟩ hleI4 hm; try simp only [setn] at hm)
    | (refine m_appendI (d:=18) hm (hr:=husr) (h1:=us_one _) (k:=?_); clear hm; intro a17 cp17 _ hm; try simp only [setn] at hm)
    | (refine m_box (d:=1) hm (k:=?_); clear hm; intro b1 _ hm)
    | (refine m_push (d:=18) hm (k:=?_); clear hm; intro a18 cp18 _ _ hm; try simp only [setn] at hm)
    | refine m_load1 hm (k:=?_)
    | refine i_load1 hm (k:=?_)
    | refine m_loadAll hm (k:=?_)
    | refine i_loadN hm (k:=?_)
    | refine i_load1z hm (k:=?_)
    | refine m_ret_agg hm (h:=?_)
    | refine m_ret2_agg hm (h:=?_)
    | refine op_move (k:=?_)
    | refine op_assign (k:=?_)
    | refine op_lss (k:=?_)
    | refine op_len_str (k:=?_)
    | refine op_len_slice (k:=?_)
    | refine op_nilCheck (k:=?_)
    | refine op_add (k:=?_)
    | refine op_add_u8 (k:=?_)
    | refine op_fieldAddr (k:=?_)
    | refine op_load1 (k:=?_)
    | refine wl_nil ?_
    | refine at_then_normal ?_
    | refine at_then_ret ?_
    | refine at_then_exit ?_
    | refine at_block_normal ?_
    | refine at_block_ret ?_
    | refine at_block_exit ?_
    | refine at_block_other (h:=?_)
    | refine wc_seq ?_
    | refine wc_region ?_
    | refine wc_block ?_
    | refine wc_skip ?_
    | refine wc_exit ?_
    | refine wc_ret ?_
    | refine at_ret1 (h:=?_)
    | refine wc_cond_true (ht:=?_)
    | refine wc_cond_false (hf:=?_)
    | (refine wc_cond_dec (ht:=fun _ => ?_) (hf:=fun _ => ?_)<;> (try first | contradiction | (exfalso; omega)))
    | refine wc_cond (ht:=fun _ => ?_) (hf:=fun _ => ?_))
    all_goals try (exfalso; omega)
    refine at_round (⟨k + 1, I4, none, 0, a17, cp17⟩ : RX) (by exact ⟨rfl, by rw [hus, List.length_append]; rfl, rfl, rfl, trivial⟩) ⟨?_, hle3.trans hleI4, by dsimp only; omega, by dsimp only; rw [hus, List.length_append]; omega⟩ (by dsimp only; omega)
    dsimp only
    rw [hus, List.length_append, List.flatMap_append]
    exact hm
  · obtain rfl : k = its.length := by omega
    repeat' (first
    | (refine m_box (d:=1) hm (k:=?_); clear hm; intro b1 _ hm)
    | (refine m_push (d:=18) hm (k:=?_); clear hm; intro a18 cp18 _ _ hm; try simp only [setn] at hm)
    | refine m_load1 hm (k:=?_)
    | refine i_load1 hm (k:=?_)
    | refine m_loadAll hm (k:=?_)
    | refine i_loadN hm (k:=?_)
    | refine i_load1z hm (k:=?_)
    | refine m_ret_agg hm (h:=?_)
    | refine m_ret2_agg hm (h:=?_)
    | refine op_move (k:=?_)
    | refine op_assign (k:=?_)
    | refine op_lss (k:=?_)
    | refine op_len_str (k:=?_)
    | refine op_len_slice (k:=?_)
    | refine op_nilCheck (k:=?_)
    | refine op_add (k:=?_)
    | refine op_add_u8 (k:=?_)
    | refine op_fieldAddr (k:=?_)
    | refine op_load1 (k:=?_)
    | refine wl_nil ?_
    | refine at_then_normal ?_
    | refine at_then_ret ?_
    | refine at_then_exit ?_
    | refine at_block_normal ?_
    | refine at_block_ret ?_
    | refine at_block_exit ?_
    | refine at_block_other (h:=?_)
    | refine wc_seq ?_
    | refine wc_region ?_
    | refine wc_block ?_
    | refine wc_skip ?_
    | refine wc_exit ?_
    | refine wc_ret ?_
    | refine at_ret1 (h:=?_)
    | refine wc_cond_true (ht:=?_)
    | refine wc_cond_false (hf:=?_)
    | (refine wc_cond_dec (ht:=fun _ => ?_) (hf:=fun _ => ?_)<;> (try first | contradiction | (exfalso; omega)))
    | refine wc_cond (ht:=fun _ => ?_) (hf:=fun _ => ?_))
    all_goals try (exfalso; omega)
    obtain ⟨I4, hle4, hm4, hrow⟩ := hm.freeze
    exact ⟨I4, [], ⟨rfl, _, _, rfl, hrow⟩, hm4.left (H := [])⟩
end
theorem eqDg0 (z : Sp.Dg) : eqCells (encDg z) (encDg z) = true := by
  obtain ⟨a, b, c, d⟩ := z
  simp [encDg, eqCells, eqCell]
set_option maxHeartbeats 8000000 in
theorem r_same {I : Imm} {l : List Sp.Dg} {a b : Option Addr} {c d : Nat} (hr : RowI I 65 4 (.slice a l.length c) l.length (l.flatMap encDg)) (hr2 : RowI I 65 4 (.slice b l.length d) l.length (l.flatMap encDg)) (hl : l.length ≤ 1099511627776) :
    CalM Tryz.prog 9 #[.slice a l.length c, .slice b l.length d] I [] (fun v _ H' => v = .bool true ∧ H' = []) := by
  refine CalM.of fun w E hm => enter (N := 26) Tryz.func9 rfl [(0, .slice a l.length c), (1, .slice b l.length d)] args2 rfl ?_
  repeat' (first
  | refine m_load1 hm (k:=?_)
  | refine i_load1 hm (k:=?_)
  | refine m_loadAll hm (k:=?_)
  | refine i_loadN hm (k:=?_)
  | refine i_load1z hm (k:=?_)
  | refine mq_load1 hm (k:=?_)
  | refine iq_load1 hm (k:=?_)
  | refine mq_loadAll hm (k:=?_)
  | refine iq_loadN hm (k:=?_)
  | refine iq_load1z hm (k:=?_)
  | refine m_ret_agg hm (h:=?_)
  | refine m_ret2_agg hm (h:=?_)
  | refine op_move (k:=?_)
  | refine op_assign (k:=?_)
  | refine op_lss (k:=?_)
  | refine op_neq (k:=?_)
  | refine op_neq_str (k:=?_)
  | refine op_neq_bool (k:=?_)
  | refine op_neq_flat (k:=?_)
  | refine op_len_str (k:=?_)
  | refine op_len_slice (k:=?_)
  | refine op_add (k:=?_)
  | refine op_add_u8 (k:=?_)
  | refine op_indexAddr_arr (k:=?_)
  | refine op_indexAddr (k:=?_)
  | refine op_load1 (k:=?_)
  | refine wl_nil ?_
  | refine at_then_normal ?_
  | refine at_then_ret ?_
  | refine at_then_exit ?_
  | refine at_block_normal ?_
  | refine at_block_ret ?_
  | refine at_block_exit ?_
  | refine at_block_other (h:=?_)
  | refine wc_seq ?_
  | refine wc_region ?_
  | refine wc_block ?_
  | refine wc_skip ?_
  | refine wc_exit ?_
  | refine wc_ret ?_
  | refine at_ret1 (h:=?_)
  | refine wc_quiet (h:=?_)
  | (refine wq_nil ?_; intro _ hkq; replace hm := hm.kept0 hkq; clear hkq)
  | (refine wq_nil_tail ?_; intro _ hkq; replace hm := hm.kept0 hkq; clear hkq)
  | refine wc_cond_true (ht:=?_)
  | refine wc_cond_false (hf:=?_)
  | (refine wc_cond_dec (ht:=fun _ => ?_) (hf:=fun _ => ?_)<;> (try first | contradiction | (exfalso; omega)))
  | refine wc_cond (ht:=fun _ => ?_) (hf:=fun _ => ?_)
  | refine q_move (k:=?_)
  | refine q_assign (k:=?_)
  | refine q_lss (k:=?_)
  | refine q_neq (k:=?_)
  | refine q_neq_str (k:=?_)
  | refine q_neq_bool (k:=?_)
  | refine q_neq_flat (k:=?_)
  | refine q_len_str (k:=?_)
  | refine q_len_slice (k:=?_)
  | refine q_add (k:=?_)
  | refine q_add_u8 (k:=?_)
  | refine q_indexAddr_arr (k:=?_)
  | refine q_indexAddr (k:=?_)
  | refine q_load1 (k:=?_))
  all_goals try (exfalso; omega)
  refine wc_loop (fun k : Nat => [(0, .slice a l.length c), (1, .slice b l.length d), (12, nt l.length), (13, nt k)])
    (fun k w' => Mem E I [] w' ∧ k ≤ l.length) (fun k => l.length - k) 0 (by exact ⟨rfl, rfl, rfl, rfl, trivial⟩) ⟨hm, Nat.zero_le _⟩ ?_
  clear hm
  rintro k w1 ⟨hm, hk⟩
  try dsimp only at hm hk ⊢
  by_cases hlt : k < l.length
  · have hg : l[((k : Nat) : Int).toNat]? = some l[k] := List.getElem?_eq_getElem hlt
    generalize l[k] = z at hg
    have hself := eqDg0 z
    repeat' (first
    | (refine iq_indexFlat (d:=18) (enc:=encDg) (z:=z) (hr:=hr) (he:=fun _ => rfl) (hz:=hg) (k:=?_); intro bt ot hpt)
    | (refine iq_indexFlat (d:=22) (enc:=encDg) (z:=z) (hr:=hr2) (he:=fun _ => rfl) (hz:=hg) (k:=?_); intro bu ou hpu)
    | refine m_load1 hm (k:=?_)
    | refine i_load1 hm (k:=?_)
    | refine m_loadAll hm (k:=?_)
    | refine i_loadN hm (k:=?_)
    | refine i_load1z hm (k:=?_)
    | refine mq_load1 hm (k:=?_)
    | refine iq_load1 hm (k:=?_)
    | refine mq_loadAll hm (k:=?_)
    | refine iq_loadN hm (k:=?_)
    | refine iq_load1z hm (k:=?_)
    | refine m_ret_agg hm (h:=?_)
    | refine m_ret2_agg hm (h:=?_)
    | refine op_move (k:=?_)
    | refine op_assign (k:=?_)
    | refine op_lss (k:=?_)
    | refine op_neq (k:=?_)
    | refine op_neq_str (k:=?_)
    | refine op_neq_bool (k:=?_)
    | refine op_neq_flat (k:=?_)
    | refine op_len_str (k:=?_)
    | refine op_len_slice (k:=?_)
    | refine op_add (k:=?_)
    | refine op_add_u8 (k:=?_)
    | refine op_indexAddr_arr (k:=?_)
    | refine op_indexAddr (k:=?_)
    | refine op_load1 (k:=?_)
    | refine wl_nil ?_
    | refine at_then_normal ?_
    | refine at_then_ret ?_
    | refine at_then_exit ?_
    | refine at_block_normal ?_
    | refine at_block_ret ?_
    | refine at_block_exit ?_
    | refine at_block_other (h:=?_)
    | refine wc_seq ?_
    | refine wc_region ?_
    | refine wc_block ?_
    | refine wc_skip ?_
    | refine wc_exit ?_
    | refine wc_ret ?_
    | refine at_ret1 (h:=?_)
    | refine wc_quiet (h:=?_)
    | (refine wq_nil ?_; intro _ hkq; replace hm := hm.kept0 hkq; clear hkq)
    | (refine wq_nil_tail ?_; intro _ hkq; replace hm := hm.kept0 hkq; clear hkq)
    | refine wc_cond_true (ht:=?_)
    | refine wc_cond_false (hf:=?_)
    | (refine wc_cond_dec (ht:=fun _ => ?_) (hf:=fun _ => ?_)<;> (try first | contradiction | (exfalso; omega)))
    | refine wc_cond (ht:=fun _ => ?_) (hf:=fun _ => ?_)
    | refine q_move (k:=?_)
    | refine q_assign (k:=?_)
    | refine q_lss (k:=?_)
    | refine q_neq (k:=?_)
    | refine q_neq_str (k:=?_)
    | refine q_neq_bool (k:=?_)
    | refine q_neq_flat (k:=?_)
    | refine q_len_str (k:=?_)
    | refine q_len_slice (k:=?_)
    | refine q_add (k:=?_)
    | refine q_add_u8 (k:=?_)
    | refine q_indexAddr_arr (k:=?_)
    | refine q_indexAddr (k:=?_)
    | refine q_load1 (k:=?_))
    all_goals try (exfalso; first | omega | contradiction | exact absurd ‹(!eqCells (encDg z) (encDg z)) = true› (by rw [hself]; decide))
    exact at_round (k + 1 : Nat) (by exact ⟨rfl, rfl, rfl, rfl, trivial⟩) ⟨hm, by omega⟩ (by omega)
  · obtain rfl : k = l.length := by omega
    repeat' (first
    | refine m_load1 hm (k:=?_)
    | refine i_load1 hm (k:=?_)
    | refine m_loadAll hm (k:=?_)
    | refine i_loadN hm (k:=?_)
    | refine i_load1z hm (k:=?_)
    | refine mq_load1 hm (k:=?_)
    | refine iq_load1 hm (k:=?_)
    | refine mq_loadAll hm (k:=?_)
    | refine iq_loadN hm (k:=?_)
    | refine iq_load1z hm (k:=?_)
    | refine m_ret_agg hm (h:=?_)
    | refine m_ret2_agg hm (h:=?_)
    | refine op_move (k:=?_)
    | refine op_assign (k:=?_)
    | refine op_lss (k:=?_)
    | refine op_neq (k:=?_)
    | refine op_neq_str (k:=?_)
    | refine op_neq_bool (k:=?_)
    | refine op_neq_flat (k:=?_)
    | refine op_len_str (k:=?_)
    | refine op_len_slice (k:=?_)
    | refine op_add (k:=?_)
    | refine op_add_u8 (k:=?_)
    | refine op_indexAddr_arr (k:=?_)
    | refine op_indexAddr (k:=?_)
    | refine op_load1 (k:=?_)
    | refine wl_nil ?_
    | refine at_then_normal ?_
    | refine at_then_ret ?_
    | refine at_then_exit ?_
    | refine at_block_normal ?_
    | refine at_block_ret ?_
    | refine at_block_exit ?_
    | refine at_block_other (h:=?_)
    | refine wc_seq ?_
    | refine wc_region ?_
    | refine wc_block ?_
    | refine wc_skip ?_
    | refine wc_exit ?_
    | refine wc_ret ?_
    | refine at_ret1 (h:=?_)
    | refine wc_quiet (h:=?_)
    | (refine wq_nil ?_; intro _ hkq; replace hm := hm.kept0 hkq; clear hkq)
    | (refine wq_nil_tail ?_; intro _ hkq; replace hm := hm.kept0 hkq; clear hkq)
    | refine wc_cond_true (ht:=?_)
    | refine wc_cond_false (hf:=?_)
    | (refine wc_cond_dec (ht:=fun _ => ?_) (hf:=fun _ => ?_)<;> (try first | contradiction | (exfalso; omega)))
    | refine wc_cond (ht:=fun _ => ?_) (hf:=fun _ => ?_)
    | refine q_move (k:=?_)
    | refine q_assign (k:=?_)
    | refine q_lss (k:=?_)
    | refine q_neq (k:=?_)
    | refine q_neq_str (k:=?_)
    | refine q_neq_bool (k:=?_)
    | refine q_neq_flat (k:=?_)
    | refine q_len_str (k:=?_)
    | refine q_len_slice (k:=?_)
    | refine q_add (k:=?_)
    | refine q_add_u8 (k:=?_)
    | refine q_indexAddr_arr (k:=?_)
    | refine q_indexAddr (k:=?_)
    | refine q_load1 (k:=?_))
    all_goals try (exfalso; omega)
    exact ⟨I, [], ⟨rfl, rfl⟩, hm⟩
end Go.Proofs.YtkbiakajlfmakaaGreatDoor
end
section
namespace Go.Proofs.YtkbiakajlfmakaaGreatDoor
open Go.Fw
section
variable {src : List UInt8} {its : List Sp.Itm} {a : Option Addr} {cp : Nat} {xs : List Value}
set_option maxHeartbeats 16000000 in
theorem n_diags (i : Nat) (hi : i < its.length) (I : Imm) (h : FE I its a cp xs) (hlen : src.length ≤ 4000) (hN : ∀ x ∈ its, Sp.ItN src x) :
    CalM Tryz.prog 10 #[.agg [.slice a its.length cp].toArray, nt i] I [] (fun v I' H' => H' = [] ∧ ∃ da dp, v = .slice da (Sp.walkN its i).ds.length dp ∧ RowI I' 65 4 (.slice da (Sp.walkN its i).ds.length dp) (Sp.walkN its i).ds.length ((Sp.walkN its i).ds.flatMap encDg)) := by
  refine CalM.of fun w E hm => enter (N := 19) Tryz.func10 rfl [(0, .agg [.slice a its.length cp].toArray), (1, nt i)] args2 rfl ?_
  have hfew := h.few
  repeat' (first
  | (refine m_box (d:=2) hm (k:=?_); clear hm; intro b2 _ hm)
  | refine m_load1 hm (k:=?_)
  | refine op_move (k:=?_)
  | refine op_assign (k:=?_)
  | refine op_pick_false (k:=?_)
  | refine op_lss (k:=?_)
  | refine op_geq (k:=?_)
  | refine op_len_slice (k:=?_)
  | refine op_fieldAddr (k:=?_)
  | refine wl_nil ?_
  | refine at_then_normal ?_
  | refine wc_seq ?_
  | refine wc_region ?_
  | refine wc_skip ?_
  | (refine wc_cond_dec (ht:=fun _ => ?_) (hf:=fun _ => ?_)<;> (try first | contradiction | (exfalso; omega))))
  all_goals try (exfalso; omega)
  obtain ⟨I2, hle2, hm2, hpf⟩ := hm.freezeO
  clear hm
  have hm := hm2
  clear hm2
  have hck := n_walk i hi b2 I2 hpf (h.le hle2) hlen hN
  generalize Sp.walkN its i = fin at hck ⊢
  repeat' (first
  | (refine m_call (d:=15) hm (hp:=pm0) (hc:=hck) (k:=?_); clear hm; rintro _ I4 _ _ ⟨bc, pi, sc, sa, sp, da, dp, ua, up, rfl, rfl⟩ hleI4 hm; try simp only [setn] at hm)
  | refine m_load1 hm (k:=?_)
  | refine op_assign (k:=?_)
  | refine op_nilCheck (k:=?_)
  | refine op_fieldAddr (k:=?_)
  | refine wl_nil ?_
  | refine at_then_normal ?_
  | refine wc_ret ?_
  | refine at_ret1 (h:=?_))
  all_goals try (exfalso; omega)
  obtain ⟨I6, hle6, hm6, hrow⟩ := (hm.front 3 rfl).freeze
  exact ⟨I6, [], ⟨rfl, _, _, rfl, hrow⟩, hm6.left (H := [])⟩
end
end Go.Proofs.YtkbiakajlfmakaaGreatDoor
end
section
namespace Go.Sp
theorem useAt_cons (u : Us) (l : List Us) (at_ : Int) : useAt (u :: l) at_ = match decide (u.fr ≤ at_) && decide (at_ < u.to) with | true => some u | false => useAt l at_ := by
  rw [useAt, List.find?_cons]; rfl
end Go.Sp
namespace Go.Proofs.YtkbiakajlfmakaaGreatDoor
open Go.Fw
def useV : Option Sp.Us → Value
  | some u => .tuple #[.agg (encUs u).toArray, .bool true]
  | none => .tuple #[.agg [.int .i64 0, .int .i64 0, .int .i64 0].toArray, .bool false]
section
variable {src : List UInt8} {its : List Sp.Itm} {a : Option Addr} {cp : Nat} {xs : List Value}
set_option maxHeartbeats 16000000 in
theorem n_at (at_ : Int) (I : Imm) (h : FE I its a cp xs) (hlen : src.length ≤ 4000) (hN : ∀ x ∈ its, Sp.ItN src x) (hfw : (Sp.usesN its).length ≤ 100000000000) :
    CalM Tryz.prog 14 #[.agg [.slice a its.length cp].toArray, .int .i64 at_] I [] (fun v _ H' => v = useV (Sp.useAt (Sp.usesN its) at_) ∧ H' = []) := by
  refine CalM.of fun w E hm => enter (N := 28) Tryz.func14 rfl [(0, .agg [.slice a its.length cp].toArray), (1, .int .i64 at_)] args2 rfl ?_
  have hc := n_uses I h hlen hN
  generalize Sp.usesN its = us at hc hfw ⊢
  repeat' (first
  | (refine m_call (d:=9) hm (hp:=pm0) (hc:=hc) (k:=?_); clear hm; rintro _ I2 _ _ ⟨rfl, ua, up, rfl, hrow⟩ hleI2 hm; try simp only [setn] at hm)
  | (refine m_box (d:=2) hm (k:=?_); clear hm; intro b2 _ hm)
  | (refine m_allocS (d:=4) hm (k:=?_); clear hm; intro b4 _ hm)
  | refine m_loadAll hm (k:=?_)
  | refine op_move (k:=?_)
  | refine op_assign (k:=?_)
  | refine op_len_slice (k:=?_)
  | refine wl_nil ?_
  | refine at_then_normal ?_
  | refine wc_seq ?_
  | refine wc_region ?_
  | refine wc_block ?_)
  all_goals try (exfalso; omega)
  refine wc_loop (fun k : Nat => [(1, .int .i64 at_), (4, ptr b4), (9, .slice ua us.length up), (10, nt us.length), (11, nt k)])
    (fun k w' => Mem E I2 [.cell b4 [.int .i64 0, .int .i64 0, .int .i64 0] 39] w' ∧ k ≤ us.length ∧ Sp.useAt us at_ = Sp.useAt (us.drop k) at_) (fun k => us.length - k) 0
    (by exact ⟨rfl, rfl, rfl, rfl, rfl, trivial⟩) ⟨hm.snd, Nat.zero_le _, rfl⟩ ?_
  clear hm
  rintro k w1 ⟨hm, hk, hf⟩
  try dsimp only at hm hk hf ⊢
  by_cases hlt : k < us.length
  · have hg : us[k]? = some us[k] := List.getElem?_eq_getElem hlt
    have hd : us.drop k = us[k] :: us.drop (k + 1) := List.drop_eq_getElem_cons hlt
    rw [hd] at hf
    have hgk : us[((k : Nat) : Int).toNat]? = some us[k] := hg
    generalize us[k] = u at hg hf hgk
    rw [Sp.useAt_cons] at hf
    by_cases hu : u.fr ≤ at_ ∧ at_ < u.to
    · rw [decide_eq_true hu.1, decide_eq_true hu.2] at hf
      repeat' (first
      | (refine i_indexFlat (d:=13) (enc:=encUs) (z:=u) (hr:=hrow) (he:=fun _ => rfl) (hz:=hgk) (k:=?_); intro bt ot hpt)
      | (refine m_varS (d:=7) hm (k:=?_); clear hm; intro b7 _ hm)
      | refine m_load1 hm (k:=?_)
      | refine m_loadAll hm (k:=?_)
      | refine i_loadN hm (k:=?_)
      | (refine m_storeAll hm (k:=?_); clear hm; intro _ hm; try simp only [setn] at hm)
      | refine m_ret2_agg hm (h:=?_)
      | refine op_move (k:=?_)
      | refine op_assign (k:=?_)
      | refine op_pick_true (k:=?_)
      | refine op_lss (k:=?_)
      | refine op_leq (k:=?_)
      | refine op_fieldAddr (k:=?_)
      | (refine wl_split_dec (h1:=fun _ => ?_) (h0:=fun _ => ?_)<;> (try first | contradiction | (exfalso; omega)))
      | refine wl_nil ?_
      | refine at_then_normal ?_
      | refine at_then_ret ?_
      | refine at_block_ret ?_
      | refine wc_seq ?_
      | refine wc_region ?_
      | refine wc_block ?_
      | refine wc_skip ?_
      | refine wc_ret ?_
      | (refine wc_cond_dec (ht:=fun _ => ?_) (hf:=fun _ => ?_)<;> (try first | contradiction | (exfalso; omega))))
      all_goals try (exfalso; omega)
      exact ⟨I2, [], ⟨by rw [hf]; rfl, rfl⟩, hm.left (H := [])⟩
    · have hz : (decide (u.fr ≤ at_) && decide (at_ < u.to)) = false := by
        rw [Bool.and_eq_false_iff, decide_eq_false_iff_not, decide_eq_false_iff_not]
        omega
      rw [hz] at hf
      repeat' (first
      | (refine i_indexFlat (d:=13) (enc:=encUs) (z:=u) (hr:=hrow) (he:=fun _ => rfl) (hz:=hgk) (k:=?_); intro bt ot hpt)
      | (refine m_varS (d:=7) hm (k:=?_); clear hm; intro b7 _ hm)
      | refine m_load1 hm (k:=?_)
      | refine i_loadN hm (k:=?_)
      | refine op_move (k:=?_)
      | refine op_pick_true (k:=?_)
      | refine op_pick_false (k:=?_)
      | refine op_lss (k:=?_)
      | refine op_leq (k:=?_)
      | refine op_add (k:=?_)
      | refine op_fieldAddr (k:=?_)
      | refine wl_skip (k:=?_)
      | (refine wl_split_dec (h1:=fun _ => ?_) (h0:=fun _ => ?_)<;> (try first | contradiction | (exfalso; omega)))
      | refine wl_nil ?_
      | refine at_then_normal ?_
      | refine at_block_normal ?_
      | refine wc_seq ?_
      | refine wc_region ?_
      | refine wc_block ?_
      | refine wc_skip ?_
      | refine wc_cond_false (hf:=?_)
      | (refine wc_cond_dec (ht:=fun _ => ?_) (hf:=fun _ => ?_)<;> (try first | contradiction | (exfalso; omega))))
      all_goals try (exfalso; omega)
      all_goals exact at_round (k + 1 : Nat) (by exact ⟨rfl, rfl, rfl, rfl, rfl, trivial⟩) ⟨hm.tl, by omega, hf⟩ (by omega)
  · obtain rfl : k = us.length := by omega
    rw [List.drop_length] at hf
    repeat' (first
    | (refine m_storeAll hm (k:=?_); clear hm; intro _ hm; try simp only [setn] at hm)
    | refine m_ret2_agg hm (h:=?_)
    | refine op_assign (k:=?_)
    | refine op_lss (k:=?_)
    | refine op_struct (k:=?_)
    | refine wl_nil ?_
    | refine at_then_normal ?_
    | refine at_then_exit ?_
    | refine at_block_exit ?_
    | refine wc_seq ?_
    | refine wc_region ?_
    | refine wc_exit ?_
    | refine wc_ret ?_
    | (refine wc_cond_dec (ht:=fun _ => ?_) (hf:=fun _ => ?_)<;> (try first | contradiction | (exfalso; omega))))
    all_goals try (exfalso; omega)
    exact ⟨I2, [], ⟨by rw [hf]; rfl, rfl⟩, hm.left (H := [])⟩
end
end Go.Proofs.YtkbiakajlfmakaaGreatDoor
end
section
namespace Go.Sp
theorem file_itN (s : List UInt8) : ∀ x ∈ fileItems s, ItN s x := by
  intro x hx
  have hst := file_its s x hx
  by_cases h0 : fileErr s = 0
  · have hl : s.length ≤ 4000 := by
      rw [fileErr] at h0
      split at h0
      · cases h0
      · omega
    rw [fileItems, if_pos h0, items] at hx
    obtain ⟨j, _, rfl⟩ := List.mem_map.1 hx
    have hp : (piece s (cuts s) j).length ≤ 4000 := by rw [piece, List.length_take, List.length_drop]; omega
    have hc := item_cnt (piece s (cuts s) j) ((cuts s).getD j 0 : Nat)
    exact ⟨item_small _ _ (by omega), by rw [itemAt]; omega, hst⟩
  · rw [fileItems, if_neg h0] at hx
    simp at hx
theorem usesN_len {src : List UInt8} {its : List Itm} (h : ∀ x ∈ its, ItN src x) (hf : its.length ≤ 64) : (usesN its).length ≤ 100000000000 := by
  have key : ∀ k, k ≤ its.length → (usesTo its k).length ≤ k * 900000000 := by
    intro k
    induction k with
    | zero => intro _; simp [usesTo]
    | succ k ih =>
      intro hk
      rw [usesTo_succ, List.length_append]
      have h1 := ih (by omega)
      have h2 := walk_few h (i := k) (by omega)
      have h3 : (walkN its k).us.length ≤ (walkN its k).n := by rw [NW.n]; omega
      omega
  have := key its.length (Nat.le_refl _)
  rw [usesN]
  omega
end Go.Sp
namespace Go.Proofs.YtkbiakajlfmakaaGreatDoor
open Go.Fw
theorem fe_nm {I : Imm} {its : List Sp.Itm} {a : Option Addr} {cp : Nat} {xs : List Value} (h1 : RowI I 59 10 (.slice a its.length cp) its.length xs) (h2 : ItsAt I its xs) (h3 : its.length ≤ 30) : FE I its a cp xs := ⟨h1, h2, by omega⟩
end Go.Proofs.YtkbiakajlfmakaaGreatDoor
end
section
namespace Go.Proofs.YtkbiakajlfmakaaGreatDoor
open Go.Fw
theorem eqUs (u v : Sp.Us) : eqCells (encUs u) (encUs v) = decide (v = u) := by
  obtain ⟨a, b, c⟩ := u
  obtain ⟨x, y, z⟩ := v
  rw [Bool.eq_iff_iff]
  simp only [encUs, eqCells, eqCell, Bool.and_eq_true, decide_eq_true_eq, Sp.Us.mk.injEq, and_true]
  constructor
  · rintro ⟨h1, h2, h3⟩; exact ⟨h1.symm, h2.symm, h3.symm⟩
  · rintro ⟨h1, h2, h3⟩; exact ⟨h1.symm, h2.symm, h3.symm⟩
section
variable {P : Program} {N : Nat} {ds : List Deferred} {X : List Nat} {Q : Exit → Act → World → Prop} {l : Log} {w w0 : World} {ops : Array Oper} {os' tail : List Oper} {d : Nat} {ty : TypeId} {pos : String} {af : Array Edge} {g : Option (Nat × Bool)} {I I0 : Imm} {H : List HItem}
theorem mt_nilCheck {x : Operand} {p : Addr} (hm : Mem ⟨w0, X, I0⟩ I H w) (hw : want ops l ⟨some d, .nilCheck x, ty, pos, af, g⟩ = some true) (hN : Nat.blt d N = true) (hx : ev l x = some (.pointer (some p)))
    (k : WS P N ds ops Q X w0 os' tail ((d, .pointer (some p)) :: l) w) : WS P N ds ops Q X w0 (⟨some d, .nilCheck x, ty, pos, af, g⟩ :: os') tail l w :=
  ws_value rfl hw hN (fun c hc => by simp [execOp, hc.ev hx]) hm.kept k
theorem mt_fieldAddr {x : Operand} {t : TypeId} {i off : Nat} [Fld P t i off] {b o' : Nat} (hm : Mem ⟨w0, X, I0⟩ I H w) (hw : want ops l ⟨some d, .fieldAddr t x i, ty, pos, af, g⟩ = some true) (hN : Nat.blt d N = true)
    (hx : ev l x = some (.pointer (some ⟨b, o', none⟩))) (k : WS P N ds ops Q X w0 os' tail ((d, .pointer (some ⟨b, o' + off, none⟩)) :: l) w) :
    WS P N ds ops Q X w0 (⟨some d, .fieldAddr t x i, ty, pos, af, g⟩ :: os') tail l w :=
  ws_value rfl hw hN (fun a ha => by
    obtain ⟨fs, f, inf, h1, h2, h3, h4, h5⟩ := Fld.out (P := P) (t := t) (i := i)
    have h6 := run_underlying (P := P) (w := w) h1
    simp [execOp, Instr.fieldAt, Instr.sureAddr, ha.ev hx, h6, h2, fieldPlace, sizeOf, typeInfo, h4, h5, h3, Addr.add_lit]) hm.kept k
theorem it_load1 {x : Operand} {t : TypeId} [TyOne P t] {b off j tc : Nat} {cs : List Value} {v : Value} (hm : Mem ⟨w0, X, I0⟩ I H w) (hw : want ops l ⟨some d, .load t x, ty, pos, af, g⟩ = some true) (hN : Nat.blt d N = true)
    (hx : ev l x = some (.pointer (some ⟨b, off + j, none⟩))) (hp : PtrI I b off tc cs) (hc : cs[j]? = some v)
    (k : WS P N ds ops Q X w0 os' tail ((d, v) :: l) w) : WS P N ds ops Q X w0 (⟨some d, .load t x, ty, pos, af, g⟩ :: os') tail l w := by
  obtain ⟨c, fr, h1, h2⟩ := hp
  exact ws_value rfl hw hN (fun a ha => by
    obtain ⟨dd, g1, g2⟩ := TyOne.out (P := P) (t := t)
    have h4 := cell_of (hm.inv _ _ h1) (h2 j v hc)
    simp [execOp, Instr.loadAt, Instr.sureAddr, loadVar, run_isAgg g1, g2, ha.ev hx, load, Sem.run, h4]) hm.kept k
end
end Go.Proofs.YtkbiakajlfmakaaGreatDoor
end
