/- Own work: texts PsB, one behind the other. -/
import Derived.Test.YtjfkjpbkmpofkaaDoorMg18
section
namespace Go.Proofs.YtjfkjpbkmpofkaaDoor
open Go.Fw
/-- the entries hold the items of the first 'k' of a text's. -/
structure Had (I : Imm) (s : List UInt8) (k : Nat) (es : Ents) : Prop where
  nodup : (es.map (·.1)).Nodup
  mem : ∀ p ∈ es, ∃ j cs, j < (Sp.cuts s).length ∧ p.1 = Sp.piece s (Sp.cuts s) j ∧ p.2 = .agg cs.toArray ∧ ItAt I (Sp.itemAt s (Sp.cuts s) j) cs
  all : ∀ j, j < k → Sp.piece s (Sp.cuts s) j ∈ es.map (·.1)
theorem Had.nil (I : Imm) (s : List UInt8) : Had I s 0 [] := ⟨List.nodup_nil, by simp, by omega⟩
theorem Had.put {I : Imm} {s : List UInt8} {k : Nat} {es : Ents} (h : Had I s k es) (hk : k < (Sp.cuts s).length) {cs : List Value} (hc : ItAt I (Sp.itemAt s (Sp.cuts s) k) cs) :
    Had I s (k + 1) (mput es (Sp.piece s (Sp.cuts s) k) (.agg cs.toArray)) := by
  refine ⟨mput_nodup h.nodup, fun p hp => ?_, fun j hj => (mput_keys _).2 ?_⟩
  · rcases mput_mem hp with hp | rfl
    · exact h.mem p hp
    · exact ⟨k, cs, hk, rfl, rfl, hc⟩
  · rcases Nat.lt_or_ge j k with h1 | h1
    · exact .inl (h.all j h1)
    · obtain rfl : j = k := by omega
      exact .inr rfl
theorem Had.look {I : Imm} {s : List UInt8} {es : Ents} (h : Had I s (Sp.cuts s).length es) (x : List UInt8) (z : Value) :
    (mhas es x = true ∧ (Sp.pieces s).contains x = true ∧ ∃ j cs, x = Sp.piece s (Sp.cuts s) j ∧ mlook es x z = .agg cs.toArray ∧ ItAt I (Sp.itemAt s (Sp.cuts s) j) cs) ∨
    (mhas es x = false ∧ (Sp.pieces s).contains x = false ∧ mlook es x z = z) := by
  cases hf : es.find? (fun p => decide (p.1 = x)) with
  | some p =>
    left
    have h1 := List.mem_of_find?_eq_some hf
    have h2 : p.1 = x := by simpa using List.find?_some hf
    obtain ⟨j, cs, hj, hp, hv, hi⟩ := h.mem p h1
    refine ⟨by rw [mhas, hf]; rfl, ?_, j, cs, by rw [← h2, hp], by rw [mlook, hf]; exact hv, hi⟩
    rw [List.contains_iff_mem, ← h2, hp]
    exact List.mem_map_of_mem (List.mem_range.2 hj)
  | none =>
    right
    refine ⟨by rw [mhas, hf]; rfl, ?_, by rw [mlook, hf]; rfl⟩
    rw [← Bool.not_eq_true, List.contains_iff_mem]
    intro hx
    obtain ⟨j, hj, rfl⟩ := List.mem_map.1 hx
    obtain ⟨p, hp, hpe⟩ := List.mem_map.1 (h.all j (List.mem_range.1 hj))
    have := List.find?_eq_none.1 hf p hp
    simp [hpe] at this
theorem moved_at {I : Imm} {it : Sp.Itm} {a0 : Int} {cs : List Value} (h : ItAt I { it with at_ := a0 } cs) : ∃ ap cp as_ cs' ab cb ad cd xb, cs = itCells it.kind it.name it.label (.slice ap it.params.length cp) (.slice as_ it.sends.length cs') (.slice ab it.body.length cb) a0 it.size it.mark (.slice ad it.diags.length cd) ∧
  RowI I 53 3 (.slice ap it.params.length cp) it.params.length (it.params.flatMap encPar) ∧ RowI I 72 2 (.slice as_ it.sends.length cs') it.sends.length (it.sends.flatMap encRf) ∧
  RowI I 85 15 (.slice ab it.body.length cb) it.body.length xb ∧ StsAt I it.body xb ∧ RowI I 44 4 (.slice ad it.diags.length cd) it.diags.length (it.diags.flatMap encDg) := h
structure AgM where
  k : Nat
  es : Ents
structure AgY where
  k : Nat
  n : Nat
  I : Imm
  a : Option Addr
  cp : Nat
  xs : List Value
set_option maxHeartbeats 16000000 in
theorem p_again (s t : List UInt8) (h0 : Sp.fileErr s = 0) (I : Imm) (hC : Conv I) (ht : t.length ≤ 9223372036854775807) (a0 : Option Addr) (c0 : Nat) (xs0 : List Value)
    (hr0 : RowI I 42 10 (.slice a0 (Sp.fileItems s).length c0) (Sp.fileItems s).length xs0) (hi0 : ItsAt I (Sp.fileItems s) xs0) :
    CalM Tryd.prog 10 #[.agg [.slice a0 (Sp.fileItems s).length c0].toArray, str s, str t] I [] (ToAgain (Sp.freshAll s t) (Sp.fileErr t) (Sp.fileItems t)) := by
  refine CalM.of fun w E hm => enter (N := 127) Tryd.func10 rfl [(0, .agg [.slice a0 (Sp.fileItems s).length c0].toArray), (1, str s), (2, str t)] args3 rfl ?_
  by_cases hl : t.length > 4000
  · have he : Sp.fileErr t = 4 := by rw [Sp.fileErr, if_pos hl]
    have hi : Sp.fileItems t = [] := by rw [Sp.fileItems, he]; rfl
    have hf : Sp.freshAll s t = 0 := by rw [Sp.freshAll, he]; rfl
    rw [he, hi, hf]
    repeat' (first
      | (refine m_ret3_agg hm (by rfl) (by rfl) (by rfl) (by rfl) (by first | exact gt0 | exact gt1 | exact gt2 | exact gt3 | exact gt4 | exact gt5 | exact gt6) (by rfl) ?_)
      | (refine m_box (d := 3) hm (by rfl) (by rfl) (by rfl) (by rfl) ?_; clear hm; intro b3 _ hm)
      | (refine m_allocS (d := 6) hm (by rfl) (by rfl) ?_; clear hm; intro b6 _ hm)
      | (refine m_varS (d := 11) hm (by rfl) (by rfl) (by rfl) (by rfl) (by rfl) ?_; clear hm; intro b11 _ hm)
      | (refine m_var1 (d := 11) hm (by rfl) (by rfl) (by rfl) (by rfl) (by rfl) ?_; clear hm; intro b11 _ hm)
      | (refine m_allocS (d := 12) hm (by rfl) (by rfl) ?_; clear hm; intro b12 _ hm)
      | (refine m_push (d := 73) hm (by rfl) (by rfl) (by rfl) (by rfl) (by rfl) (by first | exact gt0 | exact gt1 | exact gt2 | exact gt3 | exact gt4 | exact gt5 | exact gt6) (by rfl) (by rfl) (by rfl) (by rfl) (by omega) (by omega) ?_; clear hm; intro a73 cp73 _ _ hm; try simp only [setn] at hm)
      | (refine m_varS (d := 17) hm (by rfl) (by rfl) (by rfl) (by rfl) (by rfl) ?_; clear hm; intro b17 _ hm)
      | (refine m_var1 (d := 17) hm (by rfl) (by rfl) (by rfl) (by rfl) (by rfl) ?_; clear hm; intro b17 _ hm)
      | (refine m_push (d := 122) hm (by rfl) (by rfl) (by rfl) (by rfl) (by rfl) (by first | exact gt0 | exact gt1 | exact gt2 | exact gt3 | exact gt4 | exact gt5 | exact gt6) (by rfl) (by rfl) (by rfl) (by rfl) (by omega) (by omega) ?_; clear hm; intro a122 cp122 _ _ hm; try simp only [setn] at hm)
      | refine m_load1 hm (by rfl) (by rfl) (by rfl) (by first | exact gt0 | exact gt1 | exact gt2 | exact gt3 | exact gt4 | exact gt5 | exact gt6) (by rfl) ?_
      | refine i_load1 hm (by rfl) (by rfl) (by rfl) (by assumption) (by rfl) ?_
      | refine m_loadAll hm (by rfl) (by rfl) (by rfl) (by first | exact gt0 | exact gt1 | exact gt2 | exact gt3 | exact gt4 | exact gt5 | exact gt6) (by rfl) ?_
      | refine i_loadN hm (by rfl) (by rfl) (by rfl) (by assumption) (by rfl) ?_
      | refine i_load1z hm (by rfl) (by rfl) (by rfl) (by assumption) (by rfl) ?_
      | refine mq_load1 hm (by rfl) (by rfl) (by rfl) (by first | exact gt0 | exact gt1 | exact gt2 | exact gt3 | exact gt4 | exact gt5 | exact gt6) (by rfl) ?_
      | refine iq_load1 hm (by rfl) (by rfl) (by rfl) (by assumption) (by rfl) ?_
      | refine mq_loadAll hm (by rfl) (by rfl) (by rfl) (by first | exact gt0 | exact gt1 | exact gt2 | exact gt3 | exact gt4 | exact gt5 | exact gt6) (by rfl) ?_
      | refine iq_loadN hm (by rfl) (by rfl) (by rfl) (by assumption) (by rfl) ?_
      | refine iq_load1z hm (by rfl) (by rfl) (by rfl) (by assumption) (by rfl) ?_
      | (refine m_storeAll hm (by rfl) (by rfl) (by rfl) (by rfl) (by first | exact gt0 | exact gt1 | exact gt2 | exact gt3 | exact gt4 | exact gt5 | exact gt6) (by rfl) (by rfl) (by rfl) ?_; clear hm; intro _ hm; try simp only [setn] at hm)
      | (refine m_store1 hm (by rfl) (by rfl) (by rfl) (by rfl) (by first | exact gt0 | exact gt1 | exact gt2 | exact gt3 | exact gt4 | exact gt5 | exact gt6) (by rfl) (by rfl) (by rfl) ?_; clear hm; intro _ hm; try simp only [setn] at hm)
      | (refine m_storeN hm (by rfl) (by rfl) (by rfl) (by rfl) (by first | exact gt0 | exact gt1 | exact gt2 | exact gt3 | exact gt4 | exact gt5 | exact gt6) (by rfl) (by rfl) (by rfl) ?_; clear hm; intro _ hm; try simp only [setn] at hm)
      | refine m_ret_agg hm (by rfl) (by rfl) (by first | exact gt0 | exact gt1 | exact gt2 | exact gt3 | exact gt4 | exact gt5 | exact gt6) (by rfl) ?_
      | refine m_ret2_agg hm (by rfl) (by rfl) (by rfl) (by first | exact gt0 | exact gt1 | exact gt2 | exact gt3 | exact gt4 | exact gt5 | exact gt6) (by rfl) ?_
      | refine op_move (by rfl) (by rfl) (by rfl) ?_
      | refine op_assign (by rfl) (by rfl) (by rfl) ?_
      | refine op_pick_true (by rfl) (by rfl) (by rfl) (by rfl) ?_
      | refine op_pick_false (by rfl) (by rfl) (by rfl) (by rfl) ?_
      | refine op_lss (by rfl) (by rfl) (by rfl) (by rfl) ?_
      | refine op_leq (by rfl) (by rfl) (by rfl) (by rfl) ?_
      | refine op_gtr (by rfl) (by rfl) (by rfl) (by rfl) ?_
      | refine op_geq (by rfl) (by rfl) (by rfl) (by rfl) ?_
      | refine op_eql (by rfl) (by rfl) (by rfl) (by rfl) ?_
      | refine op_eql_str (by rfl) (by rfl) (by rfl) (by rfl) ?_
      | refine op_eql_bool (by rfl) (by rfl) (by rfl) (by rfl) ?_
      | refine op_eql_flat (by rfl) (by rfl) (by rfl) (by rfl) (by rfl) (by rfl) ?_
      | refine op_len_str (by rfl) (by rfl) (by rfl) ?_
      | refine op_len_slice (by rfl) (by rfl) (by rfl) ?_
      | refine op_not (by rfl) (by rfl) (by rfl) ?_
      | refine op_extract (by rfl) (by rfl) (by rfl) (by rfl) ?_
      | refine op_add (by rfl) (by rfl) (by rfl) (by rfl) (by omega) ?_
      | refine op_sub (by rfl) (by rfl) (by rfl) (by rfl) (by omega) ?_
      | refine op_add_u8 (by rfl) (by rfl) (by rfl) (by rfl) (by omega) ?_
      | refine op_sub_u8 (by rfl) (by rfl) (by rfl) (by rfl) (by omega) ?_
      | refine op_indexAddr_arr (by rfl) (by rfl) (by rfl) (by rfl) (by omega) (by omega) ?_
      | refine op_slice_str (by rfl) (by rfl) (by rfl) (by rfl) (by rfl) (by omega) ?_
      | refine op_slice_from (by rfl) (by rfl) (by rfl) (by rfl) (by omega) ?_
      | refine op_slice_to (by rfl) (by rfl) (by rfl) (by rfl) (by omega) ?_
      | refine op_fieldAddr (by rfl) (by rfl) (by rfl) ?_
      | refine op_indexAddr (by rfl) (by rfl) (by rfl) (by rfl) (by omega) (by omega) ?_
      | refine op_load1 (by rfl) (by rfl) (by rfl) (by assumption) (by rfl) ?_
      | refine op_struct (by rfl) (by rfl) (by rfl) (by rfl) ?_
      | refine op_build (by rfl) (by rfl) (by rfl) (fun _ => (by rfl)) ?_
      | refine wl_skip (by rfl) (by rfl) (by rfl) ?_
      | (refine wl_split_dec (by rfl) (by rfl) (by rfl) (fun _ => ?_) (fun _ => ?_) <;> (try first | contradiction | (exfalso; omega)))
      | (refine wl_split (by rfl) (by rfl) (by rfl) (fun _ => ?_) (fun _ => ?_) <;> (fail_if_success contradiction))
      | refine wl_nil ?_
      | refine at_then_normal ?_
      | refine at_then_ret ?_
      | refine at_then_exit ?_
      | refine at_block_normal ?_
      | refine at_block_ret ?_
      | refine at_block_exit ?_
      | refine at_block_other (by rfl) ?_
      | refine wc_seq ?_
      | refine wc_region ?_
      | refine wc_block ?_
      | refine wc_skip ?_
      | refine wc_exit ?_
      | refine wc_ret ?_
      | refine wc_quiet (by kernel_rfl) ?_
      | (refine wq_nil ?_; intro _ hkq; replace hm := hm.kept0 hkq; clear hkq)
      | (refine wq_nil_tail ?_; intro _ hkq; replace hm := hm.kept0 hkq; clear hkq)
      | refine wc_cond_true (by rfl) ?_
      | refine wc_cond_false (by rfl) ?_
      | (refine wc_cond_dec (by rfl) (fun _ => ?_) (fun _ => ?_) <;> (try first | contradiction | (exfalso; omega)))
      | refine wc_cond (by rfl) (fun _ => ?_) (fun _ => ?_)
      | refine q_move (by rfl) (by rfl) (by rfl) ?_
      | refine q_assign (by rfl) (by rfl) (by rfl) ?_
      | refine q_pick_true (by rfl) (by rfl) (by rfl) (by rfl) ?_
      | refine q_pick_false (by rfl) (by rfl) (by rfl) (by rfl) ?_
      | refine q_lss (by rfl) (by rfl) (by rfl) (by rfl) ?_
      | refine q_leq (by rfl) (by rfl) (by rfl) (by rfl) ?_
      | refine q_gtr (by rfl) (by rfl) (by rfl) (by rfl) ?_
      | refine q_geq (by rfl) (by rfl) (by rfl) (by rfl) ?_
      | refine q_eql (by rfl) (by rfl) (by rfl) (by rfl) ?_
      | refine q_eql_str (by rfl) (by rfl) (by rfl) (by rfl) ?_
      | refine q_eql_bool (by rfl) (by rfl) (by rfl) (by rfl) ?_
      | refine q_eql_flat (by rfl) (by rfl) (by rfl) (by rfl) (by rfl) (by rfl) ?_
      | refine q_len_str (by rfl) (by rfl) (by rfl) ?_
      | refine q_len_slice (by rfl) (by rfl) (by rfl) ?_
      | refine q_not (by rfl) (by rfl) (by rfl) ?_
      | refine q_extract (by rfl) (by rfl) (by rfl) (by rfl) ?_
      | refine q_add (by rfl) (by rfl) (by rfl) (by rfl) (by omega) ?_
      | refine q_sub (by rfl) (by rfl) (by rfl) (by rfl) (by omega) ?_
      | refine q_add_u8 (by rfl) (by rfl) (by rfl) (by rfl) (by omega) ?_
      | refine q_sub_u8 (by rfl) (by rfl) (by rfl) (by rfl) (by omega) ?_
      | refine q_indexAddr_arr (by rfl) (by rfl) (by rfl) (by rfl) (by omega) (by omega) ?_
      | refine q_slice_str (by rfl) (by rfl) (by rfl) (by rfl) (by rfl) (by omega) ?_
      | refine q_slice_from (by rfl) (by rfl) (by rfl) (by rfl) (by omega) ?_
      | refine q_slice_to (by rfl) (by rfl) (by rfl) (by rfl) (by omega) ?_
      | refine q_fieldAddr (by rfl) (by rfl) (by rfl) ?_
      | refine q_indexAddr (by rfl) (by rfl) (by rfl) (by rfl) (by omega) (by omega) ?_
      | refine q_load1 (by rfl) (by rfl) (by rfl) (by assumption) (by rfl) ?_
      | refine q_struct (by rfl) (by rfl) (by rfl) (by rfl) ?_
      | refine q_build (by rfl) (by rfl) (by rfl) (fun _ => (by rfl)) ?_
      | refine wq_skip (by rfl) (by rfl) (by rfl) ?_
      | (refine wq_split_dec (by rfl) (by rfl) (by rfl) (fun _ => ?_) (fun _ => ?_) <;> (try first | contradiction | (exfalso; omega)))
      | (refine wq_split (by rfl) (by rfl) (by rfl) (fun _ => ?_) (fun _ => ?_) <;> (fail_if_success contradiction)))
    all_goals try (exfalso; omega)
    exact ⟨_, _, ⟨none, 0, [], rfl, rowI_nil _ _ _ _ _, rfl, rfl⟩, hm.left (H := [])⟩
  have es0 : Sp.fileItems s = Sp.items s (Sp.cuts s) := by rw [Sp.fileItems, if_pos h0]
  have hn0 : (Sp.fileItems s).length = (Sp.cuts s).length := by rw [es0, Sp.items_len]
  have hfew := Sp.file_few s
  have hin := fun k it h => Sp.file_in s h0 (k := k) (it := it) h
  have hgk : ∀ k, k < (Sp.cuts s).length → (Sp.fileItems s)[k]? = some (Sp.itemAt s (Sp.cuts s) k) := fun k hk => by rw [es0, Sp.items_get s _ hk]
  have hpk : ∀ k, k < (Sp.cuts s).length → ∃ e1 e2 : Nat, (Sp.itemAt s (Sp.cuts s) k).at_ = e1 ∧ e1 + (Sp.itemAt s (Sp.cuts s) k).size = e2 ∧ Sp.piece s (Sp.cuts s) k = (s.drop e1).take (e2 - e1) := fun k hk => by
    have h1 := Sp.cuts_at s hk
    refine ⟨(Sp.cuts s).getD k 0, (Sp.cuts s).getD (k + 1) s.length, by rw [Sp.itemAt, (Sp.item_szat _ _).2], ?_, rfl⟩
    rw [Sp.itemAt, (Sp.item_szat _ _).1, Sp.piece, List.length_take, List.length_drop]; omega
  have hcl := cuts_len t
  obtain ⟨n0, hnn⟩ : ∃ n0, n0 = (Sp.fileItems s).length := ⟨_, rfl⟩
  rw [← hnn] at hr0 hn0 hfew ⊢
  repeat' (first
    | (refine m_makeMap hm (by rfl) (by rfl) ?_; clear hm; intro bm _ hm)
    | (refine m_box (d := 3) hm (by rfl) (by rfl) (by rfl) (by rfl) ?_; clear hm; intro b3 _ hm)
    | (refine m_allocS (d := 6) hm (by rfl) (by rfl) ?_; clear hm; intro b6 _ hm)
    | (refine m_varS (d := 11) hm (by rfl) (by rfl) (by rfl) (by rfl) (by rfl) ?_; clear hm; intro b11 _ hm)
    | (refine m_var1 (d := 11) hm (by rfl) (by rfl) (by rfl) (by rfl) (by rfl) ?_; clear hm; intro b11 _ hm)
    | (refine m_allocS (d := 12) hm (by rfl) (by rfl) ?_; clear hm; intro b12 _ hm)
    | (refine m_push (d := 73) hm (by rfl) (by rfl) (by rfl) (by rfl) (by rfl) (by first | exact gt0 | exact gt1 | exact gt2 | exact gt3 | exact gt4 | exact gt5 | exact gt6) (by rfl) (by rfl) (by rfl) (by rfl) (by omega) (by omega) ?_; clear hm; intro a73 cp73 _ _ hm; try simp only [setn] at hm)
    | (refine m_varS (d := 17) hm (by rfl) (by rfl) (by rfl) (by rfl) (by rfl) ?_; clear hm; intro b17 _ hm)
    | (refine m_var1 (d := 17) hm (by rfl) (by rfl) (by rfl) (by rfl) (by rfl) ?_; clear hm; intro b17 _ hm)
    | (refine m_push (d := 122) hm (by rfl) (by rfl) (by rfl) (by rfl) (by rfl) (by first | exact gt0 | exact gt1 | exact gt2 | exact gt3 | exact gt4 | exact gt5 | exact gt6) (by rfl) (by rfl) (by rfl) (by rfl) (by omega) (by omega) ?_; clear hm; intro a122 cp122 _ _ hm; try simp only [setn] at hm)
    | refine m_load1 hm (by rfl) (by rfl) (by rfl) (by first | exact gt0 | exact gt1 | exact gt2 | exact gt3 | exact gt4 | exact gt5 | exact gt6) (by rfl) ?_
    | refine i_load1 hm (by rfl) (by rfl) (by rfl) (by assumption) (by rfl) ?_
    | refine m_loadAll hm (by rfl) (by rfl) (by rfl) (by first | exact gt0 | exact gt1 | exact gt2 | exact gt3 | exact gt4 | exact gt5 | exact gt6) (by rfl) ?_
    | refine i_loadN hm (by rfl) (by rfl) (by rfl) (by assumption) (by rfl) ?_
    | refine i_load1z hm (by rfl) (by rfl) (by rfl) (by assumption) (by rfl) ?_
    | refine mq_load1 hm (by rfl) (by rfl) (by rfl) (by first | exact gt0 | exact gt1 | exact gt2 | exact gt3 | exact gt4 | exact gt5 | exact gt6) (by rfl) ?_
    | refine iq_load1 hm (by rfl) (by rfl) (by rfl) (by assumption) (by rfl) ?_
    | refine mq_loadAll hm (by rfl) (by rfl) (by rfl) (by first | exact gt0 | exact gt1 | exact gt2 | exact gt3 | exact gt4 | exact gt5 | exact gt6) (by rfl) ?_
    | refine iq_loadN hm (by rfl) (by rfl) (by rfl) (by assumption) (by rfl) ?_
    | refine iq_load1z hm (by rfl) (by rfl) (by rfl) (by assumption) (by rfl) ?_
    | (refine m_storeAll hm (by rfl) (by rfl) (by rfl) (by rfl) (by first | exact gt0 | exact gt1 | exact gt2 | exact gt3 | exact gt4 | exact gt5 | exact gt6) (by rfl) (by rfl) (by rfl) ?_; clear hm; intro _ hm; try simp only [setn] at hm)
    | (refine m_store1 hm (by rfl) (by rfl) (by rfl) (by rfl) (by first | exact gt0 | exact gt1 | exact gt2 | exact gt3 | exact gt4 | exact gt5 | exact gt6) (by rfl) (by rfl) (by rfl) ?_; clear hm; intro _ hm; try simp only [setn] at hm)
    | (refine m_storeN hm (by rfl) (by rfl) (by rfl) (by rfl) (by first | exact gt0 | exact gt1 | exact gt2 | exact gt3 | exact gt4 | exact gt5 | exact gt6) (by rfl) (by rfl) (by rfl) ?_; clear hm; intro _ hm; try simp only [setn] at hm)
    | refine m_ret_agg hm (by rfl) (by rfl) (by first | exact gt0 | exact gt1 | exact gt2 | exact gt3 | exact gt4 | exact gt5 | exact gt6) (by rfl) ?_
    | refine m_ret2_agg hm (by rfl) (by rfl) (by rfl) (by first | exact gt0 | exact gt1 | exact gt2 | exact gt3 | exact gt4 | exact gt5 | exact gt6) (by rfl) ?_
    | refine op_move (by rfl) (by rfl) (by rfl) ?_
    | refine op_assign (by rfl) (by rfl) (by rfl) ?_
    | refine op_pick_true (by rfl) (by rfl) (by rfl) (by rfl) ?_
    | refine op_pick_false (by rfl) (by rfl) (by rfl) (by rfl) ?_
    | refine op_lss (by rfl) (by rfl) (by rfl) (by rfl) ?_
    | refine op_leq (by rfl) (by rfl) (by rfl) (by rfl) ?_
    | refine op_gtr (by rfl) (by rfl) (by rfl) (by rfl) ?_
    | refine op_geq (by rfl) (by rfl) (by rfl) (by rfl) ?_
    | refine op_eql (by rfl) (by rfl) (by rfl) (by rfl) ?_
    | refine op_eql_str (by rfl) (by rfl) (by rfl) (by rfl) ?_
    | refine op_eql_bool (by rfl) (by rfl) (by rfl) (by rfl) ?_
    | refine op_eql_flat (by rfl) (by rfl) (by rfl) (by rfl) (by rfl) (by rfl) ?_
    | refine op_len_str (by rfl) (by rfl) (by rfl) ?_
    | refine op_len_slice (by rfl) (by rfl) (by rfl) ?_
    | refine op_not (by rfl) (by rfl) (by rfl) ?_
    | refine op_extract (by rfl) (by rfl) (by rfl) (by rfl) ?_
    | refine op_add (by rfl) (by rfl) (by rfl) (by rfl) (by omega) ?_
    | refine op_sub (by rfl) (by rfl) (by rfl) (by rfl) (by omega) ?_
    | refine op_add_u8 (by rfl) (by rfl) (by rfl) (by rfl) (by omega) ?_
    | refine op_sub_u8 (by rfl) (by rfl) (by rfl) (by rfl) (by omega) ?_
    | refine op_indexAddr_arr (by rfl) (by rfl) (by rfl) (by rfl) (by omega) (by omega) ?_
    | refine op_slice_str (by rfl) (by rfl) (by rfl) (by rfl) (by rfl) (by omega) ?_
    | refine op_slice_from (by rfl) (by rfl) (by rfl) (by rfl) (by omega) ?_
    | refine op_slice_to (by rfl) (by rfl) (by rfl) (by rfl) (by omega) ?_
    | refine op_fieldAddr (by rfl) (by rfl) (by rfl) ?_
    | refine op_indexAddr (by rfl) (by rfl) (by rfl) (by rfl) (by omega) (by omega) ?_
    | refine op_load1 (by rfl) (by rfl) (by rfl) (by assumption) (by rfl) ?_
    | refine op_struct (by rfl) (by rfl) (by rfl) (by rfl) ?_
    | refine op_build (by rfl) (by rfl) (by rfl) (fun _ => (by rfl)) ?_
    | refine wl_skip (by rfl) (by rfl) (by rfl) ?_
    | (refine wl_split_dec (by rfl) (by rfl) (by rfl) (fun _ => ?_) (fun _ => ?_) <;> (try first | contradiction | (exfalso; omega)))
    | (refine wl_split (by rfl) (by rfl) (by rfl) (fun _ => ?_) (fun _ => ?_) <;> (fail_if_success contradiction))
    | refine wl_nil ?_
    | refine at_then_normal ?_
    | refine at_then_ret ?_
    | refine at_then_exit ?_
    | refine at_block_normal ?_
    | refine at_block_ret ?_
    | refine at_block_exit ?_
    | refine at_block_other (by rfl) ?_
    | refine wc_seq ?_
    | refine wc_region ?_
    | refine wc_block ?_
    | refine wc_skip ?_
    | refine wc_exit ?_
    | refine wc_ret ?_
    | refine wc_quiet (by kernel_rfl) ?_
    | (refine wq_nil ?_; intro _ hkq; replace hm := hm.kept0 hkq; clear hkq)
    | (refine wq_nil_tail ?_; intro _ hkq; replace hm := hm.kept0 hkq; clear hkq)
    | refine wc_cond_true (by rfl) ?_
    | refine wc_cond_false (by rfl) ?_
    | (refine wc_cond_dec (by rfl) (fun _ => ?_) (fun _ => ?_) <;> (try first | contradiction | (exfalso; omega)))
    | refine wc_cond (by rfl) (fun _ => ?_) (fun _ => ?_)
    | refine q_move (by rfl) (by rfl) (by rfl) ?_
    | refine q_assign (by rfl) (by rfl) (by rfl) ?_
    | refine q_pick_true (by rfl) (by rfl) (by rfl) (by rfl) ?_
    | refine q_pick_false (by rfl) (by rfl) (by rfl) (by rfl) ?_
    | refine q_lss (by rfl) (by rfl) (by rfl) (by rfl) ?_
    | refine q_leq (by rfl) (by rfl) (by rfl) (by rfl) ?_
    | refine q_gtr (by rfl) (by rfl) (by rfl) (by rfl) ?_
    | refine q_geq (by rfl) (by rfl) (by rfl) (by rfl) ?_
    | refine q_eql (by rfl) (by rfl) (by rfl) (by rfl) ?_
    | refine q_eql_str (by rfl) (by rfl) (by rfl) (by rfl) ?_
    | refine q_eql_bool (by rfl) (by rfl) (by rfl) (by rfl) ?_
    | refine q_eql_flat (by rfl) (by rfl) (by rfl) (by rfl) (by rfl) (by rfl) ?_
    | refine q_len_str (by rfl) (by rfl) (by rfl) ?_
    | refine q_len_slice (by rfl) (by rfl) (by rfl) ?_
    | refine q_not (by rfl) (by rfl) (by rfl) ?_
    | refine q_extract (by rfl) (by rfl) (by rfl) (by rfl) ?_
    | refine q_add (by rfl) (by rfl) (by rfl) (by rfl) (by omega) ?_
    | refine q_sub (by rfl) (by rfl) (by rfl) (by rfl) (by omega) ?_
    | refine q_add_u8 (by rfl) (by rfl) (by rfl) (by rfl) (by omega) ?_
    | refine q_sub_u8 (by rfl) (by rfl) (by rfl) (by rfl) (by omega) ?_
    | refine q_indexAddr_arr (by rfl) (by rfl) (by rfl) (by rfl) (by omega) (by omega) ?_
    | refine q_slice_str (by rfl) (by rfl) (by rfl) (by rfl) (by rfl) (by omega) ?_
    | refine q_slice_from (by rfl) (by rfl) (by rfl) (by rfl) (by omega) ?_
    | refine q_slice_to (by rfl) (by rfl) (by rfl) (by rfl) (by omega) ?_
    | refine q_fieldAddr (by rfl) (by rfl) (by rfl) ?_
    | refine q_indexAddr (by rfl) (by rfl) (by rfl) (by rfl) (by omega) (by omega) ?_
    | refine q_load1 (by rfl) (by rfl) (by rfl) (by assumption) (by rfl) ?_
    | refine q_struct (by rfl) (by rfl) (by rfl) (by rfl) ?_
    | refine q_build (by rfl) (by rfl) (by rfl) (fun _ => (by rfl)) ?_
    | refine wq_skip (by rfl) (by rfl) (by rfl) ?_
    | (refine wq_split_dec (by rfl) (by rfl) (by rfl) (fun _ => ?_) (fun _ => ?_) <;> (try first | contradiction | (exfalso; omega)))
    | (refine wq_split (by rfl) (by rfl) (by rfl) (fun _ => ?_) (fun _ => ?_) <;> (fail_if_success contradiction)))
  all_goals try (exfalso; omega)
  refine wc_loop (fun x : AgM => [(1, str s), (2, str t), (3, ptr b3), (6, ptr b6), (9, .map (some bm)), (25, .slice a0 n0 c0), (26, nt n0), (27, nt x.k)]) (fun x w' => Mem E I [.mp bm x.es, .cell b6 [.slice none 0 0] 27, .cell b3 [.slice a0 n0 c0] 27] w' ∧ x.k ≤ n0 ∧ Had I s x.k x.es) (fun x => n0 - x.k) ⟨0, []⟩ (by exact ⟨rfl, rfl, rfl, rfl, rfl, rfl, rfl, rfl, trivial⟩) ⟨hm, Nat.zero_le _, Had.nil _ _⟩ ?_
  clear hm
  rintro ⟨k, es⟩ w1 ⟨hm, hk, hhad⟩
  dsimp only at hm hk hhad ⊢
  by_cases hlt : k < n0
  · have hg := hgk k (by omega)
    have hI := hin k _ hg
    obtain ⟨e1, e2, he1, he2, hpc⟩ := hpk k (by omega)
    obtain ⟨cs, hcs⟩ : ∃ cs, cs = (xs0.drop (k * 10)).take 10 := ⟨_, rfl⟩
    have hat := hi0.get hg
    rw [← hcs] at hat
    have hput := hhad.put (by omega) hat
    rw [hpc] at hput
    obtain ⟨pa, pc, sa, sc, ba, bc, da, dc, xb, he, _, _, _, _, hdg⟩ := hat
    obtain ⟨q1, q2, q3, q4, q5, q6, q7⟩ := hI
    clear q4 q5
    generalize Sp.itemAt s (Sp.cuts s) k = it at he1 he2 he q1 q2 q3 q6 hg
    subst he
    subst he2
    rw [he1] at q1 q3 hcs hput
    repeat' (first
      | (refine wc_semi_mem (id := 8) (hm.perm pm0) 11 11 (by kernel_rfl) ?_; clear hm; intro wd hR hm)
      | (refine i_indexAddr (d := 29) (by rfl) (by rfl) (by rfl) (by rfl) hr0 (by omega) (by omega) ?_; intro bt ot hpt; rw [show ((k : Int).toNat * 10) = k * 10 from rfl, ← hcs] at hpt)
      | (refine wl_mapUpdate ?_; refine m_put (s := (s.drop e1).take (e1 + it.size - e1)) hm (by rfl) (by rfl) (by rfl) (by rfl) (by rfl) (by first | exact gt0 | exact gt1 | exact gt2 | exact gt3 | exact gt4 | exact gt5 | exact gt6) hhad.nodup ?_; clear hm; intro _ hm; try simp only [setn] at hm)
      | refine mw_loadAll hR (by rfl) (by rfl) (by rfl) (by first | exact gt0 | exact gt1 | exact gt2 | exact gt3 | exact gt4 | exact gt5 | exact gt6) (by rfl) ?_
      | refine mw_load1 hR (by rfl) (by rfl) (by rfl) (by first | exact gt0 | exact gt1 | exact gt2 | exact gt3 | exact gt4 | exact gt5 | exact gt6) (by rfl) ?_
      | refine iw_load1 hR (by rfl) (by rfl) (by rfl) (by assumption) (by rfl) ?_
      | refine mt_struct hm (by rfl) (by rfl) (by rfl) (by rfl) ?_
      | refine iw_loadN hR (by rfl) (by rfl) (by rfl) (by assumption) (by rfl) ?_
      | (refine mt_push (d := 122) hm (by rfl) (by rfl) (by rfl) (by rfl) (by rfl) (by first | exact gt0 | exact gt1 | exact gt2 | exact gt3 | exact gt4 | exact gt5 | exact gt6) (by rfl) (by rfl) (by rfl) (by rfl) (by omega) (by omega) ?_; clear hm; intro a122 cp122 _ _ hm; replace hm := hR.back hm; clear hR; try simp only [setn] at hm)
      | (refine ws_nil ?_; replace hm := hR.back hm; clear hR; try simp only [setn] at hm)
      | (refine m_box (d := 3) hm (by rfl) (by rfl) (by rfl) (by rfl) ?_; clear hm; intro b3 _ hm)
      | (refine m_allocS (d := 6) hm (by rfl) (by rfl) ?_; clear hm; intro b6 _ hm)
      | (refine m_varS (d := 11) hm (by rfl) (by rfl) (by rfl) (by rfl) (by rfl) ?_; clear hm; intro b11 _ hm)
      | (refine m_var1 (d := 11) hm (by rfl) (by rfl) (by rfl) (by rfl) (by rfl) ?_; clear hm; intro b11 _ hm)
      | (refine m_allocS (d := 12) hm (by rfl) (by rfl) ?_; clear hm; intro b12 _ hm)
      | (refine m_push (d := 73) hm (by rfl) (by rfl) (by rfl) (by rfl) (by rfl) (by first | exact gt0 | exact gt1 | exact gt2 | exact gt3 | exact gt4 | exact gt5 | exact gt6) (by rfl) (by rfl) (by rfl) (by rfl) (by omega) (by omega) ?_; clear hm; intro a73 cp73 _ _ hm; try simp only [setn] at hm)
      | (refine m_varS (d := 17) hm (by rfl) (by rfl) (by rfl) (by rfl) (by rfl) ?_; clear hm; intro b17 _ hm)
      | (refine m_var1 (d := 17) hm (by rfl) (by rfl) (by rfl) (by rfl) (by rfl) ?_; clear hm; intro b17 _ hm)
      | (refine m_push (d := 122) hm (by rfl) (by rfl) (by rfl) (by rfl) (by rfl) (by first | exact gt0 | exact gt1 | exact gt2 | exact gt3 | exact gt4 | exact gt5 | exact gt6) (by rfl) (by rfl) (by rfl) (by rfl) (by omega) (by omega) ?_; clear hm; intro a122 cp122 _ _ hm; try simp only [setn] at hm)
      | refine m_load1 hm (by rfl) (by rfl) (by rfl) (by first | exact gt0 | exact gt1 | exact gt2 | exact gt3 | exact gt4 | exact gt5 | exact gt6) (by rfl) ?_
      | refine i_load1 hm (by rfl) (by rfl) (by rfl) (by assumption) (by rfl) ?_
      | refine m_loadAll hm (by rfl) (by rfl) (by rfl) (by first | exact gt0 | exact gt1 | exact gt2 | exact gt3 | exact gt4 | exact gt5 | exact gt6) (by rfl) ?_
      | refine i_loadN hm (by rfl) (by rfl) (by rfl) (by assumption) (by rfl) ?_
      | refine i_load1z hm (by rfl) (by rfl) (by rfl) (by assumption) (by rfl) ?_
      | refine mq_load1 hm (by rfl) (by rfl) (by rfl) (by first | exact gt0 | exact gt1 | exact gt2 | exact gt3 | exact gt4 | exact gt5 | exact gt6) (by rfl) ?_
      | refine iq_load1 hm (by rfl) (by rfl) (by rfl) (by assumption) (by rfl) ?_
      | refine mq_loadAll hm (by rfl) (by rfl) (by rfl) (by first | exact gt0 | exact gt1 | exact gt2 | exact gt3 | exact gt4 | exact gt5 | exact gt6) (by rfl) ?_
      | refine iq_loadN hm (by rfl) (by rfl) (by rfl) (by assumption) (by rfl) ?_
      | refine iq_load1z hm (by rfl) (by rfl) (by rfl) (by assumption) (by rfl) ?_
      | (refine m_storeAll hm (by rfl) (by rfl) (by rfl) (by rfl) (by first | exact gt0 | exact gt1 | exact gt2 | exact gt3 | exact gt4 | exact gt5 | exact gt6) (by rfl) (by rfl) (by rfl) ?_; clear hm; intro _ hm; try simp only [setn] at hm)
      | (refine m_store1 hm (by rfl) (by rfl) (by rfl) (by rfl) (by first | exact gt0 | exact gt1 | exact gt2 | exact gt3 | exact gt4 | exact gt5 | exact gt6) (by rfl) (by rfl) (by rfl) ?_; clear hm; intro _ hm; try simp only [setn] at hm)
      | (refine m_storeN hm (by rfl) (by rfl) (by rfl) (by rfl) (by first | exact gt0 | exact gt1 | exact gt2 | exact gt3 | exact gt4 | exact gt5 | exact gt6) (by rfl) (by rfl) (by rfl) ?_; clear hm; intro _ hm; try simp only [setn] at hm)
      | refine m_ret_agg hm (by rfl) (by rfl) (by first | exact gt0 | exact gt1 | exact gt2 | exact gt3 | exact gt4 | exact gt5 | exact gt6) (by rfl) ?_
      | refine m_ret2_agg hm (by rfl) (by rfl) (by rfl) (by first | exact gt0 | exact gt1 | exact gt2 | exact gt3 | exact gt4 | exact gt5 | exact gt6) (by rfl) ?_
      | refine op_move (by rfl) (by rfl) (by rfl) ?_
      | refine op_assign (by rfl) (by rfl) (by rfl) ?_
      | refine op_pick_true (by rfl) (by rfl) (by rfl) (by rfl) ?_
      | refine op_pick_false (by rfl) (by rfl) (by rfl) (by rfl) ?_
      | refine op_lss (by rfl) (by rfl) (by rfl) (by rfl) ?_
      | refine op_leq (by rfl) (by rfl) (by rfl) (by rfl) ?_
      | refine op_gtr (by rfl) (by rfl) (by rfl) (by rfl) ?_
      | refine op_geq (by rfl) (by rfl) (by rfl) (by rfl) ?_
      | refine op_eql (by rfl) (by rfl) (by rfl) (by rfl) ?_
      | refine op_eql_str (by rfl) (by rfl) (by rfl) (by rfl) ?_
      | refine op_eql_bool (by rfl) (by rfl) (by rfl) (by rfl) ?_
      | refine op_eql_flat (by rfl) (by rfl) (by rfl) (by rfl) (by rfl) (by rfl) ?_
      | refine op_len_str (by rfl) (by rfl) (by rfl) ?_
      | refine op_len_slice (by rfl) (by rfl) (by rfl) ?_
      | refine op_not (by rfl) (by rfl) (by rfl) ?_
      | refine op_extract (by rfl) (by rfl) (by rfl) (by rfl) ?_
      | refine op_add (by rfl) (by rfl) (by rfl) (by rfl) (by omega) ?_
      | refine op_sub (by rfl) (by rfl) (by rfl) (by rfl) (by omega) ?_
      | refine op_add_u8 (by rfl) (by rfl) (by rfl) (by rfl) (by omega) ?_
      | refine op_sub_u8 (by rfl) (by rfl) (by rfl) (by rfl) (by omega) ?_
      | refine op_indexAddr_arr (by rfl) (by rfl) (by rfl) (by rfl) (by omega) (by omega) ?_
      | refine op_slice_str (by rfl) (by rfl) (by rfl) (by rfl) (by rfl) (by omega) ?_
      | refine op_slice_from (by rfl) (by rfl) (by rfl) (by rfl) (by omega) ?_
      | refine op_slice_to (by rfl) (by rfl) (by rfl) (by rfl) (by omega) ?_
      | refine op_fieldAddr (by rfl) (by rfl) (by rfl) ?_
      | refine op_indexAddr (by rfl) (by rfl) (by rfl) (by rfl) (by omega) (by omega) ?_
      | refine op_load1 (by rfl) (by rfl) (by rfl) (by assumption) (by rfl) ?_
      | refine op_struct (by rfl) (by rfl) (by rfl) (by rfl) ?_
      | refine op_build (by rfl) (by rfl) (by rfl) (fun _ => (by rfl)) ?_
      | refine wl_skip (by rfl) (by rfl) (by rfl) ?_
      | (refine wl_split_dec (by rfl) (by rfl) (by rfl) (fun _ => ?_) (fun _ => ?_) <;> (try first | contradiction | (exfalso; omega)))
      | (refine wl_split (by rfl) (by rfl) (by rfl) (fun _ => ?_) (fun _ => ?_) <;> (fail_if_success contradiction))
      | refine wl_nil ?_
      | refine at_then_normal ?_
      | refine at_then_ret ?_
      | refine at_then_exit ?_
      | refine at_block_normal ?_
      | refine at_block_ret ?_
      | refine at_block_exit ?_
      | refine at_block_other (by rfl) ?_
      | refine wc_seq ?_
      | refine wc_region ?_
      | refine wc_block ?_
      | refine wc_skip ?_
      | refine wc_exit ?_
      | refine wc_ret ?_
      | refine wc_quiet (by kernel_rfl) ?_
      | (refine wq_nil ?_; intro _ hkq; replace hm := hm.kept0 hkq; clear hkq)
      | (refine wq_nil_tail ?_; intro _ hkq; replace hm := hm.kept0 hkq; clear hkq)
      | refine wc_cond_true (by rfl) ?_
      | refine wc_cond_false (by rfl) ?_
      | (refine wc_cond_dec (by rfl) (fun _ => ?_) (fun _ => ?_) <;> (try first | contradiction | (exfalso; omega)))
      | refine wc_cond (by rfl) (fun _ => ?_) (fun _ => ?_)
      | refine q_move (by rfl) (by rfl) (by rfl) ?_
      | refine q_assign (by rfl) (by rfl) (by rfl) ?_
      | refine q_pick_true (by rfl) (by rfl) (by rfl) (by rfl) ?_
      | refine q_pick_false (by rfl) (by rfl) (by rfl) (by rfl) ?_
      | refine q_lss (by rfl) (by rfl) (by rfl) (by rfl) ?_
      | refine q_leq (by rfl) (by rfl) (by rfl) (by rfl) ?_
      | refine q_gtr (by rfl) (by rfl) (by rfl) (by rfl) ?_
      | refine q_geq (by rfl) (by rfl) (by rfl) (by rfl) ?_
      | refine q_eql (by rfl) (by rfl) (by rfl) (by rfl) ?_
      | refine q_eql_str (by rfl) (by rfl) (by rfl) (by rfl) ?_
      | refine q_eql_bool (by rfl) (by rfl) (by rfl) (by rfl) ?_
      | refine q_eql_flat (by rfl) (by rfl) (by rfl) (by rfl) (by rfl) (by rfl) ?_
      | refine q_len_str (by rfl) (by rfl) (by rfl) ?_
      | refine q_len_slice (by rfl) (by rfl) (by rfl) ?_
      | refine q_not (by rfl) (by rfl) (by rfl) ?_
      | refine q_extract (by rfl) (by rfl) (by rfl) (by rfl) ?_
      | refine q_add (by rfl) (by rfl) (by rfl) (by rfl) (by omega) ?_
      | refine q_sub (by rfl) (by rfl) (by rfl) (by rfl) (by omega) ?_
      | refine q_add_u8 (by rfl) (by rfl) (by rfl) (by rfl) (by omega) ?_
      | refine q_sub_u8 (by rfl) (by rfl) (by rfl) (by rfl) (by omega) ?_
      | refine q_indexAddr_arr (by rfl) (by rfl) (by rfl) (by rfl) (by omega) (by omega) ?_
      | refine q_slice_str (by rfl) (by rfl) (by rfl) (by rfl) (by rfl) (by omega) ?_
      | refine q_slice_from (by rfl) (by rfl) (by rfl) (by rfl) (by omega) ?_
      | refine q_slice_to (by rfl) (by rfl) (by rfl) (by rfl) (by omega) ?_
      | refine q_fieldAddr (by rfl) (by rfl) (by rfl) ?_
      | refine q_indexAddr (by rfl) (by rfl) (by rfl) (by rfl) (by omega) (by omega) ?_
      | refine q_load1 (by rfl) (by rfl) (by rfl) (by assumption) (by rfl) ?_
      | refine q_struct (by rfl) (by rfl) (by rfl) (by rfl) ?_
      | refine q_build (by rfl) (by rfl) (by rfl) (fun _ => (by rfl)) ?_
      | refine wq_skip (by rfl) (by rfl) (by rfl) ?_
      | (refine wq_split_dec (by rfl) (by rfl) (by rfl) (fun _ => ?_) (fun _ => ?_) <;> (try first | contradiction | (exfalso; omega)))
      | (refine wq_split (by rfl) (by rfl) (by rfl) (fun _ => ?_) (fun _ => ?_) <;> (fail_if_success contradiction))
      | refine v_move (by rfl) (by rfl) (by rfl) ?_
      | refine v_assign (by rfl) (by rfl) (by rfl) ?_
      | refine v_pick_true (by rfl) (by rfl) (by rfl) (by rfl) ?_
      | refine v_pick_false (by rfl) (by rfl) (by rfl) (by rfl) ?_
      | refine v_lss (by rfl) (by rfl) (by rfl) (by rfl) ?_
      | refine v_leq (by rfl) (by rfl) (by rfl) (by rfl) ?_
      | refine v_gtr (by rfl) (by rfl) (by rfl) (by rfl) ?_
      | refine v_geq (by rfl) (by rfl) (by rfl) (by rfl) ?_
      | refine v_eql (by rfl) (by rfl) (by rfl) (by rfl) ?_
      | refine v_eql_str (by rfl) (by rfl) (by rfl) (by rfl) ?_
      | refine v_eql_bool (by rfl) (by rfl) (by rfl) (by rfl) ?_
      | refine v_eql_flat (by rfl) (by rfl) (by rfl) (by rfl) (by rfl) (by rfl) ?_
      | refine v_len_str (by rfl) (by rfl) (by rfl) ?_
      | refine v_len_slice (by rfl) (by rfl) (by rfl) ?_
      | refine v_not (by rfl) (by rfl) (by rfl) ?_
      | refine v_extract (by rfl) (by rfl) (by rfl) (by rfl) ?_
      | refine v_add (by rfl) (by rfl) (by rfl) (by rfl) (by omega) ?_
      | refine v_sub (by rfl) (by rfl) (by rfl) (by rfl) (by omega) ?_
      | refine v_add_u8 (by rfl) (by rfl) (by rfl) (by rfl) (by omega) ?_
      | refine v_sub_u8 (by rfl) (by rfl) (by rfl) (by rfl) (by omega) ?_
      | refine v_indexAddr_arr (by rfl) (by rfl) (by rfl) (by rfl) (by omega) (by omega) ?_
      | refine v_slice_str (by rfl) (by rfl) (by rfl) (by rfl) (by rfl) (by omega) ?_
      | refine v_slice_from (by rfl) (by rfl) (by rfl) (by rfl) (by omega) ?_
      | refine v_slice_to (by rfl) (by rfl) (by rfl) (by rfl) (by omega) ?_
      | refine v_fieldAddr (by rfl) (by rfl) (by rfl) ?_
      | refine v_indexAddr (by rfl) (by rfl) (by rfl) (by rfl) (by omega) (by omega) ?_
      | refine v_load1 (by rfl) (by rfl) (by rfl) (by assumption) (by rfl) ?_
      | refine v_struct (by rfl) (by rfl) (by rfl) (by rfl) ?_
      | refine v_build (by rfl) (by rfl) (by rfl) (fun _ => (by rfl)) ?_
      | refine wv_skip (by rfl) (by rfl) (by rfl) ?_
      | (refine wv_split (by rfl) (by rfl) (by rfl) (fun _ => ?_) (fun _ => ?_) <;> (fail_if_success contradiction))
      | refine wv_nil ?_
      | refine ws_nil ?_)
    all_goals try (exfalso; first | omega | contradiction)
    exact at_round (⟨k + 1, _⟩ : AgM) (by exact ⟨rfl, rfl, rfl, rfl, rfl, rfl, rfl, rfl, trivial⟩) ⟨hm.tl, by dsimp only; omega, hput⟩ (by dsimp only; omega)
  obtain rfl : k = n0 := by omega
  rw [hn0] at hhad
  repeat' (first
    | (refine op_call (by rfl) (by rfl) (by rfl) (by exact c_cuts t (by omega) _) ?_; rintro tv wt ⟨hto, hkt⟩; obtain ⟨ta, tc, rfl⟩ := own_val hto; replace hm := hm.add (x := .row (.slice ta (Sp.cuts t).length tc) 3 1 (Sp.cuts t).length ((Sp.cuts t).flatMap encInt)) hkt (ownsRow_base hto (Nat.zero_le _)) (fun b hb => (hto.lt b hb).1))
    | (refine m_box (d := 3) hm (by rfl) (by rfl) (by rfl) (by rfl) ?_; clear hm; intro b3 _ hm)
    | (refine m_allocS (d := 6) hm (by rfl) (by rfl) ?_; clear hm; intro b6 _ hm)
    | (refine m_varS (d := 11) hm (by rfl) (by rfl) (by rfl) (by rfl) (by rfl) ?_; clear hm; intro b11 _ hm)
    | (refine m_var1 (d := 11) hm (by rfl) (by rfl) (by rfl) (by rfl) (by rfl) ?_; clear hm; intro b11 _ hm)
    | (refine m_allocS (d := 12) hm (by rfl) (by rfl) ?_; clear hm; intro b12 _ hm)
    | (refine m_push (d := 73) hm (by rfl) (by rfl) (by rfl) (by rfl) (by rfl) (by first | exact gt0 | exact gt1 | exact gt2 | exact gt3 | exact gt4 | exact gt5 | exact gt6) (by rfl) (by rfl) (by rfl) (by rfl) (by omega) (by omega) ?_; clear hm; intro a73 cp73 _ _ hm; try simp only [setn] at hm)
    | (refine m_varS (d := 17) hm (by rfl) (by rfl) (by rfl) (by rfl) (by rfl) ?_; clear hm; intro b17 _ hm)
    | (refine m_var1 (d := 17) hm (by rfl) (by rfl) (by rfl) (by rfl) (by rfl) ?_; clear hm; intro b17 _ hm)
    | (refine m_push (d := 122) hm (by rfl) (by rfl) (by rfl) (by rfl) (by rfl) (by first | exact gt0 | exact gt1 | exact gt2 | exact gt3 | exact gt4 | exact gt5 | exact gt6) (by rfl) (by rfl) (by rfl) (by rfl) (by omega) (by omega) ?_; clear hm; intro a122 cp122 _ _ hm; try simp only [setn] at hm)
    | refine m_load1 hm (by rfl) (by rfl) (by rfl) (by first | exact gt0 | exact gt1 | exact gt2 | exact gt3 | exact gt4 | exact gt5 | exact gt6) (by rfl) ?_
    | refine i_load1 hm (by rfl) (by rfl) (by rfl) (by assumption) (by rfl) ?_
    | refine m_loadAll hm (by rfl) (by rfl) (by rfl) (by first | exact gt0 | exact gt1 | exact gt2 | exact gt3 | exact gt4 | exact gt5 | exact gt6) (by rfl) ?_
    | refine i_loadN hm (by rfl) (by rfl) (by rfl) (by assumption) (by rfl) ?_
    | refine i_load1z hm (by rfl) (by rfl) (by rfl) (by assumption) (by rfl) ?_
    | refine mq_load1 hm (by rfl) (by rfl) (by rfl) (by first | exact gt0 | exact gt1 | exact gt2 | exact gt3 | exact gt4 | exact gt5 | exact gt6) (by rfl) ?_
    | refine iq_load1 hm (by rfl) (by rfl) (by rfl) (by assumption) (by rfl) ?_
    | refine mq_loadAll hm (by rfl) (by rfl) (by rfl) (by first | exact gt0 | exact gt1 | exact gt2 | exact gt3 | exact gt4 | exact gt5 | exact gt6) (by rfl) ?_
    | refine iq_loadN hm (by rfl) (by rfl) (by rfl) (by assumption) (by rfl) ?_
    | refine iq_load1z hm (by rfl) (by rfl) (by rfl) (by assumption) (by rfl) ?_
    | (refine m_storeAll hm (by rfl) (by rfl) (by rfl) (by rfl) (by first | exact gt0 | exact gt1 | exact gt2 | exact gt3 | exact gt4 | exact gt5 | exact gt6) (by rfl) (by rfl) (by rfl) ?_; clear hm; intro _ hm; try simp only [setn] at hm)
    | (refine m_store1 hm (by rfl) (by rfl) (by rfl) (by rfl) (by first | exact gt0 | exact gt1 | exact gt2 | exact gt3 | exact gt4 | exact gt5 | exact gt6) (by rfl) (by rfl) (by rfl) ?_; clear hm; intro _ hm; try simp only [setn] at hm)
    | (refine m_storeN hm (by rfl) (by rfl) (by rfl) (by rfl) (by first | exact gt0 | exact gt1 | exact gt2 | exact gt3 | exact gt4 | exact gt5 | exact gt6) (by rfl) (by rfl) (by rfl) ?_; clear hm; intro _ hm; try simp only [setn] at hm)
    | refine m_ret_agg hm (by rfl) (by rfl) (by first | exact gt0 | exact gt1 | exact gt2 | exact gt3 | exact gt4 | exact gt5 | exact gt6) (by rfl) ?_
    | refine m_ret2_agg hm (by rfl) (by rfl) (by rfl) (by first | exact gt0 | exact gt1 | exact gt2 | exact gt3 | exact gt4 | exact gt5 | exact gt6) (by rfl) ?_
    | refine op_move (by rfl) (by rfl) (by rfl) ?_
    | refine op_assign (by rfl) (by rfl) (by rfl) ?_
    | refine op_pick_true (by rfl) (by rfl) (by rfl) (by rfl) ?_
    | refine op_pick_false (by rfl) (by rfl) (by rfl) (by rfl) ?_
    | refine op_lss (by rfl) (by rfl) (by rfl) (by rfl) ?_
    | refine op_leq (by rfl) (by rfl) (by rfl) (by rfl) ?_
    | refine op_gtr (by rfl) (by rfl) (by rfl) (by rfl) ?_
    | refine op_geq (by rfl) (by rfl) (by rfl) (by rfl) ?_
    | refine op_eql (by rfl) (by rfl) (by rfl) (by rfl) ?_
    | refine op_eql_str (by rfl) (by rfl) (by rfl) (by rfl) ?_
    | refine op_eql_bool (by rfl) (by rfl) (by rfl) (by rfl) ?_
    | refine op_eql_flat (by rfl) (by rfl) (by rfl) (by rfl) (by rfl) (by rfl) ?_
    | refine op_len_str (by rfl) (by rfl) (by rfl) ?_
    | refine op_len_slice (by rfl) (by rfl) (by rfl) ?_
    | refine op_not (by rfl) (by rfl) (by rfl) ?_
    | refine op_extract (by rfl) (by rfl) (by rfl) (by rfl) ?_
    | refine op_add (by rfl) (by rfl) (by rfl) (by rfl) (by omega) ?_
    | refine op_sub (by rfl) (by rfl) (by rfl) (by rfl) (by omega) ?_
    | refine op_add_u8 (by rfl) (by rfl) (by rfl) (by rfl) (by omega) ?_
    | refine op_sub_u8 (by rfl) (by rfl) (by rfl) (by rfl) (by omega) ?_
    | refine op_indexAddr_arr (by rfl) (by rfl) (by rfl) (by rfl) (by omega) (by omega) ?_
    | refine op_slice_str (by rfl) (by rfl) (by rfl) (by rfl) (by rfl) (by omega) ?_
    | refine op_slice_from (by rfl) (by rfl) (by rfl) (by rfl) (by omega) ?_
    | refine op_slice_to (by rfl) (by rfl) (by rfl) (by rfl) (by omega) ?_
    | refine op_fieldAddr (by rfl) (by rfl) (by rfl) ?_
    | refine op_indexAddr (by rfl) (by rfl) (by rfl) (by rfl) (by omega) (by omega) ?_
    | refine op_load1 (by rfl) (by rfl) (by rfl) (by assumption) (by rfl) ?_
    | refine op_struct (by rfl) (by rfl) (by rfl) (by rfl) ?_
    | refine op_build (by rfl) (by rfl) (by rfl) (fun _ => (by rfl)) ?_
    | refine wl_skip (by rfl) (by rfl) (by rfl) ?_
    | (refine wl_split_dec (by rfl) (by rfl) (by rfl) (fun _ => ?_) (fun _ => ?_) <;> (try first | contradiction | (exfalso; omega)))
    | (refine wl_split (by rfl) (by rfl) (by rfl) (fun _ => ?_) (fun _ => ?_) <;> (fail_if_success contradiction))
    | refine wl_nil ?_
    | refine at_then_normal ?_
    | refine at_then_ret ?_
    | refine at_then_exit ?_
    | refine at_block_normal ?_
    | refine at_block_ret ?_
    | refine at_block_exit ?_
    | refine at_block_other (by rfl) ?_
    | refine wc_seq ?_
    | refine wc_region ?_
    | refine wc_block ?_
    | refine wc_skip ?_
    | refine wc_exit ?_
    | refine wc_ret ?_
    | refine wc_quiet (by kernel_rfl) ?_
    | (refine wq_nil ?_; intro _ hkq; replace hm := hm.kept0 hkq; clear hkq)
    | (refine wq_nil_tail ?_; intro _ hkq; replace hm := hm.kept0 hkq; clear hkq)
    | refine wc_cond_true (by rfl) ?_
    | refine wc_cond_false (by rfl) ?_
    | (refine wc_cond_dec (by rfl) (fun _ => ?_) (fun _ => ?_) <;> (try first | contradiction | (exfalso; omega)))
    | refine wc_cond (by rfl) (fun _ => ?_) (fun _ => ?_)
    | refine q_move (by rfl) (by rfl) (by rfl) ?_
    | refine q_assign (by rfl) (by rfl) (by rfl) ?_
    | refine q_pick_true (by rfl) (by rfl) (by rfl) (by rfl) ?_
    | refine q_pick_false (by rfl) (by rfl) (by rfl) (by rfl) ?_
    | refine q_lss (by rfl) (by rfl) (by rfl) (by rfl) ?_
    | refine q_leq (by rfl) (by rfl) (by rfl) (by rfl) ?_
    | refine q_gtr (by rfl) (by rfl) (by rfl) (by rfl) ?_
    | refine q_geq (by rfl) (by rfl) (by rfl) (by rfl) ?_
    | refine q_eql (by rfl) (by rfl) (by rfl) (by rfl) ?_
    | refine q_eql_str (by rfl) (by rfl) (by rfl) (by rfl) ?_
    | refine q_eql_bool (by rfl) (by rfl) (by rfl) (by rfl) ?_
    | refine q_eql_flat (by rfl) (by rfl) (by rfl) (by rfl) (by rfl) (by rfl) ?_
    | refine q_len_str (by rfl) (by rfl) (by rfl) ?_
    | refine q_len_slice (by rfl) (by rfl) (by rfl) ?_
    | refine q_not (by rfl) (by rfl) (by rfl) ?_
    | refine q_extract (by rfl) (by rfl) (by rfl) (by rfl) ?_
    | refine q_add (by rfl) (by rfl) (by rfl) (by rfl) (by omega) ?_
    | refine q_sub (by rfl) (by rfl) (by rfl) (by rfl) (by omega) ?_
    | refine q_add_u8 (by rfl) (by rfl) (by rfl) (by rfl) (by omega) ?_
    | refine q_sub_u8 (by rfl) (by rfl) (by rfl) (by rfl) (by omega) ?_
    | refine q_indexAddr_arr (by rfl) (by rfl) (by rfl) (by rfl) (by omega) (by omega) ?_
    | refine q_slice_str (by rfl) (by rfl) (by rfl) (by rfl) (by rfl) (by omega) ?_
    | refine q_slice_from (by rfl) (by rfl) (by rfl) (by rfl) (by omega) ?_
    | refine q_slice_to (by rfl) (by rfl) (by rfl) (by rfl) (by omega) ?_
    | refine q_fieldAddr (by rfl) (by rfl) (by rfl) ?_
    | refine q_indexAddr (by rfl) (by rfl) (by rfl) (by rfl) (by omega) (by omega) ?_
    | refine q_load1 (by rfl) (by rfl) (by rfl) (by assumption) (by rfl) ?_
    | refine q_struct (by rfl) (by rfl) (by rfl) (by rfl) ?_
    | refine q_build (by rfl) (by rfl) (by rfl) (fun _ => (by rfl)) ?_
    | refine wq_skip (by rfl) (by rfl) (by rfl) ?_
    | (refine wq_split_dec (by rfl) (by rfl) (by rfl) (fun _ => ?_) (fun _ => ?_) <;> (try first | contradiction | (exfalso; omega)))
    | (refine wq_split (by rfl) (by rfl) (by rfl) (fun _ => ?_) (fun _ => ?_) <;> (fail_if_success contradiction)))
  all_goals try (exfalso; omega)
  obtain ⟨I2, hle2, hm2, hrow⟩ := hm.freeze
  clear hm hto hkt
  have hm := hm2.nil 42 10
  clear hm2
  obtain ⟨n, hn⟩ : ∃ n, n = (Sp.cuts t).length := ⟨_, rfl⟩
  have hcat : ∀ k, k < n → (Sp.cuts t).getD k 0 < (Sp.cuts t).getD (k + 1) t.length ∧ (Sp.cuts t).getD (k + 1) t.length ≤ t.length := fun k hk => Sp.cuts_at t (by omega)
  have hfl : (Sp.cuts t).flatMap encInt ++ [nt t.length] = (Sp.cuts t ++ [t.length]).flatMap encInt := by rw [List.flatMap_append]; rfl
  have hz1 : ∀ k, k < n → (Sp.cuts t ++ [t.length])[k]? = some ((Sp.cuts t).getD k 0) := fun k hk => by
    rw [List.getElem?_append_left (by omega), List.getD_eq_getElem?_getD, List.getElem?_eq_getElem (by omega)]; rfl
  have hz2 : ∀ k, k < n → (Sp.cuts t ++ [t.length])[k + 1]? = some ((Sp.cuts t).getD (k + 1) t.length) := fun k hk => by
    rcases Nat.lt_or_ge (k + 1) (Sp.cuts t).length with h | h
    · rw [List.getElem?_append_left h, List.getD_eq_getElem?_getD, List.getElem?_eq_getElem h]; rfl
    · rw [List.getElem?_append_right h, show k + 1 - (Sp.cuts t).length = 0 by omega, List.getD_eq_getElem?_getD, List.getElem?_eq_none h]; rfl
  have hsm : ∀ k, (Sp.piece t (Sp.cuts t) k).length ≤ 1048576 := fun k => by rw [Sp.piece, List.length_take, List.length_drop]; omega
  have hits0 : Sp.items t (Sp.cuts t) = (List.range n).map (Sp.itemAt t (Sp.cuts t)) := by rw [Sp.items, hn]
  have hfr : ∀ k, Sp.fresh s t (k + 1) = Sp.fresh s t k + if (Sp.pieces s).contains (Sp.piece t (Sp.cuts t) k) = true then 0 else 1 := fun k => by
    rw [Sp.fresh_succ, Sp.anew]
    cases (Sp.pieces s).contains (Sp.piece t (Sp.cuts t) k) <;> rfl
  have hfr0 : Sp.fresh s t 0 = 0 := rfl
  have hfrl : ∀ k, Sp.fresh s t k ≤ k := Sp.fresh_le s t
  have herr : 30 < n → Sp.fileErr t = 5 ∧ Sp.fileItems t = [] ∧ Sp.freshAll s t = 0 := fun h => by
    have : Sp.fileErr t = 5 := by rw [Sp.fileErr, if_neg hl, if_pos (by omega)]
    exact ⟨this, by rw [Sp.fileItems, this]; rfl, by rw [Sp.freshAll, this]; rfl⟩
  have hok : n ≤ 30 → Sp.fileErr t = 0 ∧ Sp.fileItems t = Sp.items t (Sp.cuts t) ∧ Sp.freshAll s t = Sp.fresh s t n := fun h => by
    have : Sp.fileErr t = 0 := by rw [Sp.fileErr, if_neg hl, if_neg (by omega)]
    exact ⟨this, by rw [Sp.fileItems, this]; rfl, by rw [Sp.freshAll, if_pos this, hn]⟩
  change RowI I2 3 1 (.slice a73 ((Sp.cuts t).length + 1) cp73) ((Sp.cuts t).length + 1) ((Sp.cuts t).flatMap encInt ++ [nt t.length]) at hrow
  rw [hfl, ← hn] at hrow
  rw [← hn] at hcl ⊢
  generalize Sp.fileErr t = er at herr hok ⊢
  generalize Sp.fileItems t = its at herr hok ⊢
  generalize Sp.freshAll s t = fa at herr hok ⊢
  clear hn hfl
  have hsmall : ∀ k, (Sp.itemAt t (Sp.cuts t) k).small := fun k => Sp.item_small _ _ (hsm k)
  generalize Sp.cuts t = cz at hrow hcat hz1 hz2 hits0 hok hsm hsmall hfr
  generalize Sp.fresh s t = fr at hok hfr hfr0 hfrl
  refine wc_loop (fun x : AgY => [(2, str t), (6, ptr b6), (9, .map (some bm)), (12, ptr b12), (13, nt x.n), (14, .slice a73 (n + 1) cp73), (76, .int .i64 (((n + 1 : Nat) : Int) - 1)), (77, nt x.k)])
    (fun x w' => Mem E x.I [itRow x.k x.a x.cp x.xs, .cell b12 [.slice x.a x.k x.cp] 27, .mp bm es, .cell b6 [.slice none 0 0] 27, .cell b3 [.slice a0 k c0] 27] w' ∧ Le I2 x.I ∧ ItsAt x.I ((List.range x.k).map (Sp.itemAt t cz)) x.xs ∧ x.k ≤ n ∧ x.k ≤ 30 ∧ x.n = fr x.k)
    (fun x => n - x.k) ⟨0, 0, I2, none, 0, []⟩ (by exact ⟨rfl, rfl, rfl, rfl, rfl, rfl, rfl, rfl, trivial⟩) ⟨hm, Le.refl _, rfl, Nat.zero_le _, by dsimp only; omega, hfr0.symm⟩ ?_
  clear hm
  rintro ⟨m, nf, I3, a, cp, xs⟩ w2 ⟨hm, hle3, hits, hm1, hm30, hnf⟩
  dsimp only at hm hle3 hits hm1 hm30 hnf ⊢
  have hrow2 := hrow.le hle3
  have hfm := hfrl m
  rw [← hnf] at hfm
  by_cases hlt : m < n
  · by_cases h30 : m = 30
    · obtain ⟨he, hi, hf⟩ := herr (by omega)
      subst he; subst hi; subst hf
      repeat' (first
        | (refine m_ret3_agg hm (by rfl) (by rfl) (by rfl) (by rfl) (by first | exact gt0 | exact gt1 | exact gt2 | exact gt3 | exact gt4 | exact gt5 | exact gt6) (by rfl) ?_)
        | (refine m_box (d := 3) hm (by rfl) (by rfl) (by rfl) (by rfl) ?_; clear hm; intro b3 _ hm)
        | (refine m_allocS (d := 6) hm (by rfl) (by rfl) ?_; clear hm; intro b6 _ hm)
        | (refine m_varS (d := 11) hm (by rfl) (by rfl) (by rfl) (by rfl) (by rfl) ?_; clear hm; intro b11 _ hm)
        | (refine m_var1 (d := 11) hm (by rfl) (by rfl) (by rfl) (by rfl) (by rfl) ?_; clear hm; intro b11 _ hm)
        | (refine m_allocS (d := 12) hm (by rfl) (by rfl) ?_; clear hm; intro b12 _ hm)
        | (refine m_push (d := 73) hm (by rfl) (by rfl) (by rfl) (by rfl) (by rfl) (by first | exact gt0 | exact gt1 | exact gt2 | exact gt3 | exact gt4 | exact gt5 | exact gt6) (by rfl) (by rfl) (by rfl) (by rfl) (by omega) (by omega) ?_; clear hm; intro a73 cp73 _ _ hm; try simp only [setn] at hm)
        | (refine m_varS (d := 17) hm (by rfl) (by rfl) (by rfl) (by rfl) (by rfl) ?_; clear hm; intro b17 _ hm)
        | (refine m_var1 (d := 17) hm (by rfl) (by rfl) (by rfl) (by rfl) (by rfl) ?_; clear hm; intro b17 _ hm)
        | (refine m_push (d := 122) hm (by rfl) (by rfl) (by rfl) (by rfl) (by rfl) (by first | exact gt0 | exact gt1 | exact gt2 | exact gt3 | exact gt4 | exact gt5 | exact gt6) (by rfl) (by rfl) (by rfl) (by rfl) (by omega) (by omega) ?_; clear hm; intro a122 cp122 _ _ hm; try simp only [setn] at hm)
        | refine m_load1 hm (by rfl) (by rfl) (by rfl) (by first | exact gt0 | exact gt1 | exact gt2 | exact gt3 | exact gt4 | exact gt5 | exact gt6) (by rfl) ?_
        | refine i_load1 hm (by rfl) (by rfl) (by rfl) (by assumption) (by rfl) ?_
        | refine m_loadAll hm (by rfl) (by rfl) (by rfl) (by first | exact gt0 | exact gt1 | exact gt2 | exact gt3 | exact gt4 | exact gt5 | exact gt6) (by rfl) ?_
        | refine i_loadN hm (by rfl) (by rfl) (by rfl) (by assumption) (by rfl) ?_
        | refine i_load1z hm (by rfl) (by rfl) (by rfl) (by assumption) (by rfl) ?_
        | refine mq_load1 hm (by rfl) (by rfl) (by rfl) (by first | exact gt0 | exact gt1 | exact gt2 | exact gt3 | exact gt4 | exact gt5 | exact gt6) (by rfl) ?_
        | refine iq_load1 hm (by rfl) (by rfl) (by rfl) (by assumption) (by rfl) ?_
        | refine mq_loadAll hm (by rfl) (by rfl) (by rfl) (by first | exact gt0 | exact gt1 | exact gt2 | exact gt3 | exact gt4 | exact gt5 | exact gt6) (by rfl) ?_
        | refine iq_loadN hm (by rfl) (by rfl) (by rfl) (by assumption) (by rfl) ?_
        | refine iq_load1z hm (by rfl) (by rfl) (by rfl) (by assumption) (by rfl) ?_
        | (refine m_storeAll hm (by rfl) (by rfl) (by rfl) (by rfl) (by first | exact gt0 | exact gt1 | exact gt2 | exact gt3 | exact gt4 | exact gt5 | exact gt6) (by rfl) (by rfl) (by rfl) ?_; clear hm; intro _ hm; try simp only [setn] at hm)
        | (refine m_store1 hm (by rfl) (by rfl) (by rfl) (by rfl) (by first | exact gt0 | exact gt1 | exact gt2 | exact gt3 | exact gt4 | exact gt5 | exact gt6) (by rfl) (by rfl) (by rfl) ?_; clear hm; intro _ hm; try simp only [setn] at hm)
        | (refine m_storeN hm (by rfl) (by rfl) (by rfl) (by rfl) (by first | exact gt0 | exact gt1 | exact gt2 | exact gt3 | exact gt4 | exact gt5 | exact gt6) (by rfl) (by rfl) (by rfl) ?_; clear hm; intro _ hm; try simp only [setn] at hm)
        | refine m_ret_agg hm (by rfl) (by rfl) (by first | exact gt0 | exact gt1 | exact gt2 | exact gt3 | exact gt4 | exact gt5 | exact gt6) (by rfl) ?_
        | refine m_ret2_agg hm (by rfl) (by rfl) (by rfl) (by first | exact gt0 | exact gt1 | exact gt2 | exact gt3 | exact gt4 | exact gt5 | exact gt6) (by rfl) ?_
        | refine op_move (by rfl) (by rfl) (by rfl) ?_
        | refine op_assign (by rfl) (by rfl) (by rfl) ?_
        | refine op_pick_true (by rfl) (by rfl) (by rfl) (by rfl) ?_
        | refine op_pick_false (by rfl) (by rfl) (by rfl) (by rfl) ?_
        | refine op_lss (by rfl) (by rfl) (by rfl) (by rfl) ?_
        | refine op_leq (by rfl) (by rfl) (by rfl) (by rfl) ?_
        | refine op_gtr (by rfl) (by rfl) (by rfl) (by rfl) ?_
        | refine op_geq (by rfl) (by rfl) (by rfl) (by rfl) ?_
        | refine op_eql (by rfl) (by rfl) (by rfl) (by rfl) ?_
        | refine op_eql_str (by rfl) (by rfl) (by rfl) (by rfl) ?_
        | refine op_eql_bool (by rfl) (by rfl) (by rfl) (by rfl) ?_
        | refine op_eql_flat (by rfl) (by rfl) (by rfl) (by rfl) (by rfl) (by rfl) ?_
        | refine op_len_str (by rfl) (by rfl) (by rfl) ?_
        | refine op_len_slice (by rfl) (by rfl) (by rfl) ?_
        | refine op_not (by rfl) (by rfl) (by rfl) ?_
        | refine op_extract (by rfl) (by rfl) (by rfl) (by rfl) ?_
        | refine op_add (by rfl) (by rfl) (by rfl) (by rfl) (by omega) ?_
        | refine op_sub (by rfl) (by rfl) (by rfl) (by rfl) (by omega) ?_
        | refine op_add_u8 (by rfl) (by rfl) (by rfl) (by rfl) (by omega) ?_
        | refine op_sub_u8 (by rfl) (by rfl) (by rfl) (by rfl) (by omega) ?_
        | refine op_indexAddr_arr (by rfl) (by rfl) (by rfl) (by rfl) (by omega) (by omega) ?_
        | refine op_slice_str (by rfl) (by rfl) (by rfl) (by rfl) (by rfl) (by omega) ?_
        | refine op_slice_from (by rfl) (by rfl) (by rfl) (by rfl) (by omega) ?_
        | refine op_slice_to (by rfl) (by rfl) (by rfl) (by rfl) (by omega) ?_
        | refine op_fieldAddr (by rfl) (by rfl) (by rfl) ?_
        | refine op_indexAddr (by rfl) (by rfl) (by rfl) (by rfl) (by omega) (by omega) ?_
        | refine op_load1 (by rfl) (by rfl) (by rfl) (by assumption) (by rfl) ?_
        | refine op_struct (by rfl) (by rfl) (by rfl) (by rfl) ?_
        | refine op_build (by rfl) (by rfl) (by rfl) (fun _ => (by rfl)) ?_
        | refine wl_skip (by rfl) (by rfl) (by rfl) ?_
        | (refine wl_split_dec (by rfl) (by rfl) (by rfl) (fun _ => ?_) (fun _ => ?_) <;> (try first | contradiction | (exfalso; omega)))
        | (refine wl_split (by rfl) (by rfl) (by rfl) (fun _ => ?_) (fun _ => ?_) <;> (fail_if_success contradiction))
        | refine wl_nil ?_
        | refine at_then_normal ?_
        | refine at_then_ret ?_
        | refine at_then_exit ?_
        | refine at_block_normal ?_
        | refine at_block_ret ?_
        | refine at_block_exit ?_
        | refine at_block_other (by rfl) ?_
        | refine wc_seq ?_
        | refine wc_region ?_
        | refine wc_block ?_
        | refine wc_skip ?_
        | refine wc_exit ?_
        | refine wc_ret ?_
        | refine wc_quiet (by kernel_rfl) ?_
        | (refine wq_nil ?_; intro _ hkq; replace hm := hm.kept0 hkq; clear hkq)
        | (refine wq_nil_tail ?_; intro _ hkq; replace hm := hm.kept0 hkq; clear hkq)
        | refine wc_cond_true (by rfl) ?_
        | refine wc_cond_false (by rfl) ?_
        | (refine wc_cond_dec (by rfl) (fun _ => ?_) (fun _ => ?_) <;> (try first | contradiction | (exfalso; omega)))
        | refine wc_cond (by rfl) (fun _ => ?_) (fun _ => ?_)
        | refine q_move (by rfl) (by rfl) (by rfl) ?_
        | refine q_assign (by rfl) (by rfl) (by rfl) ?_
        | refine q_pick_true (by rfl) (by rfl) (by rfl) (by rfl) ?_
        | refine q_pick_false (by rfl) (by rfl) (by rfl) (by rfl) ?_
        | refine q_lss (by rfl) (by rfl) (by rfl) (by rfl) ?_
        | refine q_leq (by rfl) (by rfl) (by rfl) (by rfl) ?_
        | refine q_gtr (by rfl) (by rfl) (by rfl) (by rfl) ?_
        | refine q_geq (by rfl) (by rfl) (by rfl) (by rfl) ?_
        | refine q_eql (by rfl) (by rfl) (by rfl) (by rfl) ?_
        | refine q_eql_str (by rfl) (by rfl) (by rfl) (by rfl) ?_
        | refine q_eql_bool (by rfl) (by rfl) (by rfl) (by rfl) ?_
        | refine q_eql_flat (by rfl) (by rfl) (by rfl) (by rfl) (by rfl) (by rfl) ?_
        | refine q_len_str (by rfl) (by rfl) (by rfl) ?_
        | refine q_len_slice (by rfl) (by rfl) (by rfl) ?_
        | refine q_not (by rfl) (by rfl) (by rfl) ?_
        | refine q_extract (by rfl) (by rfl) (by rfl) (by rfl) ?_
        | refine q_add (by rfl) (by rfl) (by rfl) (by rfl) (by omega) ?_
        | refine q_sub (by rfl) (by rfl) (by rfl) (by rfl) (by omega) ?_
        | refine q_add_u8 (by rfl) (by rfl) (by rfl) (by rfl) (by omega) ?_
        | refine q_sub_u8 (by rfl) (by rfl) (by rfl) (by rfl) (by omega) ?_
        | refine q_indexAddr_arr (by rfl) (by rfl) (by rfl) (by rfl) (by omega) (by omega) ?_
        | refine q_slice_str (by rfl) (by rfl) (by rfl) (by rfl) (by rfl) (by omega) ?_
        | refine q_slice_from (by rfl) (by rfl) (by rfl) (by rfl) (by omega) ?_
        | refine q_slice_to (by rfl) (by rfl) (by rfl) (by rfl) (by omega) ?_
        | refine q_fieldAddr (by rfl) (by rfl) (by rfl) ?_
        | refine q_indexAddr (by rfl) (by rfl) (by rfl) (by rfl) (by omega) (by omega) ?_
        | refine q_load1 (by rfl) (by rfl) (by rfl) (by assumption) (by rfl) ?_
        | refine q_struct (by rfl) (by rfl) (by rfl) (by rfl) ?_
        | refine q_build (by rfl) (by rfl) (by rfl) (fun _ => (by rfl)) ?_
        | refine wq_skip (by rfl) (by rfl) (by rfl) ?_
        | (refine wq_split_dec (by rfl) (by rfl) (by rfl) (fun _ => ?_) (fun _ => ?_) <;> (try first | contradiction | (exfalso; omega)))
        | (refine wq_split (by rfl) (by rfl) (by rfl) (fun _ => ?_) (fun _ => ?_) <;> (fail_if_success contradiction)))
      all_goals try (exfalso; omega)
      exact ⟨_, _, ⟨none, 0, [], rfl, rowI_nil _ _ _ _ _, rfl, rfl⟩, hm.left (H := [])⟩
    · have hca := hcat m hlt
      have hza : (cz ++ [t.length])[((m : Nat) : Int).toNat]? = some (cz.getD m 0) := by rw [Int.toNat_natCast]; exact hz1 m hlt
      have hzb : (cz ++ [t.length])[(((m : Nat) : Int) + 1).toNat]? = some (cz.getD (m + 1) t.length) := by
        rw [show (((m : Nat) : Int) + 1).toNat = m + 1 by omega]; exact hz2 m hlt
      have hit := p_item (Sp.piece t cz m) ((cz.getD m 0 : Nat) : Int) I3 ((hC.le hle2).le hle3) (hsm m)
      have hmv : ∀ j, Sp.piece t cz m = Sp.piece s (Sp.cuts s) j → Sp.itemAt s (Sp.cuts s) j = { Sp.itemAt t cz m with at_ := (((Sp.cuts s).getD j 0 : Nat) : Int) } := fun j hj => by
        rw [Sp.itemAt, ← hj]; exact Sp.item_moved _ _ _
      have hlook := hhad.look (Sp.piece t cz m) (.agg it0.toArray)
      have hfs := hfr m
      rw [show Sp.item (Sp.piece t cz m) ((cz.getD m 0 : Nat) : Int) = Sp.itemAt t cz m from rfl] at hit
      have hpc : Sp.piece t cz m = (t.drop (cz.getD m 0)).take (cz.getD (m + 1) t.length - cz.getD m 0) := rfl
      rw [hpc] at hit hmv hlook hfs
      have hat : (Sp.itemAt t cz m).at_ = ((cz.getD m 0 : Nat) : Int) := Sp.item_at _ _
      have hsk := hsmall m
      have hsn := Sp.items_snoc t cz m
      generalize Sp.itemAt t cz m = it at hit hat hsk hsn hmv
      generalize cz.getD (m + 1) t.length = e2 at hca hzb hit hmv hlook hfs hpc
      generalize cz.getD m 0 = e1 at hca hza hit hat hmv hlook hfs hpc
      clear hsmall hsm hcat hz1 hz2 hits0 herr hok hfr hpc
      rcases hlook with ⟨hb, hcn, j, cs, hpj, hv, hi⟩ | ⟨hb, hcn, hv⟩
      · rw [hmv j hpj] at hi
        rw [if_pos hcn] at hfs
        obtain ⟨ap, cp1, as_, cs1, ab, cb, ad, cd, xb, rfl, r1, r2, r3, r4, r5⟩ := moved_at ((hi.le hle2).le hle3)
        clear hi hit hmv hcn
        repeat' (first
          | (refine wc_semi_mem (id := 24) (hm.perm pm1_1) 3 6 (by kernel_rfl) ?_; clear hm; intro wd hR hm)
          | (refine iq_indexFlat (d := 88) (enc := encInt) (z := e1) (by rfl) (by rfl) (by rfl) (by rfl) hrow2 (fun _ => rfl) (by omega) (by omega) hza ?_; intro bt ot hpt)
          | (refine iq_indexFlat (d := 93) (enc := encInt) (z := e2) (by rfl) (by rfl) (by rfl) (by rfl) hrow2 (fun _ => rfl) (by omega) (by omega) hzb ?_; intro bt2 ot2 hpt2)
          | (refine m_lookup2 (s := (t.drop e1).take (e2 - e1)) hm (by rfl) (by rfl) (by rfl) (by rfl) (by first | exact gt0 | exact gt1 | exact gt2 | exact gt3 | exact gt4 | exact gt5 | exact gt6) (by exact hhad.nodup) zero_item ?_; rw [hv, hb])
          | (refine i_indexFlat (d := 109) (enc := encInt) (z := e1) (by rfl) (by rfl) (by rfl) (by rfl) hrow2 (fun _ => rfl) (by omega) (by omega) hza ?_; intro bt3 ot3 hpt3)
          | (refine i_indexFlat (d := 114) (enc := encInt) (z := e1) (by rfl) (by rfl) (by rfl) (by rfl) hrow2 (fun _ => rfl) (by omega) (by omega) hza ?_; intro bt4 ot4 hpt4)
          | (refine mt_call (d := 120) hm (by rfl) (by rfl) (by rfl) (by first | exact pm0 | exact pm1_0 | exact pm1_1 | exact pm1_2 | exact pm1_3 | exact pm2_0 | exact pm2_1 | exact pm2_2 | exact pm2_3 | exact pm2_4 | exact pm3_0 | exact pm3_1 | exact pm3_2) (p_own it hsk _ _ ⟨ap, cp1, as_, cs1, ab, cb, ad, cd, xb, by rw [hat], r1, r2, r3, r4, r5⟩) ?_; clear hm; rintro _ I5 _ _ ⟨_, rfl, ⟨ap2, cp2, as2, cs2, ab2, cb2, ad2, cd2, xb2, rfl, q1, q2, q3, q4, q5⟩, rfl⟩ hle hm; have hleI5 := hle; try simp only [setn] at hm)
          | refine mw_loadAll hR (by rfl) (by rfl) (by rfl) (by first | exact gt0 | exact gt1 | exact gt2 | exact gt3 | exact gt4 | exact gt5 | exact gt6) (by rfl) ?_
          | refine mw_load1 hR (by rfl) (by rfl) (by rfl) (by first | exact gt0 | exact gt1 | exact gt2 | exact gt3 | exact gt4 | exact gt5 | exact gt6) (by rfl) ?_
          | refine iw_load1 hR (by rfl) (by rfl) (by rfl) (by assumption) (by rfl) ?_
          | refine mt_struct hm (by rfl) (by rfl) (by rfl) (by rfl) ?_
          | refine iw_loadN hR (by rfl) (by rfl) (by rfl) (by assumption) (by rfl) ?_
          | (refine mt_push (d := 122) hm (by rfl) (by rfl) (by rfl) (by rfl) (by rfl) (by first | exact gt0 | exact gt1 | exact gt2 | exact gt3 | exact gt4 | exact gt5 | exact gt6) (by rfl) (by rfl) (by rfl) (by rfl) (by omega) (by omega) ?_; clear hm; intro a122 cp122 _ _ hm; replace hm := hR.back hm; clear hR; try simp only [setn] at hm)
          | (refine ws_nil ?_; replace hm := hR.back hm; clear hR; try simp only [setn] at hm)
          | (refine m_box (d := 3) hm (by rfl) (by rfl) (by rfl) (by rfl) ?_; clear hm; intro b3 _ hm)
          | (refine m_allocS (d := 6) hm (by rfl) (by rfl) ?_; clear hm; intro b6 _ hm)
          | (refine m_varS (d := 11) hm (by rfl) (by rfl) (by rfl) (by rfl) (by rfl) ?_; clear hm; intro b11 _ hm)
          | (refine m_var1 (d := 11) hm (by rfl) (by rfl) (by rfl) (by rfl) (by rfl) ?_; clear hm; intro b11 _ hm)
          | (refine m_allocS (d := 12) hm (by rfl) (by rfl) ?_; clear hm; intro b12 _ hm)
          | (refine m_push (d := 73) hm (by rfl) (by rfl) (by rfl) (by rfl) (by rfl) (by first | exact gt0 | exact gt1 | exact gt2 | exact gt3 | exact gt4 | exact gt5 | exact gt6) (by rfl) (by rfl) (by rfl) (by rfl) (by omega) (by omega) ?_; clear hm; intro a73 cp73 _ _ hm; try simp only [setn] at hm)
          | (refine m_varS (d := 17) hm (by rfl) (by rfl) (by rfl) (by rfl) (by rfl) ?_; clear hm; intro b17 _ hm)
          | (refine m_var1 (d := 17) hm (by rfl) (by rfl) (by rfl) (by rfl) (by rfl) ?_; clear hm; intro b17 _ hm)
          | (refine m_push (d := 122) hm (by rfl) (by rfl) (by rfl) (by rfl) (by rfl) (by first | exact gt0 | exact gt1 | exact gt2 | exact gt3 | exact gt4 | exact gt5 | exact gt6) (by rfl) (by rfl) (by rfl) (by rfl) (by omega) (by omega) ?_; clear hm; intro a122 cp122 _ _ hm; try simp only [setn] at hm)
          | refine m_load1 hm (by rfl) (by rfl) (by rfl) (by first | exact gt0 | exact gt1 | exact gt2 | exact gt3 | exact gt4 | exact gt5 | exact gt6) (by rfl) ?_
          | refine i_load1 hm (by rfl) (by rfl) (by rfl) (by assumption) (by rfl) ?_
          | refine m_loadAll hm (by rfl) (by rfl) (by rfl) (by first | exact gt0 | exact gt1 | exact gt2 | exact gt3 | exact gt4 | exact gt5 | exact gt6) (by rfl) ?_
          | refine i_loadN hm (by rfl) (by rfl) (by rfl) (by assumption) (by rfl) ?_
          | refine i_load1z hm (by rfl) (by rfl) (by rfl) (by assumption) (by rfl) ?_
          | refine mq_load1 hm (by rfl) (by rfl) (by rfl) (by first | exact gt0 | exact gt1 | exact gt2 | exact gt3 | exact gt4 | exact gt5 | exact gt6) (by rfl) ?_
          | refine iq_load1 hm (by rfl) (by rfl) (by rfl) (by assumption) (by rfl) ?_
          | refine mq_loadAll hm (by rfl) (by rfl) (by rfl) (by first | exact gt0 | exact gt1 | exact gt2 | exact gt3 | exact gt4 | exact gt5 | exact gt6) (by rfl) ?_
          | refine iq_loadN hm (by rfl) (by rfl) (by rfl) (by assumption) (by rfl) ?_
          | refine iq_load1z hm (by rfl) (by rfl) (by rfl) (by assumption) (by rfl) ?_
          | (refine m_storeAll hm (by rfl) (by rfl) (by rfl) (by rfl) (by first | exact gt0 | exact gt1 | exact gt2 | exact gt3 | exact gt4 | exact gt5 | exact gt6) (by rfl) (by rfl) (by rfl) ?_; clear hm; intro _ hm; try simp only [setn] at hm)
          | (refine m_store1 hm (by rfl) (by rfl) (by rfl) (by rfl) (by first | exact gt0 | exact gt1 | exact gt2 | exact gt3 | exact gt4 | exact gt5 | exact gt6) (by rfl) (by rfl) (by rfl) ?_; clear hm; intro _ hm; try simp only [setn] at hm)
          | (refine m_storeN hm (by rfl) (by rfl) (by rfl) (by rfl) (by first | exact gt0 | exact gt1 | exact gt2 | exact gt3 | exact gt4 | exact gt5 | exact gt6) (by rfl) (by rfl) (by rfl) ?_; clear hm; intro _ hm; try simp only [setn] at hm)
          | refine m_ret_agg hm (by rfl) (by rfl) (by first | exact gt0 | exact gt1 | exact gt2 | exact gt3 | exact gt4 | exact gt5 | exact gt6) (by rfl) ?_
          | refine m_ret2_agg hm (by rfl) (by rfl) (by rfl) (by first | exact gt0 | exact gt1 | exact gt2 | exact gt3 | exact gt4 | exact gt5 | exact gt6) (by rfl) ?_
          | refine op_move (by rfl) (by rfl) (by rfl) ?_
          | refine op_assign (by rfl) (by rfl) (by rfl) ?_
          | refine op_pick_true (by rfl) (by rfl) (by rfl) (by rfl) ?_
          | refine op_pick_false (by rfl) (by rfl) (by rfl) (by rfl) ?_
          | refine op_lss (by rfl) (by rfl) (by rfl) (by rfl) ?_
          | refine op_leq (by rfl) (by rfl) (by rfl) (by rfl) ?_
          | refine op_gtr (by rfl) (by rfl) (by rfl) (by rfl) ?_
          | refine op_geq (by rfl) (by rfl) (by rfl) (by rfl) ?_
          | refine op_eql (by rfl) (by rfl) (by rfl) (by rfl) ?_
          | refine op_eql_str (by rfl) (by rfl) (by rfl) (by rfl) ?_
          | refine op_eql_bool (by rfl) (by rfl) (by rfl) (by rfl) ?_
          | refine op_eql_flat (by rfl) (by rfl) (by rfl) (by rfl) (by rfl) (by rfl) ?_
          | refine op_len_str (by rfl) (by rfl) (by rfl) ?_
          | refine op_len_slice (by rfl) (by rfl) (by rfl) ?_
          | refine op_not (by rfl) (by rfl) (by rfl) ?_
          | refine op_extract (by rfl) (by rfl) (by rfl) (by rfl) ?_
          | refine op_add (by rfl) (by rfl) (by rfl) (by rfl) (by omega) ?_
          | refine op_sub (by rfl) (by rfl) (by rfl) (by rfl) (by omega) ?_
          | refine op_add_u8 (by rfl) (by rfl) (by rfl) (by rfl) (by omega) ?_
          | refine op_sub_u8 (by rfl) (by rfl) (by rfl) (by rfl) (by omega) ?_
          | refine op_indexAddr_arr (by rfl) (by rfl) (by rfl) (by rfl) (by omega) (by omega) ?_
          | refine op_slice_str (by rfl) (by rfl) (by rfl) (by rfl) (by rfl) (by omega) ?_
          | refine op_slice_from (by rfl) (by rfl) (by rfl) (by rfl) (by omega) ?_
          | refine op_slice_to (by rfl) (by rfl) (by rfl) (by rfl) (by omega) ?_
          | refine op_fieldAddr (by rfl) (by rfl) (by rfl) ?_
          | refine op_indexAddr (by rfl) (by rfl) (by rfl) (by rfl) (by omega) (by omega) ?_
          | refine op_load1 (by rfl) (by rfl) (by rfl) (by assumption) (by rfl) ?_
          | refine op_struct (by rfl) (by rfl) (by rfl) (by rfl) ?_
          | refine op_build (by rfl) (by rfl) (by rfl) (fun _ => (by rfl)) ?_
          | refine wl_skip (by rfl) (by rfl) (by rfl) ?_
          | (refine wl_split_dec (by rfl) (by rfl) (by rfl) (fun _ => ?_) (fun _ => ?_) <;> (try first | contradiction | (exfalso; omega)))
          | (refine wl_split (by rfl) (by rfl) (by rfl) (fun _ => ?_) (fun _ => ?_) <;> (fail_if_success contradiction))
          | refine wl_nil ?_
          | refine at_then_normal ?_
          | refine at_then_ret ?_
          | refine at_then_exit ?_
          | refine at_block_normal ?_
          | refine at_block_ret ?_
          | refine at_block_exit ?_
          | refine at_block_other (by rfl) ?_
          | refine wc_seq ?_
          | refine wc_region ?_
          | refine wc_block ?_
          | refine wc_skip ?_
          | refine wc_exit ?_
          | refine wc_ret ?_
          | refine wc_quiet (by kernel_rfl) ?_
          | (refine wq_nil ?_; intro _ hkq; replace hm := hm.kept0 hkq; clear hkq)
          | (refine wq_nil_tail ?_; intro _ hkq; replace hm := hm.kept0 hkq; clear hkq)
          | refine wc_cond_true (by rfl) ?_
          | refine wc_cond_false (by rfl) ?_
          | (refine wc_cond_dec (by rfl) (fun _ => ?_) (fun _ => ?_) <;> (try first | contradiction | (exfalso; omega)))
          | refine wc_cond (by rfl) (fun _ => ?_) (fun _ => ?_)
          | refine q_move (by rfl) (by rfl) (by rfl) ?_
          | refine q_assign (by rfl) (by rfl) (by rfl) ?_
          | refine q_pick_true (by rfl) (by rfl) (by rfl) (by rfl) ?_
          | refine q_pick_false (by rfl) (by rfl) (by rfl) (by rfl) ?_
          | refine q_lss (by rfl) (by rfl) (by rfl) (by rfl) ?_
          | refine q_leq (by rfl) (by rfl) (by rfl) (by rfl) ?_
          | refine q_gtr (by rfl) (by rfl) (by rfl) (by rfl) ?_
          | refine q_geq (by rfl) (by rfl) (by rfl) (by rfl) ?_
          | refine q_eql (by rfl) (by rfl) (by rfl) (by rfl) ?_
          | refine q_eql_str (by rfl) (by rfl) (by rfl) (by rfl) ?_
          | refine q_eql_bool (by rfl) (by rfl) (by rfl) (by rfl) ?_
          | refine q_eql_flat (by rfl) (by rfl) (by rfl) (by rfl) (by rfl) (by rfl) ?_
          | refine q_len_str (by rfl) (by rfl) (by rfl) ?_
          | refine q_len_slice (by rfl) (by rfl) (by rfl) ?_
          | refine q_not (by rfl) (by rfl) (by rfl) ?_
          | refine q_extract (by rfl) (by rfl) (by rfl) (by rfl) ?_
          | refine q_add (by rfl) (by rfl) (by rfl) (by rfl) (by omega) ?_
          | refine q_sub (by rfl) (by rfl) (by rfl) (by rfl) (by omega) ?_
          | refine q_add_u8 (by rfl) (by rfl) (by rfl) (by rfl) (by omega) ?_
          | refine q_sub_u8 (by rfl) (by rfl) (by rfl) (by rfl) (by omega) ?_
          | refine q_indexAddr_arr (by rfl) (by rfl) (by rfl) (by rfl) (by omega) (by omega) ?_
          | refine q_slice_str (by rfl) (by rfl) (by rfl) (by rfl) (by rfl) (by omega) ?_
          | refine q_slice_from (by rfl) (by rfl) (by rfl) (by rfl) (by omega) ?_
          | refine q_slice_to (by rfl) (by rfl) (by rfl) (by rfl) (by omega) ?_
          | refine q_fieldAddr (by rfl) (by rfl) (by rfl) ?_
          | refine q_indexAddr (by rfl) (by rfl) (by rfl) (by rfl) (by omega) (by omega) ?_
          | refine q_load1 (by rfl) (by rfl) (by rfl) (by assumption) (by rfl) ?_
          | refine q_struct (by rfl) (by rfl) (by rfl) (by rfl) ?_
          | refine q_build (by rfl) (by rfl) (by rfl) (fun _ => (by rfl)) ?_
          | refine wq_skip (by rfl) (by rfl) (by rfl) ?_
          | (refine wq_split_dec (by rfl) (by rfl) (by rfl) (fun _ => ?_) (fun _ => ?_) <;> (try first | contradiction | (exfalso; omega)))
          | (refine wq_split (by rfl) (by rfl) (by rfl) (fun _ => ?_) (fun _ => ?_) <;> (fail_if_success contradiction))
          | refine v_move (by rfl) (by rfl) (by rfl) ?_
          | refine v_assign (by rfl) (by rfl) (by rfl) ?_
          | refine v_pick_true (by rfl) (by rfl) (by rfl) (by rfl) ?_
          | refine v_pick_false (by rfl) (by rfl) (by rfl) (by rfl) ?_
          | refine v_lss (by rfl) (by rfl) (by rfl) (by rfl) ?_
          | refine v_leq (by rfl) (by rfl) (by rfl) (by rfl) ?_
          | refine v_gtr (by rfl) (by rfl) (by rfl) (by rfl) ?_
          | refine v_geq (by rfl) (by rfl) (by rfl) (by rfl) ?_
          | refine v_eql (by rfl) (by rfl) (by rfl) (by rfl) ?_
          | refine v_eql_str (by rfl) (by rfl) (by rfl) (by rfl) ?_
          | refine v_eql_bool (by rfl) (by rfl) (by rfl) (by rfl) ?_
          | refine v_eql_flat (by rfl) (by rfl) (by rfl) (by rfl) (by rfl) (by rfl) ?_
          | refine v_len_str (by rfl) (by rfl) (by rfl) ?_
          | refine v_len_slice (by rfl) (by rfl) (by rfl) ?_
          | refine v_not (by rfl) (by rfl) (by rfl) ?_
          | refine v_extract (by rfl) (by rfl) (by rfl) (by rfl) ?_
          | refine v_add (by rfl) (by rfl) (by rfl) (by rfl) (by omega) ?_
          | refine v_sub (by rfl) (by rfl) (by rfl) (by rfl) (by omega) ?_
          | refine v_add_u8 (by rfl) (by rfl) (by rfl) (by rfl) (by omega) ?_
          | refine v_sub_u8 (by rfl) (by rfl) (by rfl) (by rfl) (by omega) ?_
          | refine v_indexAddr_arr (by rfl) (by rfl) (by rfl) (by rfl) (by omega) (by omega) ?_
          | refine v_slice_str (by rfl) (by rfl) (by rfl) (by rfl) (by rfl) (by omega) ?_
          | refine v_slice_from (by rfl) (by rfl) (by rfl) (by rfl) (by omega) ?_
          | refine v_slice_to (by rfl) (by rfl) (by rfl) (by rfl) (by omega) ?_
          | refine v_fieldAddr (by rfl) (by rfl) (by rfl) ?_
          | refine v_indexAddr (by rfl) (by rfl) (by rfl) (by rfl) (by omega) (by omega) ?_
          | refine v_load1 (by rfl) (by rfl) (by rfl) (by assumption) (by rfl) ?_
          | refine v_struct (by rfl) (by rfl) (by rfl) (by rfl) ?_
          | refine v_build (by rfl) (by rfl) (by rfl) (fun _ => (by rfl)) ?_
          | refine wv_skip (by rfl) (by rfl) (by rfl) ?_
          | (refine wv_split (by rfl) (by rfl) (by rfl) (fun _ => ?_) (fun _ => ?_) <;> (fail_if_success contradiction))
          | refine wv_nil ?_
          | refine ws_nil ?_)
        all_goals try (exfalso; first | omega | contradiction)
        refine at_round (⟨m + 1, nf, I5, _, _, _⟩ : AgY) (by exact ⟨rfl, rfl, rfl, rfl, rfl, rfl, rfl, rfl, trivial⟩) ⟨(hm.front 1 rfl).tl, hle3.trans hleI5, ?_, by dsimp only; omega, by dsimp only; omega, by dsimp only; omega⟩ (by dsimp only; omega)
        dsimp only
        rw [hsn]
        exact (hits.le hleI5).snoc ⟨ap2, cp2, as2, cs2, ab2, cb2, ad2, cd2, xb2, rfl, q1, q2, q3, q4, q5⟩
      · rw [if_neg (by rw [hcn]; exact Bool.false_ne_true)] at hfs
        clear hmv hcn
        repeat' (first
          | (refine wc_semi_mem (id := 24) (hm.perm pm1_1) 3 6 (by kernel_rfl) ?_; clear hm; intro wd hR hm)
          | (refine iq_indexFlat (d := 88) (enc := encInt) (z := e1) (by rfl) (by rfl) (by rfl) (by rfl) hrow2 (fun _ => rfl) (by omega) (by omega) hza ?_; intro bt ot hpt)
          | (refine iq_indexFlat (d := 93) (enc := encInt) (z := e2) (by rfl) (by rfl) (by rfl) (by rfl) hrow2 (fun _ => rfl) (by omega) (by omega) hzb ?_; intro bt2 ot2 hpt2)
          | (refine m_lookup2 (s := (t.drop e1).take (e2 - e1)) hm (by rfl) (by rfl) (by rfl) (by rfl) (by first | exact gt0 | exact gt1 | exact gt2 | exact gt3 | exact gt4 | exact gt5 | exact gt6) (by exact hhad.nodup) zero_item ?_; rw [hv, hb])
          | (refine i_indexFlat (d := 109) (enc := encInt) (z := e1) (by rfl) (by rfl) (by rfl) (by rfl) hrow2 (fun _ => rfl) (by omega) (by omega) hza ?_; intro bt3 ot3 hpt3)
          | (refine m_call hm (by rfl) (by rfl) (by rfl) (by first | exact pm0 | exact pm1_0 | exact pm1_1 | exact pm1_2 | exact pm1_3 | exact pm2_0 | exact pm2_1 | exact pm2_2 | exact pm2_3 | exact pm2_4 | exact pm3_0 | exact pm3_1 | exact pm3_2) (hit) ?_; clear hm; rintro _ I4 _ _ ⟨_, rfl, ⟨ap, cp1, as_, cs1, ab, cb, ad, cd, xb, rfl, r1, r2, r3, r4, r5⟩, rfl⟩ hle hm; have hleI4 := hle; try simp only [setn] at hm)
          | (refine i_indexFlat (d := 114) (enc := encInt) (z := e1) (by rfl) (by rfl) (by rfl) (by rfl) (hrow2.le hleI4) (fun _ => rfl) (by omega) (by omega) hza ?_; intro bt4 ot4 hpt4)
          | (refine mt_call (d := 120) hm (by rfl) (by rfl) (by rfl) (by first | exact pm0 | exact pm1_0 | exact pm1_1 | exact pm1_2 | exact pm1_3 | exact pm2_0 | exact pm2_1 | exact pm2_2 | exact pm2_3 | exact pm2_4 | exact pm3_0 | exact pm3_1 | exact pm3_2) (p_own it hsk _ _ ⟨ap, cp1, as_, cs1, ab, cb, ad, cd, xb, by rw [hat], r1, r2, r3, r4, r5⟩) ?_; clear hm; rintro _ I5 _ _ ⟨_, rfl, ⟨ap2, cp2, as2, cs2, ab2, cb2, ad2, cd2, xb2, rfl, q1, q2, q3, q4, q5⟩, rfl⟩ hle hm; have hleI5 := hle; try simp only [setn] at hm)
          | refine mw_loadAll hR (by rfl) (by rfl) (by rfl) (by first | exact gt0 | exact gt1 | exact gt2 | exact gt3 | exact gt4 | exact gt5 | exact gt6) (by rfl) ?_
          | refine mw_load1 hR (by rfl) (by rfl) (by rfl) (by first | exact gt0 | exact gt1 | exact gt2 | exact gt3 | exact gt4 | exact gt5 | exact gt6) (by rfl) ?_
          | refine iw_load1 hR (by rfl) (by rfl) (by rfl) (by assumption) (by rfl) ?_
          | refine mt_struct hm (by rfl) (by rfl) (by rfl) (by rfl) ?_
          | refine iw_loadN hR (by rfl) (by rfl) (by rfl) (by assumption) (by rfl) ?_
          | (refine mt_push (d := 122) hm (by rfl) (by rfl) (by rfl) (by rfl) (by rfl) (by first | exact gt0 | exact gt1 | exact gt2 | exact gt3 | exact gt4 | exact gt5 | exact gt6) (by rfl) (by rfl) (by rfl) (by rfl) (by omega) (by omega) ?_; clear hm; intro a122 cp122 _ _ hm; replace hm := hR.back hm; clear hR; try simp only [setn] at hm)
          | (refine ws_nil ?_; replace hm := hR.back hm; clear hR; try simp only [setn] at hm)
          | (refine m_box (d := 3) hm (by rfl) (by rfl) (by rfl) (by rfl) ?_; clear hm; intro b3 _ hm)
          | (refine m_allocS (d := 6) hm (by rfl) (by rfl) ?_; clear hm; intro b6 _ hm)
          | (refine m_varS (d := 11) hm (by rfl) (by rfl) (by rfl) (by rfl) (by rfl) ?_; clear hm; intro b11 _ hm)
          | (refine m_var1 (d := 11) hm (by rfl) (by rfl) (by rfl) (by rfl) (by rfl) ?_; clear hm; intro b11 _ hm)
          | (refine m_allocS (d := 12) hm (by rfl) (by rfl) ?_; clear hm; intro b12 _ hm)
          | (refine m_push (d := 73) hm (by rfl) (by rfl) (by rfl) (by rfl) (by rfl) (by first | exact gt0 | exact gt1 | exact gt2 | exact gt3 | exact gt4 | exact gt5 | exact gt6) (by rfl) (by rfl) (by rfl) (by rfl) (by omega) (by omega) ?_; clear hm; intro a73 cp73 _ _ hm; try simp only [setn] at hm)
          | (refine m_varS (d := 17) hm (by rfl) (by rfl) (by rfl) (by rfl) (by rfl) ?_; clear hm; intro b17 _ hm)
          | (refine m_var1 (d := 17) hm (by rfl) (by rfl) (by rfl) (by rfl) (by rfl) ?_; clear hm; intro b17 _ hm)
          | (refine m_push (d := 122) hm (by rfl) (by rfl) (by rfl) (by rfl) (by rfl) (by first | exact gt0 | exact gt1 | exact gt2 | exact gt3 | exact gt4 | exact gt5 | exact gt6) (by rfl) (by rfl) (by rfl) (by rfl) (by omega) (by omega) ?_; clear hm; intro a122 cp122 _ _ hm; try simp only [setn] at hm)
          | refine m_load1 hm (by rfl) (by rfl) (by rfl) (by first | exact gt0 | exact gt1 | exact gt2 | exact gt3 | exact gt4 | exact gt5 | exact gt6) (by rfl) ?_
          | refine i_load1 hm (by rfl) (by rfl) (by rfl) (by assumption) (by rfl) ?_
          | refine m_loadAll hm (by rfl) (by rfl) (by rfl) (by first | exact gt0 | exact gt1 | exact gt2 | exact gt3 | exact gt4 | exact gt5 | exact gt6) (by rfl) ?_
          | refine i_loadN hm (by rfl) (by rfl) (by rfl) (by assumption) (by rfl) ?_
          | refine i_load1z hm (by rfl) (by rfl) (by rfl) (by assumption) (by rfl) ?_
          | refine mq_load1 hm (by rfl) (by rfl) (by rfl) (by first | exact gt0 | exact gt1 | exact gt2 | exact gt3 | exact gt4 | exact gt5 | exact gt6) (by rfl) ?_
          | refine iq_load1 hm (by rfl) (by rfl) (by rfl) (by assumption) (by rfl) ?_
          | refine mq_loadAll hm (by rfl) (by rfl) (by rfl) (by first | exact gt0 | exact gt1 | exact gt2 | exact gt3 | exact gt4 | exact gt5 | exact gt6) (by rfl) ?_
          | refine iq_loadN hm (by rfl) (by rfl) (by rfl) (by assumption) (by rfl) ?_
          | refine iq_load1z hm (by rfl) (by rfl) (by rfl) (by assumption) (by rfl) ?_
          | (refine m_storeAll hm (by rfl) (by rfl) (by rfl) (by rfl) (by first | exact gt0 | exact gt1 | exact gt2 | exact gt3 | exact gt4 | exact gt5 | exact gt6) (by rfl) (by rfl) (by rfl) ?_; clear hm; intro _ hm; try simp only [setn] at hm)
          | (refine m_store1 hm (by rfl) (by rfl) (by rfl) (by rfl) (by first | exact gt0 | exact gt1 | exact gt2 | exact gt3 | exact gt4 | exact gt5 | exact gt6) (by rfl) (by rfl) (by rfl) ?_; clear hm; intro _ hm; try simp only [setn] at hm)
          | (refine m_storeN hm (by rfl) (by rfl) (by rfl) (by rfl) (by first | exact gt0 | exact gt1 | exact gt2 | exact gt3 | exact gt4 | exact gt5 | exact gt6) (by rfl) (by rfl) (by rfl) ?_; clear hm; intro _ hm; try simp only [setn] at hm)
          | refine m_ret_agg hm (by rfl) (by rfl) (by first | exact gt0 | exact gt1 | exact gt2 | exact gt3 | exact gt4 | exact gt5 | exact gt6) (by rfl) ?_
          | refine m_ret2_agg hm (by rfl) (by rfl) (by rfl) (by first | exact gt0 | exact gt1 | exact gt2 | exact gt3 | exact gt4 | exact gt5 | exact gt6) (by rfl) ?_
          | refine op_move (by rfl) (by rfl) (by rfl) ?_
          | refine op_assign (by rfl) (by rfl) (by rfl) ?_
          | refine op_pick_true (by rfl) (by rfl) (by rfl) (by rfl) ?_
          | refine op_pick_false (by rfl) (by rfl) (by rfl) (by rfl) ?_
          | refine op_lss (by rfl) (by rfl) (by rfl) (by rfl) ?_
          | refine op_leq (by rfl) (by rfl) (by rfl) (by rfl) ?_
          | refine op_gtr (by rfl) (by rfl) (by rfl) (by rfl) ?_
          | refine op_geq (by rfl) (by rfl) (by rfl) (by rfl) ?_
          | refine op_eql (by rfl) (by rfl) (by rfl) (by rfl) ?_
          | refine op_eql_str (by rfl) (by rfl) (by rfl) (by rfl) ?_
          | refine op_eql_bool (by rfl) (by rfl) (by rfl) (by rfl) ?_
          | refine op_eql_flat (by rfl) (by rfl) (by rfl) (by rfl) (by rfl) (by rfl) ?_
          | refine op_len_str (by rfl) (by rfl) (by rfl) ?_
          | refine op_len_slice (by rfl) (by rfl) (by rfl) ?_
          | refine op_not (by rfl) (by rfl) (by rfl) ?_
          | refine op_extract (by rfl) (by rfl) (by rfl) (by rfl) ?_
          | refine op_add (by rfl) (by rfl) (by rfl) (by rfl) (by omega) ?_
          | refine op_sub (by rfl) (by rfl) (by rfl) (by rfl) (by omega) ?_
          | refine op_add_u8 (by rfl) (by rfl) (by rfl) (by rfl) (by omega) ?_
          | refine op_sub_u8 (by rfl) (by rfl) (by rfl) (by rfl) (by omega) ?_
          | refine op_indexAddr_arr (by rfl) (by rfl) (by rfl) (by rfl) (by omega) (by omega) ?_
          | refine op_slice_str (by rfl) (by rfl) (by rfl) (by rfl) (by rfl) (by omega) ?_
          | refine op_slice_from (by rfl) (by rfl) (by rfl) (by rfl) (by omega) ?_
          | refine op_slice_to (by rfl) (by rfl) (by rfl) (by rfl) (by omega) ?_
          | refine op_fieldAddr (by rfl) (by rfl) (by rfl) ?_
          | refine op_indexAddr (by rfl) (by rfl) (by rfl) (by rfl) (by omega) (by omega) ?_
          | refine op_load1 (by rfl) (by rfl) (by rfl) (by assumption) (by rfl) ?_
          | refine op_struct (by rfl) (by rfl) (by rfl) (by rfl) ?_
          | refine op_build (by rfl) (by rfl) (by rfl) (fun _ => (by rfl)) ?_
          | refine wl_skip (by rfl) (by rfl) (by rfl) ?_
          | (refine wl_split_dec (by rfl) (by rfl) (by rfl) (fun _ => ?_) (fun _ => ?_) <;> (try first | contradiction | (exfalso; omega)))
          | (refine wl_split (by rfl) (by rfl) (by rfl) (fun _ => ?_) (fun _ => ?_) <;> (fail_if_success contradiction))
          | refine wl_nil ?_
          | refine at_then_normal ?_
          | refine at_then_ret ?_
          | refine at_then_exit ?_
          | refine at_block_normal ?_
          | refine at_block_ret ?_
          | refine at_block_exit ?_
          | refine at_block_other (by rfl) ?_
          | refine wc_seq ?_
          | refine wc_region ?_
          | refine wc_block ?_
          | refine wc_skip ?_
          | refine wc_exit ?_
          | refine wc_ret ?_
          | refine wc_quiet (by kernel_rfl) ?_
          | (refine wq_nil ?_; intro _ hkq; replace hm := hm.kept0 hkq; clear hkq)
          | (refine wq_nil_tail ?_; intro _ hkq; replace hm := hm.kept0 hkq; clear hkq)
          | refine wc_cond_true (by rfl) ?_
          | refine wc_cond_false (by rfl) ?_
          | (refine wc_cond_dec (by rfl) (fun _ => ?_) (fun _ => ?_) <;> (try first | contradiction | (exfalso; omega)))
          | refine wc_cond (by rfl) (fun _ => ?_) (fun _ => ?_)
          | refine q_move (by rfl) (by rfl) (by rfl) ?_
          | refine q_assign (by rfl) (by rfl) (by rfl) ?_
          | refine q_pick_true (by rfl) (by rfl) (by rfl) (by rfl) ?_
          | refine q_pick_false (by rfl) (by rfl) (by rfl) (by rfl) ?_
          | refine q_lss (by rfl) (by rfl) (by rfl) (by rfl) ?_
          | refine q_leq (by rfl) (by rfl) (by rfl) (by rfl) ?_
          | refine q_gtr (by rfl) (by rfl) (by rfl) (by rfl) ?_
          | refine q_geq (by rfl) (by rfl) (by rfl) (by rfl) ?_
          | refine q_eql (by rfl) (by rfl) (by rfl) (by rfl) ?_
          | refine q_eql_str (by rfl) (by rfl) (by rfl) (by rfl) ?_
          | refine q_eql_bool (by rfl) (by rfl) (by rfl) (by rfl) ?_
          | refine q_eql_flat (by rfl) (by rfl) (by rfl) (by rfl) (by rfl) (by rfl) ?_
          | refine q_len_str (by rfl) (by rfl) (by rfl) ?_
          | refine q_len_slice (by rfl) (by rfl) (by rfl) ?_
          | refine q_not (by rfl) (by rfl) (by rfl) ?_
          | refine q_extract (by rfl) (by rfl) (by rfl) (by rfl) ?_
          | refine q_add (by rfl) (by rfl) (by rfl) (by rfl) (by omega) ?_
          | refine q_sub (by rfl) (by rfl) (by rfl) (by rfl) (by omega) ?_
          | refine q_add_u8 (by rfl) (by rfl) (by rfl) (by rfl) (by omega) ?_
          | refine q_sub_u8 (by rfl) (by rfl) (by rfl) (by rfl) (by omega) ?_
          | refine q_indexAddr_arr (by rfl) (by rfl) (by rfl) (by rfl) (by omega) (by omega) ?_
          | refine q_slice_str (by rfl) (by rfl) (by rfl) (by rfl) (by rfl) (by omega) ?_
          | refine q_slice_from (by rfl) (by rfl) (by rfl) (by rfl) (by omega) ?_
          | refine q_slice_to (by rfl) (by rfl) (by rfl) (by rfl) (by omega) ?_
          | refine q_fieldAddr (by rfl) (by rfl) (by rfl) ?_
          | refine q_indexAddr (by rfl) (by rfl) (by rfl) (by rfl) (by omega) (by omega) ?_
          | refine q_load1 (by rfl) (by rfl) (by rfl) (by assumption) (by rfl) ?_
          | refine q_struct (by rfl) (by rfl) (by rfl) (by rfl) ?_
          | refine q_build (by rfl) (by rfl) (by rfl) (fun _ => (by rfl)) ?_
          | refine wq_skip (by rfl) (by rfl) (by rfl) ?_
          | (refine wq_split_dec (by rfl) (by rfl) (by rfl) (fun _ => ?_) (fun _ => ?_) <;> (try first | contradiction | (exfalso; omega)))
          | (refine wq_split (by rfl) (by rfl) (by rfl) (fun _ => ?_) (fun _ => ?_) <;> (fail_if_success contradiction))
          | refine v_move (by rfl) (by rfl) (by rfl) ?_
          | refine v_assign (by rfl) (by rfl) (by rfl) ?_
          | refine v_pick_true (by rfl) (by rfl) (by rfl) (by rfl) ?_
          | refine v_pick_false (by rfl) (by rfl) (by rfl) (by rfl) ?_
          | refine v_lss (by rfl) (by rfl) (by rfl) (by rfl) ?_
          | refine v_leq (by rfl) (by rfl) (by rfl) (by rfl) ?_
          | refine v_gtr (by rfl) (by rfl) (by rfl) (by rfl) ?_
          | refine v_geq (by rfl) (by rfl) (by rfl) (by rfl) ?_
          | refine v_eql (by rfl) (by rfl) (by rfl) (by rfl) ?_
          | refine v_eql_str (by rfl) (by rfl) (by rfl) (by rfl) ?_
          | refine v_eql_bool (by rfl) (by rfl) (by rfl) (by rfl) ?_
          | refine v_eql_flat (by rfl) (by rfl) (by rfl) (by rfl) (by rfl) (by rfl) ?_
          | refine v_len_str (by rfl) (by rfl) (by rfl) ?_
          | refine v_len_slice (by rfl) (by rfl) (by rfl) ?_
          | refine v_not (by rfl) (by rfl) (by rfl) ?_
          | refine v_extract (by rfl) (by rfl) (by rfl) (by rfl) ?_
          | refine v_add (by rfl) (by rfl) (by rfl) (by rfl) (by omega) ?_
          | refine v_sub (by rfl) (by rfl) (by rfl) (by rfl) (by omega) ?_
          | refine v_add_u8 (by rfl) (by rfl) (by rfl) (by rfl) (by omega) ?_
          | refine v_sub_u8 (by rfl) (by rfl) (by rfl) (by rfl) (by omega) ?_
          | refine v_indexAddr_arr (by rfl) (by rfl) (by rfl) (by rfl) (by omega) (by omega) ?_
          | refine v_slice_str (by rfl) (by rfl) (by rfl) (by rfl) (by rfl) (by omega) ?_
          | refine v_slice_from (by rfl) (by rfl) (by rfl) (by rfl) (by omega) ?_
          | refine v_slice_to (by rfl) (by rfl) (by rfl) (by rfl) (by omega) ?_
          | refine v_fieldAddr (by rfl) (by rfl) (by rfl) ?_
          | refine v_indexAddr (by rfl) (by rfl) (by rfl) (by rfl) (by omega) (by omega) ?_
          | refine v_load1 (by rfl) (by rfl) (by rfl) (by assumption) (by rfl) ?_
          | refine v_struct (by rfl) (by rfl) (by rfl) (by rfl) ?_
          | refine v_build (by rfl) (by rfl) (by rfl) (fun _ => (by rfl)) ?_
          | refine wv_skip (by rfl) (by rfl) (by rfl) ?_
          | (refine wv_split (by rfl) (by rfl) (by rfl) (fun _ => ?_) (fun _ => ?_) <;> (fail_if_success contradiction))
          | refine wv_nil ?_
          | refine ws_nil ?_)
        all_goals try (exfalso; first | omega | contradiction)
        refine at_round (⟨m + 1, nf + 1, I5, _, _, _⟩ : AgY) (by exact ⟨rfl, rfl, rfl, rfl, rfl, rfl, rfl, rfl, trivial⟩) ⟨(hm.front 1 rfl).tl, (hle3.trans hleI4).trans hleI5, ?_, by dsimp only; omega, by dsimp only; omega, by dsimp only; omega⟩ (by dsimp only; omega)
        dsimp only
        rw [hsn]
        exact (hits.le (hleI4.trans hleI5)).snoc ⟨ap2, cp2, as2, cs2, ab2, cb2, ad2, cd2, xb2, rfl, q1, q2, q3, q4, q5⟩
  · obtain rfl : m = n := by omega
    obtain ⟨he, hi, hf⟩ := hok hm30
    subst he; subst hi; subst hf
    rw [← hnf]
    have hln : (Sp.items t cz).length = m := by rw [hits0]; simp
    repeat' (first
      | (refine m_ret3_agg hm (by rfl) (by rfl) (by rfl) (by rfl) (by first | exact gt0 | exact gt1 | exact gt2 | exact gt3 | exact gt4 | exact gt5 | exact gt6) (by rfl) ?_)
      | (refine m_box (d := 3) hm (by rfl) (by rfl) (by rfl) (by rfl) ?_; clear hm; intro b3 _ hm)
      | (refine m_allocS (d := 6) hm (by rfl) (by rfl) ?_; clear hm; intro b6 _ hm)
      | (refine m_varS (d := 11) hm (by rfl) (by rfl) (by rfl) (by rfl) (by rfl) ?_; clear hm; intro b11 _ hm)
      | (refine m_var1 (d := 11) hm (by rfl) (by rfl) (by rfl) (by rfl) (by rfl) ?_; clear hm; intro b11 _ hm)
      | (refine m_allocS (d := 12) hm (by rfl) (by rfl) ?_; clear hm; intro b12 _ hm)
      | (refine m_push (d := 73) hm (by rfl) (by rfl) (by rfl) (by rfl) (by rfl) (by first | exact gt0 | exact gt1 | exact gt2 | exact gt3 | exact gt4 | exact gt5 | exact gt6) (by rfl) (by rfl) (by rfl) (by rfl) (by omega) (by omega) ?_; clear hm; intro a73 cp73 _ _ hm; try simp only [setn] at hm)
      | (refine m_varS (d := 17) hm (by rfl) (by rfl) (by rfl) (by rfl) (by rfl) ?_; clear hm; intro b17 _ hm)
      | (refine m_var1 (d := 17) hm (by rfl) (by rfl) (by rfl) (by rfl) (by rfl) ?_; clear hm; intro b17 _ hm)
      | (refine m_push (d := 122) hm (by rfl) (by rfl) (by rfl) (by rfl) (by rfl) (by first | exact gt0 | exact gt1 | exact gt2 | exact gt3 | exact gt4 | exact gt5 | exact gt6) (by rfl) (by rfl) (by rfl) (by rfl) (by omega) (by omega) ?_; clear hm; intro a122 cp122 _ _ hm; try simp only [setn] at hm)
      | refine m_load1 hm (by rfl) (by rfl) (by rfl) (by first | exact gt0 | exact gt1 | exact gt2 | exact gt3 | exact gt4 | exact gt5 | exact gt6) (by rfl) ?_
      | refine i_load1 hm (by rfl) (by rfl) (by rfl) (by assumption) (by rfl) ?_
      | refine m_loadAll hm (by rfl) (by rfl) (by rfl) (by first | exact gt0 | exact gt1 | exact gt2 | exact gt3 | exact gt4 | exact gt5 | exact gt6) (by rfl) ?_
      | refine i_loadN hm (by rfl) (by rfl) (by rfl) (by assumption) (by rfl) ?_
      | refine i_load1z hm (by rfl) (by rfl) (by rfl) (by assumption) (by rfl) ?_
      | refine mq_load1 hm (by rfl) (by rfl) (by rfl) (by first | exact gt0 | exact gt1 | exact gt2 | exact gt3 | exact gt4 | exact gt5 | exact gt6) (by rfl) ?_
      | refine iq_load1 hm (by rfl) (by rfl) (by rfl) (by assumption) (by rfl) ?_
      | refine mq_loadAll hm (by rfl) (by rfl) (by rfl) (by first | exact gt0 | exact gt1 | exact gt2 | exact gt3 | exact gt4 | exact gt5 | exact gt6) (by rfl) ?_
      | refine iq_loadN hm (by rfl) (by rfl) (by rfl) (by assumption) (by rfl) ?_
      | refine iq_load1z hm (by rfl) (by rfl) (by rfl) (by assumption) (by rfl) ?_
      | (refine m_storeAll hm (by rfl) (by rfl) (by rfl) (by rfl) (by first | exact gt0 | exact gt1 | exact gt2 | exact gt3 | exact gt4 | exact gt5 | exact gt6) (by rfl) (by rfl) (by rfl) ?_; clear hm; intro _ hm; try simp only [setn] at hm)
      | (refine m_store1 hm (by rfl) (by rfl) (by rfl) (by rfl) (by first | exact gt0 | exact gt1 | exact gt2 | exact gt3 | exact gt4 | exact gt5 | exact gt6) (by rfl) (by rfl) (by rfl) ?_; clear hm; intro _ hm; try simp only [setn] at hm)
      | (refine m_storeN hm (by rfl) (by rfl) (by rfl) (by rfl) (by first | exact gt0 | exact gt1 | exact gt2 | exact gt3 | exact gt4 | exact gt5 | exact gt6) (by rfl) (by rfl) (by rfl) ?_; clear hm; intro _ hm; try simp only [setn] at hm)
      | refine m_ret_agg hm (by rfl) (by rfl) (by first | exact gt0 | exact gt1 | exact gt2 | exact gt3 | exact gt4 | exact gt5 | exact gt6) (by rfl) ?_
      | refine m_ret2_agg hm (by rfl) (by rfl) (by rfl) (by first | exact gt0 | exact gt1 | exact gt2 | exact gt3 | exact gt4 | exact gt5 | exact gt6) (by rfl) ?_
      | refine op_move (by rfl) (by rfl) (by rfl) ?_
      | refine op_assign (by rfl) (by rfl) (by rfl) ?_
      | refine op_pick_true (by rfl) (by rfl) (by rfl) (by rfl) ?_
      | refine op_pick_false (by rfl) (by rfl) (by rfl) (by rfl) ?_
      | refine op_lss (by rfl) (by rfl) (by rfl) (by rfl) ?_
      | refine op_leq (by rfl) (by rfl) (by rfl) (by rfl) ?_
      | refine op_gtr (by rfl) (by rfl) (by rfl) (by rfl) ?_
      | refine op_geq (by rfl) (by rfl) (by rfl) (by rfl) ?_
      | refine op_eql (by rfl) (by rfl) (by rfl) (by rfl) ?_
      | refine op_eql_str (by rfl) (by rfl) (by rfl) (by rfl) ?_
      | refine op_eql_bool (by rfl) (by rfl) (by rfl) (by rfl) ?_
      | refine op_eql_flat (by rfl) (by rfl) (by rfl) (by rfl) (by rfl) (by rfl) ?_
      | refine op_len_str (by rfl) (by rfl) (by rfl) ?_
      | refine op_len_slice (by rfl) (by rfl) (by rfl) ?_
      | refine op_not (by rfl) (by rfl) (by rfl) ?_
      | refine op_extract (by rfl) (by rfl) (by rfl) (by rfl) ?_
      | refine op_add (by rfl) (by rfl) (by rfl) (by rfl) (by omega) ?_
      | refine op_sub (by rfl) (by rfl) (by rfl) (by rfl) (by omega) ?_
      | refine op_add_u8 (by rfl) (by rfl) (by rfl) (by rfl) (by omega) ?_
      | refine op_sub_u8 (by rfl) (by rfl) (by rfl) (by rfl) (by omega) ?_
      | refine op_indexAddr_arr (by rfl) (by rfl) (by rfl) (by rfl) (by omega) (by omega) ?_
      | refine op_slice_str (by rfl) (by rfl) (by rfl) (by rfl) (by rfl) (by omega) ?_
      | refine op_slice_from (by rfl) (by rfl) (by rfl) (by rfl) (by omega) ?_
      | refine op_slice_to (by rfl) (by rfl) (by rfl) (by rfl) (by omega) ?_
      | refine op_fieldAddr (by rfl) (by rfl) (by rfl) ?_
      | refine op_indexAddr (by rfl) (by rfl) (by rfl) (by rfl) (by omega) (by omega) ?_
      | refine op_load1 (by rfl) (by rfl) (by rfl) (by assumption) (by rfl) ?_
      | refine op_struct (by rfl) (by rfl) (by rfl) (by rfl) ?_
      | refine op_build (by rfl) (by rfl) (by rfl) (fun _ => (by rfl)) ?_
      | refine wl_skip (by rfl) (by rfl) (by rfl) ?_
      | (refine wl_split_dec (by rfl) (by rfl) (by rfl) (fun _ => ?_) (fun _ => ?_) <;> (try first | contradiction | (exfalso; omega)))
      | (refine wl_split (by rfl) (by rfl) (by rfl) (fun _ => ?_) (fun _ => ?_) <;> (fail_if_success contradiction))
      | refine wl_nil ?_
      | refine at_then_normal ?_
      | refine at_then_ret ?_
      | refine at_then_exit ?_
      | refine at_block_normal ?_
      | refine at_block_ret ?_
      | refine at_block_exit ?_
      | refine at_block_other (by rfl) ?_
      | refine wc_seq ?_
      | refine wc_region ?_
      | refine wc_block ?_
      | refine wc_skip ?_
      | refine wc_exit ?_
      | refine wc_ret ?_
      | refine wc_quiet (by kernel_rfl) ?_
      | (refine wq_nil ?_; intro _ hkq; replace hm := hm.kept0 hkq; clear hkq)
      | (refine wq_nil_tail ?_; intro _ hkq; replace hm := hm.kept0 hkq; clear hkq)
      | refine wc_cond_true (by rfl) ?_
      | refine wc_cond_false (by rfl) ?_
      | (refine wc_cond_dec (by rfl) (fun _ => ?_) (fun _ => ?_) <;> (try first | contradiction | (exfalso; omega)))
      | refine wc_cond (by rfl) (fun _ => ?_) (fun _ => ?_)
      | refine q_move (by rfl) (by rfl) (by rfl) ?_
      | refine q_assign (by rfl) (by rfl) (by rfl) ?_
      | refine q_pick_true (by rfl) (by rfl) (by rfl) (by rfl) ?_
      | refine q_pick_false (by rfl) (by rfl) (by rfl) (by rfl) ?_
      | refine q_lss (by rfl) (by rfl) (by rfl) (by rfl) ?_
      | refine q_leq (by rfl) (by rfl) (by rfl) (by rfl) ?_
      | refine q_gtr (by rfl) (by rfl) (by rfl) (by rfl) ?_
      | refine q_geq (by rfl) (by rfl) (by rfl) (by rfl) ?_
      | refine q_eql (by rfl) (by rfl) (by rfl) (by rfl) ?_
      | refine q_eql_str (by rfl) (by rfl) (by rfl) (by rfl) ?_
      | refine q_eql_bool (by rfl) (by rfl) (by rfl) (by rfl) ?_
      | refine q_eql_flat (by rfl) (by rfl) (by rfl) (by rfl) (by rfl) (by rfl) ?_
      | refine q_len_str (by rfl) (by rfl) (by rfl) ?_
      | refine q_len_slice (by rfl) (by rfl) (by rfl) ?_
      | refine q_not (by rfl) (by rfl) (by rfl) ?_
      | refine q_extract (by rfl) (by rfl) (by rfl) (by rfl) ?_
      | refine q_add (by rfl) (by rfl) (by rfl) (by rfl) (by omega) ?_
      | refine q_sub (by rfl) (by rfl) (by rfl) (by rfl) (by omega) ?_
      | refine q_add_u8 (by rfl) (by rfl) (by rfl) (by rfl) (by omega) ?_
      | refine q_sub_u8 (by rfl) (by rfl) (by rfl) (by rfl) (by omega) ?_
      | refine q_indexAddr_arr (by rfl) (by rfl) (by rfl) (by rfl) (by omega) (by omega) ?_
      | refine q_slice_str (by rfl) (by rfl) (by rfl) (by rfl) (by rfl) (by omega) ?_
      | refine q_slice_from (by rfl) (by rfl) (by rfl) (by rfl) (by omega) ?_
      | refine q_slice_to (by rfl) (by rfl) (by rfl) (by rfl) (by omega) ?_
      | refine q_fieldAddr (by rfl) (by rfl) (by rfl) ?_
      | refine q_indexAddr (by rfl) (by rfl) (by rfl) (by rfl) (by omega) (by omega) ?_
      | refine q_load1 (by rfl) (by rfl) (by rfl) (by assumption) (by rfl) ?_
      | refine q_struct (by rfl) (by rfl) (by rfl) (by rfl) ?_
      | refine q_build (by rfl) (by rfl) (by rfl) (fun _ => (by rfl)) ?_
      | refine wq_skip (by rfl) (by rfl) (by rfl) ?_
      | (refine wq_split_dec (by rfl) (by rfl) (by rfl) (fun _ => ?_) (fun _ => ?_) <;> (try first | contradiction | (exfalso; omega)))
      | (refine wq_split (by rfl) (by rfl) (by rfl) (fun _ => ?_) (fun _ => ?_) <;> (fail_if_success contradiction)))
    all_goals try (exfalso; omega)
    obtain ⟨I4, hle4, hm4, hrow4⟩ := (hm.front 0 rfl).freeze
    refine ⟨I4, [], ⟨a, cp, xs, ?_, ?_, by rw [hits0]; exact hits.le hle4, rfl⟩, hm4.left (H := [])⟩
    · rw [hln]; rfl
    · rw [hln]; exact hrow4
end Go.Proofs.YtjfkjpbkmpofkaaDoor
end
