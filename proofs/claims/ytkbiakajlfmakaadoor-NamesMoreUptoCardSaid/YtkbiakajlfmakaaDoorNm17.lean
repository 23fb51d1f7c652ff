/- Own work: texts PpR, SpecCnt, SpecAll, SpecRuns, SpecChange, one behind the other. -/
import Derived.Test.YtkbiakajlfmakaaDoorNm16
section
namespace Go.Proofs.YtkbiakajlfmakaaDoor
open Go.Fw
structure AgX where
  k : Nat
  I : Imm
  a : Option Addr
  cp : Nat
  xs : List Value
abbrev it0 : List Value := itCells 0 [] 0 nil0 nil0 nil0 0 0 0 nil0
theorem zero_item (w : World) : (zeroValue 33).run Tryd.prog w = .ok (.agg it0.toArray) w := by kernel_rfl
/-- what comes of a text and a file. -/
abbrev ToAgain (fresh err : Nat) (its : List Sp.Itm) : Value → Imm → List HItem → Prop := fun v I' H' => ∃ a cp xs, v = .tuple #[.agg [.slice a its.length cp].toArray, nt fresh, nt err] ∧ RowI I' 33 10 (.slice a its.length cp) its.length xs ∧ ItsAt I' its xs ∧ H' = []
theorem cuts_len (s : List UInt8) : (Sp.cuts s).length ≤ s.length := by
  obtain ⟨r, h1, h2⟩ := Sp.cuts_sub s (Sp.tokens s) []
  have e : Sp.cuts s = r := by rw [Sp.cuts, h1]; simp
  have := h2.length_le
  have := toks_len s
  rw [e]
  simp at *
  omega
set_option maxHeartbeats 8000000 in
theorem p_again0 (s : List UInt8) (I : Imm) (hC : Conv I) (hs : s.length ≤ 9223372036854775807) : CalM Tryd.prog 56 #[.agg [.slice none 0 0].toArray, str [], str s] I [] (ToAgain (Sp.fileItems s).length (Sp.fileErr s) (Sp.fileItems s)) := by
  refine CalM.of fun w E hm => enter (N := 127) Tryd.func56 rfl [(0, .agg [.slice none 0 0].toArray), (1, str []), (2, str s)] args3 rfl ?_
  by_cases hl : s.length > 4000
  · have he : Sp.fileErr s = 4 := by rw [Sp.fileErr, if_pos hl]
    have hi : Sp.fileItems s = [] := by rw [Sp.fileItems, he]; rfl
    rw [he, hi]
    repeat' (first
      | (refine m_ret3_agg hm (by rfl) (by rfl) (by rfl) (by rfl) (by first | exact gt0 | exact gt1 | exact gt2 | exact gt3 | exact gt4 | exact gt5 | exact gt6) (by rfl) ?_)
      | (refine m_box (d := 3) hm (by rfl) (by rfl) (by rfl) (by rfl) ?_; clear hm; intro b3 _ hm)
      | (refine m_allocS (d := 6) hm (by rfl) (by rfl) ?_; clear hm; intro b6 _ hm)
      | (refine m_storeAll hm (by rfl) (by rfl) (by rfl) (by rfl) (by first | exact gt0 | exact gt1 | exact gt2 | exact gt3 | exact gt4 | exact gt5 | exact gt6) (by rfl) (by rfl) (by rfl) ?_; clear hm; intro _ hm; try simp only [setn] at hm)
      | refine op_move (by rfl) (by rfl) (by rfl) ?_
      | refine op_assign (by rfl) (by rfl) (by rfl) ?_
      | refine op_gtr (by rfl) (by rfl) (by rfl) (by rfl) ?_
      | refine op_len_str (by rfl) (by rfl) (by rfl) ?_
      | refine op_struct (by rfl) (by rfl) (by rfl) (by rfl) ?_
      | refine wl_nil ?_
      | refine at_then_normal ?_
      | refine at_then_ret ?_
      | refine wc_seq ?_
      | refine wc_region ?_
      | refine wc_ret ?_
      | (refine wc_cond_dec (by rfl) (fun _ => ?_) (fun _ => ?_) <;> (try first | contradiction | (exfalso; omega))))
    all_goals try (exfalso; omega)
    exact ⟨_, _, ⟨none, 0, [], rfl, rowI_nil _ _ _ _ _, rfl, rfl⟩, hm.left (H := [])⟩
  have hcl := cuts_len s
  repeat' (first
    | (refine m_makeMap hm (by rfl) (by rfl) ?_; clear hm; intro bm _ hm)
    | (refine m_box (d := 3) hm (by rfl) (by rfl) (by rfl) (by rfl) ?_; clear hm; intro b3 _ hm)
    | (refine m_allocS (d := 6) hm (by rfl) (by rfl) ?_; clear hm; intro b6 _ hm)
    | refine m_load1 hm (by rfl) (by rfl) (by rfl) (by first | exact gt0 | exact gt1 | exact gt2 | exact gt3 | exact gt4 | exact gt5 | exact gt6) (by rfl) ?_
    | refine op_move (by rfl) (by rfl) (by rfl) ?_
    | refine op_assign (by rfl) (by rfl) (by rfl) ?_
    | refine op_gtr (by rfl) (by rfl) (by rfl) (by rfl) ?_
    | refine op_len_str (by rfl) (by rfl) (by rfl) ?_
    | refine op_len_slice (by rfl) (by rfl) (by rfl) ?_
    | refine op_fieldAddr (by rfl) (by rfl) (by rfl) ?_
    | refine wl_nil ?_
    | refine at_then_normal ?_
    | refine wc_seq ?_
    | refine wc_region ?_
    | refine wc_block ?_
    | refine wc_skip ?_
    | (refine wc_cond_dec (by rfl) (fun _ => ?_) (fun _ => ?_) <;> (try first | contradiction | (exfalso; omega))))
  all_goals try (exfalso; omega)
  refine wc_loop (fun _ : Unit => [(2, str s), (3, ptr b3), (6, ptr b6), (9, .map (some bm)), (26, nt 0), (27, nt 0)]) (fun _ w' => Mem E I [.mp bm [], .cell b6 [.slice none 0 0] 24, .cell b3 [.slice none 0 0] 24] w') (fun _ => 0) () (by exact ⟨rfl, rfl, rfl, rfl, rfl, rfl, trivial⟩) hm ?_
  clear hm
  rintro ⟨⟩ w1 hm
  repeat' (first
    | (refine op_call (by rfl) (by rfl) (by rfl) (by exact c_cuts s (by omega) _) ?_; rintro tv wt ⟨hto, hkt⟩; obtain ⟨ta, tc, rfl⟩ := own_val hto; replace hm := hm.add (x := .row (.slice ta (Sp.cuts s).length tc) 3 1 (Sp.cuts s).length ((Sp.cuts s).flatMap encInt)) hkt (ownsRow_base hto (Nat.zero_le _)) (fun b hb => (hto.lt b hb).1))
    | (refine m_allocS (d := 12) hm (by rfl) (by rfl) ?_; clear hm; intro b12 _ hm)
    | (refine m_push (d := 73) hm (by rfl) (by rfl) (by rfl) (by rfl) (by rfl) (by first | exact gt0 | exact gt1 | exact gt2 | exact gt3 | exact gt4 | exact gt5 | exact gt6) (by rfl) (by rfl) (by rfl) (by rfl) (by omega) (by omega) ?_; clear hm; intro a73 cp73 _ _ hm; try simp only [setn] at hm)
    | refine op_move (by rfl) (by rfl) (by rfl) ?_
    | refine op_assign (by rfl) (by rfl) (by rfl) ?_
    | refine op_lss (by rfl) (by rfl) (by rfl) (by rfl) ?_
    | refine op_len_str (by rfl) (by rfl) (by rfl) ?_
    | refine op_len_slice (by rfl) (by rfl) (by rfl) ?_
    | refine op_sub (by rfl) (by rfl) (by rfl) (by rfl) (by omega) ?_
    | refine wl_nil ?_
    | refine at_then_normal ?_
    | refine at_then_exit ?_
    | refine at_block_exit ?_
    | refine wc_seq ?_
    | refine wc_region ?_
    | refine wc_block ?_
    | refine wc_exit ?_
    | refine wc_cond_false (by rfl) ?_)
  all_goals try (exfalso; omega)
  obtain ⟨I2, hle2, hm2, hrow⟩ := hm.freeze
  clear hm hto hkt
  have hm := hm2.nil 33 10
  clear hm2
  obtain ⟨n, hn⟩ : ∃ n, n = (Sp.cuts s).length := ⟨_, rfl⟩
  have hcat : ∀ k, k < n → (Sp.cuts s).getD k 0 < (Sp.cuts s).getD (k + 1) s.length ∧ (Sp.cuts s).getD (k + 1) s.length ≤ s.length := fun k hk => Sp.cuts_at s (by omega)
  have hfl : (Sp.cuts s).flatMap encInt ++ [nt s.length] = (Sp.cuts s ++ [s.length]).flatMap encInt := by rw [List.flatMap_append]; rfl
  have hz1 : ∀ k, k < n → (Sp.cuts s ++ [s.length])[k]? = some ((Sp.cuts s).getD k 0) := fun k hk => by
    rw [List.getElem?_append_left (by omega), List.getD_eq_getElem?_getD, List.getElem?_eq_getElem (by omega)]; rfl
  have hz2 : ∀ k, k < n → (Sp.cuts s ++ [s.length])[k + 1]? = some ((Sp.cuts s).getD (k + 1) s.length) := fun k hk => by
    rcases Nat.lt_or_ge (k + 1) (Sp.cuts s).length with h | h
    · rw [List.getElem?_append_left h, List.getD_eq_getElem?_getD, List.getElem?_eq_getElem h]; rfl
    · rw [List.getElem?_append_right h, show k + 1 - (Sp.cuts s).length = 0 by omega, List.getD_eq_getElem?_getD, List.getElem?_eq_none h]; rfl
  have hsm : ∀ k, (Sp.piece s (Sp.cuts s) k).length ≤ 1048576 := fun k => by rw [Sp.piece, List.length_take, List.length_drop]; omega
  have hits0 : Sp.items s (Sp.cuts s) = (List.range n).map (Sp.itemAt s (Sp.cuts s)) := by rw [Sp.items, hn]
  have herr : 30 < n → Sp.fileErr s = 5 ∧ Sp.fileItems s = [] := fun h => by
    have : Sp.fileErr s = 5 := by rw [Sp.fileErr, if_neg hl, if_pos (by omega)]
    exact ⟨this, by rw [Sp.fileItems, this]; rfl⟩
  have hok : n ≤ 30 → Sp.fileErr s = 0 ∧ Sp.fileItems s = Sp.items s (Sp.cuts s) := fun h => by
    have : Sp.fileErr s = 0 := by rw [Sp.fileErr, if_neg hl, if_neg (by omega)]
    exact ⟨this, by rw [Sp.fileItems, this]; rfl⟩
  change RowI I2 3 1 (.slice a73 ((Sp.cuts s).length + 1) cp73) ((Sp.cuts s).length + 1) ((Sp.cuts s).flatMap encInt ++ [nt s.length]) at hrow
  rw [hfl, ← hn] at hrow
  rw [← hn] at hcl ⊢
  generalize Sp.fileErr s = er at herr hok ⊢
  generalize Sp.fileItems s = its at herr hok ⊢
  clear hn hfl
  have hsmall : ∀ k, (Sp.itemAt s (Sp.cuts s) k).small := fun k => Sp.item_small _ _ (hsm k)
  generalize Sp.cuts s = cz at hrow hcat hz1 hz2 hits0 hok hsm hsmall
  refine wc_loop (fun x : AgX => [(2, str s), (6, ptr b6), (9, .map (some bm)), (12, ptr b12), (13, nt x.k), (14, .slice a73 (n + 1) cp73), (76, .int .i64 (((n + 1 : Nat) : Int) - 1)), (77, nt x.k)])
    (fun x w' => Mem E x.I [itRow x.k x.a x.cp x.xs, .cell b12 [.slice x.a x.k x.cp] 24, .mp bm [], .cell b6 [.slice none 0 0] 24, .cell b3 [.slice none 0 0] 24] w' ∧ Le I2 x.I ∧ ItsAt x.I ((List.range x.k).map (Sp.itemAt s cz)) x.xs ∧ x.k ≤ n ∧ x.k ≤ 30)
    (fun x => n - x.k) ⟨0, I2, none, 0, []⟩ (by exact ⟨rfl, rfl, rfl, rfl, rfl, rfl, rfl, rfl, trivial⟩) ⟨hm, Le.refl _, rfl, Nat.zero_le _, by dsimp only; omega⟩ ?_
  clear hm
  rintro ⟨k, I3, a, cp, xs⟩ w2 ⟨hm, hle3, hits, hk, hk30⟩
  dsimp only at hm hle3 hits hk hk30 ⊢
  have hrow2 := hrow.le hle3
  by_cases hlt : k < n
  · by_cases h30 : k = 30
    · obtain ⟨he, hi⟩ := herr (by omega)
      subst he; subst hi
      repeat' (first
        | (refine m_ret3_agg hm (by rfl) (by rfl) (by rfl) (by rfl) (by first | exact gt0 | exact gt1 | exact gt2 | exact gt3 | exact gt4 | exact gt5 | exact gt6) (by rfl) ?_)
        | refine m_load1 hm (by rfl) (by rfl) (by rfl) (by first | exact gt0 | exact gt1 | exact gt2 | exact gt3 | exact gt4 | exact gt5 | exact gt6) (by rfl) ?_
        | (refine m_storeAll hm (by rfl) (by rfl) (by rfl) (by rfl) (by first | exact gt0 | exact gt1 | exact gt2 | exact gt3 | exact gt4 | exact gt5 | exact gt6) (by rfl) (by rfl) (by rfl) ?_; clear hm; intro _ hm; try simp only [setn] at hm)
        | refine op_move (by rfl) (by rfl) (by rfl) ?_
        | refine op_assign (by rfl) (by rfl) (by rfl) ?_
        | refine op_lss (by rfl) (by rfl) (by rfl) (by rfl) ?_
        | refine op_eql (by rfl) (by rfl) (by rfl) (by rfl) ?_
        | refine op_len_slice (by rfl) (by rfl) (by rfl) ?_
        | refine op_fieldAddr (by rfl) (by rfl) (by rfl) ?_
        | refine op_struct (by rfl) (by rfl) (by rfl) (by rfl) ?_
        | refine wl_nil ?_
        | refine at_then_normal ?_
        | refine at_then_ret ?_
        | refine at_block_ret ?_
        | refine wc_seq ?_
        | refine wc_region ?_
        | refine wc_block ?_
        | refine wc_skip ?_
        | refine wc_ret ?_
        | (refine wc_cond_dec (by rfl) (fun _ => ?_) (fun _ => ?_) <;> (try first | contradiction | (exfalso; omega))))
      all_goals try (exfalso; omega)
      exact ⟨_, _, ⟨none, 0, [], rfl, rowI_nil _ _ _ _ _, rfl, rfl⟩, hm.left (H := [])⟩
    · have hca := hcat k hlt
      have hza : (cz ++ [s.length])[((k : Nat) : Int).toNat]? = some (cz.getD k 0) := by rw [Int.toNat_natCast]; exact hz1 k hlt
      have hzb : (cz ++ [s.length])[(((k : Nat) : Int) + 1).toNat]? = some (cz.getD (k + 1) s.length) := by
        rw [show (((k : Nat) : Int) + 1).toNat = k + 1 by omega]; exact hz2 k hlt
      have hit := p_item (Sp.piece s cz k) ((cz.getD k 0 : Nat) : Int) I3 ((hC.le hle2).le hle3) (hsm k)
      rw [show Sp.item (Sp.piece s cz k) ((cz.getD k 0 : Nat) : Int) = Sp.itemAt s cz k from rfl, Sp.piece] at hit
      have hat : (Sp.itemAt s cz k).at_ = ((cz.getD k 0 : Nat) : Int) := Sp.item_at _ _
      have hsk := hsmall k
      have hsn := Sp.items_snoc s cz k
      generalize Sp.itemAt s cz k = it at hit hat hsk hsn
      generalize cz.getD (k + 1) s.length = e2 at hca hzb hit
      generalize cz.getD k 0 = e1 at hca hza hit hat
      clear hsmall hsm hcat hz1 hz2 hits0 herr hok
      repeat' (first
        | (refine wc_semi_mem (id := 24) (hm.perm pm1_1) 3 6 (by kernel_rfl) ?_; clear hm; intro wd hR hm)
        | (refine iq_indexFlat (d := 88) (enc := encInt) (z := e1) (by rfl) (by rfl) (by rfl) (by rfl) hrow2 (fun _ => rfl) (by omega) (by omega) hza ?_; intro bt ot hpt)
        | (refine iq_indexFlat (d := 93) (enc := encInt) (z := e2) (by rfl) (by rfl) (by rfl) (by rfl) hrow2 (fun _ => rfl) (by omega) (by omega) hzb ?_; intro bt2 ot2 hpt2)
        | (refine m_lookup2 hm (by rfl) (by rfl) (by rfl) (by rfl) (by first | exact gt0 | exact gt1 | exact gt2 | exact gt3 | exact gt4 | exact gt5 | exact gt6) (by exact List.nodup_nil) zero_item ?_)
        | (refine i_indexFlat (d := 109) (enc := encInt) (z := e1) (by rfl) (by rfl) (by rfl) (by rfl) hrow2 (fun _ => rfl) (by omega) (by omega) hza ?_; intro bt3 ot3 hpt3)
        | (refine m_call hm (by rfl) (by rfl) (by rfl) (by first | exact pm0 | exact pm1_0 | exact pm1_1 | exact pm1_2 | exact pm1_3 | exact pm2_0 | exact pm2_1 | exact pm2_2 | exact pm2_3 | exact pm2_4 | exact pm3_0 | exact pm3_1 | exact pm3_2) (hit) ?_; clear hm; rintro _ I4 _ _ ⟨_, rfl, ⟨ap, cp1, as_, cs1, ab, cb, ad, cd, xb, rfl, r1, r2, r3, r4, r5⟩, rfl⟩ hle hm; have hleI4 := hle; try simp only [setn] at hm)
        | (refine i_indexFlat (d := 114) (enc := encInt) (z := e1) (by rfl) (by rfl) (by rfl) (by rfl) (hrow2.le hleI4) (fun _ => rfl) (by omega) (by omega) hza ?_; intro bt4 ot4 hpt4)
        | (refine mt_call (d := 120) hm (by rfl) (by rfl) (by rfl) (by first | exact pm0 | exact pm1_0 | exact pm1_1 | exact pm1_2 | exact pm1_3 | exact pm2_0 | exact pm2_1 | exact pm2_2 | exact pm2_3 | exact pm2_4 | exact pm3_0 | exact pm3_1 | exact pm3_2) (p_own it hsk _ _ ⟨ap, cp1, as_, cs1, ab, cb, ad, cd, xb, by rw [hat], r1, r2, r3, r4, r5⟩) ?_; clear hm; rintro _ I5 _ _ ⟨_, rfl, ⟨ap2, cp2, as2, cs2, ab2, cb2, ad2, cd2, xb2, rfl, q1, q2, q3, q4, q5⟩, rfl⟩ hle hm; have hleI5 := hle; try simp only [setn] at hm)
        | refine mw_loadAll hR (by rfl) (by rfl) (by rfl) (by first | exact gt0 | exact gt1 | exact gt2 | exact gt3 | exact gt4 | exact gt5 | exact gt6) (by rfl) ?_
        | refine mw_load1 hR (by rfl) (by rfl) (by rfl) (by first | exact gt0 | exact gt1 | exact gt2 | exact gt3 | exact gt4 | exact gt5 | exact gt6) (by rfl) ?_
        | (refine mt_push (d := 122) hm (by rfl) (by rfl) (by rfl) (by rfl) (by rfl) (by first | exact gt0 | exact gt1 | exact gt2 | exact gt3 | exact gt4 | exact gt5 | exact gt6) (by rfl) (by rfl) (by rfl) (by rfl) (by omega) (by omega) ?_; clear hm; intro a122 cp122 _ _ hm; replace hm := hR.back hm; clear hR; try simp only [setn] at hm)
        | (refine m_varS (d := 17) hm (by rfl) (by rfl) (by rfl) (by rfl) (by rfl) ?_; clear hm; intro b17 _ hm)
        | refine m_load1 hm (by rfl) (by rfl) (by rfl) (by first | exact gt0 | exact gt1 | exact gt2 | exact gt3 | exact gt4 | exact gt5 | exact gt6) (by rfl) ?_
        | refine i_load1z hm (by rfl) (by rfl) (by rfl) (by assumption) (by rfl) ?_
        | refine iq_load1z hm (by rfl) (by rfl) (by rfl) (by assumption) (by rfl) ?_
        | (refine m_storeAll hm (by rfl) (by rfl) (by rfl) (by rfl) (by first | exact gt0 | exact gt1 | exact gt2 | exact gt3 | exact gt4 | exact gt5 | exact gt6) (by rfl) (by rfl) (by rfl) ?_; clear hm; intro _ hm; try simp only [setn] at hm)
        | (refine m_store1 hm (by rfl) (by rfl) (by rfl) (by rfl) (by first | exact gt0 | exact gt1 | exact gt2 | exact gt3 | exact gt4 | exact gt5 | exact gt6) (by rfl) (by rfl) (by rfl) ?_; clear hm; intro _ hm; try simp only [setn] at hm)
        | refine op_move (by rfl) (by rfl) (by rfl) ?_
        | refine op_assign (by rfl) (by rfl) (by rfl) ?_
        | refine op_lss (by rfl) (by rfl) (by rfl) (by rfl) ?_
        | refine op_eql (by rfl) (by rfl) (by rfl) (by rfl) ?_
        | refine op_len_slice (by rfl) (by rfl) (by rfl) ?_
        | refine op_not (by rfl) (by rfl) (by rfl) ?_
        | refine op_extract (by rfl) (by rfl) (by rfl) (by rfl) ?_
        | refine op_add (by rfl) (by rfl) (by rfl) (by rfl) (by omega) ?_
        | refine op_fieldAddr (by rfl) (by rfl) (by rfl) ?_
        | refine wl_nil ?_
        | refine at_then_normal ?_
        | refine at_block_normal ?_
        | refine wc_seq ?_
        | refine wc_region ?_
        | refine wc_block ?_
        | refine wc_skip ?_
        | refine wc_quiet (by kernel_rfl) ?_
        | (refine wq_nil ?_; intro _ hkq; replace hm := hm.kept0 hkq; clear hkq)
        | refine wc_cond_true (by rfl) ?_
        | (refine wc_cond_dec (by rfl) (fun _ => ?_) (fun _ => ?_) <;> (try first | contradiction | (exfalso; omega)))
        | refine q_move (by rfl) (by rfl) (by rfl) ?_
        | refine q_assign (by rfl) (by rfl) (by rfl) ?_
        | refine q_add (by rfl) (by rfl) (by rfl) (by rfl) (by omega) ?_
        | refine q_slice_str (by rfl) (by rfl) (by rfl) (by rfl) (by rfl) (by omega) ?_
        | refine v_fieldAddr (by rfl) (by rfl) (by rfl) ?_
        | refine wv_nil ?_)
      all_goals try (exfalso; first | omega | contradiction)
      refine at_round (⟨k + 1, I5, _, _, _⟩ : AgX) (by exact ⟨rfl, rfl, rfl, rfl, rfl, rfl, rfl, rfl, trivial⟩) ⟨(hm.front 1 rfl).tl, (hle3.trans hleI4).trans hleI5, ?_, by dsimp only; omega, by dsimp only; omega⟩ (by dsimp only; omega)
      dsimp only
      rw [hsn]
      exact (hits.le (hleI4.trans hleI5)).snoc ⟨ap2, cp2, as2, cs2, ab2, cb2, ad2, cd2, xb2, rfl, q1, q2, q3, q4, q5⟩
  · obtain rfl : k = n := by omega
    obtain ⟨he, hi⟩ := hok hk30
    subst he; subst hi
    have hln : (Sp.items s cz).length = k := by rw [hits0]; simp
    repeat' (first
      | (refine m_ret3_agg hm (by rfl) (by rfl) (by rfl) (by rfl) (by first | exact gt0 | exact gt1 | exact gt2 | exact gt3 | exact gt4 | exact gt5 | exact gt6) (by rfl) ?_)
      | refine m_loadAll hm (by rfl) (by rfl) (by rfl) (by first | exact gt0 | exact gt1 | exact gt2 | exact gt3 | exact gt4 | exact gt5 | exact gt6) (by rfl) ?_
      | (refine m_storeAll hm (by rfl) (by rfl) (by rfl) (by rfl) (by first | exact gt0 | exact gt1 | exact gt2 | exact gt3 | exact gt4 | exact gt5 | exact gt6) (by rfl) (by rfl) (by rfl) ?_; clear hm; intro _ hm; try simp only [setn] at hm)
      | refine op_move (by rfl) (by rfl) (by rfl) ?_
      | refine op_assign (by rfl) (by rfl) (by rfl) ?_
      | refine op_lss (by rfl) (by rfl) (by rfl) (by rfl) ?_
      | refine wl_nil ?_
      | refine at_then_normal ?_
      | refine at_then_exit ?_
      | refine at_block_exit ?_
      | refine wc_seq ?_
      | refine wc_region ?_
      | refine wc_exit ?_
      | refine wc_ret ?_
      | (refine wc_cond_dec (by rfl) (fun _ => ?_) (fun _ => ?_) <;> (try first | contradiction | (exfalso; omega))))
    all_goals try (exfalso; omega)
    obtain ⟨I4, hle4, hm4, hrow4⟩ := (hm.front 0 rfl).freeze
    refine ⟨I4, [], ⟨a, cp, xs, ?_, ?_, by rw [hits0]; exact hits.le hle4, rfl⟩, hm4.left (H := [])⟩
    · rw [hln]; rfl
    · rw [hln]; exact hrow4
theorem p_file (s : List UInt8) (I : Imm) (hC : Conv I) (hs : s.length ≤ 9223372036854775807) : CalM Tryd.prog 25 #[str s] I [] (ToFile (Sp.fileErr s) (Sp.fileItems s)) := by
  refine CalM.of fun w E hm => enter (N := 16) Tryd.func25 rfl [(0, str s)] args1 rfl ?_
  repeat' (first
    | (refine m_call hm (by rfl) (by rfl) (by rfl) (by first | exact pm0 | exact pm1_0 | exact pm1_1 | exact pm1_2 | exact pm1_3 | exact pm2_0 | exact pm2_1 | exact pm2_2 | exact pm2_3 | exact pm2_4 | exact pm3_0 | exact pm3_1 | exact pm3_2) (p_again0 s I hC hs) ?_; clear hm; rintro _ I2 _ _ ⟨a, cp, xs, rfl, hrow, hits, rfl⟩ hle hm; have hleI2 := hle; try simp only [setn] at hm)
    | (refine m_allocS (d := 2) hm (by rfl) (by rfl) ?_; clear hm; intro b2 _ hm)
    | (refine m_varS (d := 4) hm (by rfl) (by rfl) (by rfl) (by rfl) (by rfl) ?_; clear hm; intro b4 _ hm)
    | refine m_loadAll hm (by rfl) (by rfl) (by rfl) (by first | exact gt0 | exact gt1 | exact gt2 | exact gt3 | exact gt4 | exact gt5 | exact gt6) (by rfl) ?_
    | (refine m_storeAll hm (by rfl) (by rfl) (by rfl) (by rfl) (by first | exact gt0 | exact gt1 | exact gt2 | exact gt3 | exact gt4 | exact gt5 | exact gt6) (by rfl) (by rfl) (by rfl) ?_; clear hm; intro _ hm; try simp only [setn] at hm)
    | refine m_ret2_agg hm (by rfl) (by rfl) (by rfl) (by first | exact gt0 | exact gt1 | exact gt2 | exact gt3 | exact gt4 | exact gt5 | exact gt6) (by rfl) ?_
    | refine op_move (by rfl) (by rfl) (by rfl) ?_
    | refine op_assign (by rfl) (by rfl) (by rfl) ?_
    | refine op_extract (by rfl) (by rfl) (by rfl) (by rfl) ?_
    | refine op_struct (by rfl) (by rfl) (by rfl) (by rfl) ?_
    | refine wl_nil ?_
    | refine at_then_normal ?_
    | refine wc_seq ?_
    | refine wc_region ?_
    | refine wc_ret ?_)
  exact ⟨I2, [], ⟨a, cp, xs, rfl, hrow, hits, rfl⟩, hm.left (H := [])⟩
end Go.Proofs.YtkbiakajlfmakaaDoor
end
section
namespace Go.Sp
mutual
def Ex.cnt : Ex → Nat
  | .mk _ _ _ args _ _ => exsCnt args + 1
def exsCnt : List Ex → Nat
  | [] => 0
  | e :: es => e.cnt + exsCnt es
 end
mutual
def Stm.cnt : Stm → Nat
  | .mk _ _ _ _ _ e thn els _ _ => e.cnt + stmsCnt thn + stmsCnt els + 1
def stmsCnt : List Stm → Nat
  | [] => 0
  | x :: xs => x.cnt + stmsCnt xs
 end
theorem exsCnt_app : ∀ (l r : List Ex), exsCnt (l ++ r) = exsCnt l + exsCnt r
  | [], r => by rw [exsCnt]; simp
  | e :: l, r => by rw [List.cons_append, exsCnt, exsCnt, exsCnt_app l r]; omega
theorem stmsCnt_app : ∀ (l r : List Stm), stmsCnt (l ++ r) = stmsCnt l + stmsCnt r
  | [], r => by rw [stmsCnt]; simp
  | e :: l, r => by rw [List.cons_append, stmsCnt, stmsCnt, stmsCnt_app l r]; omega
theorem exsCnt_one (e : Ex) : exsCnt [e] = e.cnt := by rw [exsCnt, exsCnt]; omega
theorem stmsCnt_one (e : Stm) : stmsCnt [e] = e.cnt := by rw [stmsCnt, stmsCnt]; omega
theorem leaf_cnt (k n f t : Nat) (nm : List UInt8) : (Ex.mk k nm n [] f t).cnt = 1 := by rw [Ex.cnt, exsCnt]
theorem need_le (T : Src) (s : St) (w : List UInt8) : s.i ≤ (s.need T w).2.i := (goes_need T s w).le
theorem cnt_expr (T : Src) : ∀ f, (∀ d s, (atom T f d s).1.cnt ≤ 2 * ((atom T f d s).2.i - s.i) + 1) ∧ (∀ d l s, exsCnt (argL T f d l s).1 ≤ exsCnt l + 2 * ((argL T f d l s).2.i - s.i) + 1) ∧
    (∀ d m s, (expr T f d m s).1.cnt ≤ 2 * ((expr T f d m s).2.i - s.i) + 1) ∧ (∀ d m e s, (opL T f d m e s).1.cnt ≤ e.cnt + 2 * ((opL T f d m e s).2.i - s.i))
  | 0 => ⟨fun _ _ => by rw [atom]; show (Ex.mk 0 [] 0 [] 0 0).cnt ≤ _; rw [leaf_cnt]; omega, fun _ _ _ => by rw [argL]; dsimp only; omega,
      fun _ _ _ => by rw [expr]; show (Ex.mk 0 [] 0 [] 0 0).cnt ≤ _; rw [leaf_cnt]; omega, fun _ _ _ _ => by rw [opL]; dsimp only; omega⟩
  | f + 1 => by
    obtain ⟨hA, hL, hE, hO⟩ := cnt_expr T f
    obtain ⟨gA, gL, gE, gO⟩ := goes_expr T f
    refine ⟨fun d s => ?_, fun d l s => ?_, fun d m s => ?_, fun d m e s => ?_⟩
    · rw [atom]
      dsimp only
      split
      · rw [none_]; dsimp only; rw [leaf_cnt]; omega
      · split
        · rw [none_]; dsimp only; rw [leaf_cnt]; omega
        · split
          · split
            · dsimp only; rw [leaf_cnt]; omega
            · dsimp only; rw [leaf_cnt]; omega
          · split
            · have h1 := hE (d + 1) 1 s.next
              have h2 := (gE (d + 1) 1 s.next).le
              have h3 := need_le T (expr T f (d + 1) 1 s.next).2 [41]
              rw [next_i] at h1 h2
              dsimp only
              omega
            · split
              · rw [none_]; dsimp only; rw [leaf_cnt]; omega
              · split
                · dsimp only; rw [leaf_cnt]; omega
                · have h1 := hL (d + 1) [] s.next.next
                  have h2 := (gL (d + 1) [] s.next.next).le
                  have h3 := need_le T (argL T f (d + 1) [] s.next.next).2 [41]
                  rw [next_i, next_i] at h1 h2
                  rw [exsCnt] at h1
                  dsimp only
                  rw [Ex.cnt]
                  omega
    · rw [argL]
      split
      · dsimp only; omega
      · split
        · dsimp only; omega
        · have h1 := hE d 1 s
          have h2 := (gE d 1 s).le
          try dsimp only
          split
          · have h3 := hL d (l ++ [(expr T f d 1 s).1]) (expr T f d 1 s).2.next
            have h4 := (gL d (l ++ [(expr T f d 1 s).1]) (expr T f d 1 s).2.next).le
            rw [next_i] at h3 h4
            rw [exsCnt_app, exsCnt_one] at h3
            omega
          · dsimp only
            rw [exsCnt_app, exsCnt_one]
            omega
    · rw [expr]
      try dsimp only
      have h1 := hA d s
      have h2 := (gA d s).le
      have h3 := hO d m (atom T f d s).1 (atom T f d s).2
      have h4 := (gO d m (atom T f d s).1 (atom T f d s).2).le
      omega
    · rw [opL]
      try dsimp only
      split
      · dsimp only; omega
      · have h1 := hE d (tight (T.tok s.i).text + 1) s.next
        have h2 := (gE d (tight (T.tok s.i).text + 1) s.next).le
        rw [next_i] at h1 h2
        generalize expr T f d (tight (T.tok s.i).text + 1) s.next = r at h1 h2 ⊢
        have h3 := hO d m (.mk 3 (T.tok s.i).text 0 [e, r.1] e.fr (max r.1.to e.to)) r.2
        have h4 := (gO d m (.mk 3 (T.tok s.i).text 0 [e, r.1] e.fr (max r.1.to e.to)) r.2).le
        rw [Ex.cnt, exsCnt, exsCnt_one] at h3
        omega
theorem cnt_block (T : Src) : ∀ f, (∀ d s, stmsCnt (block T f d s).1 ≤ 8 * ((block T f d s).2.i - s.i)) ∧ (∀ d l s, stmsCnt (stmL T f d l s).1 ≤ stmsCnt l + 8 * ((stmL T f d l s).2.i - s.i)) ∧
    (∀ d s, (stm T f d s).1.cnt ≤ 8 * max ((stm T f d s).2.i - s.i) 1)
  | 0 => ⟨fun _ _ => by rw [block]; dsimp only; rw [stmsCnt]; omega, fun _ _ _ => by rw [stmL]; dsimp only; omega,
      fun _ s => by rw [stm]; show (Stm.mk 0 [] 0 0 false (.mk 0 [] 0 [] 0 0) [] [] 0 0).cnt ≤ _; rw [Stm.cnt, leaf_cnt, stmsCnt]; omega⟩
  | f + 1 => by
    obtain ⟨hB, hL, hS⟩ := cnt_block T f
    obtain ⟨gB, gL, gS⟩ := goes_block T f
    have hE := (cnt_expr T f).2.2.1
    have gE := (goes_expr T f).2.2.1
    refine ⟨fun d s => ?_, fun d l s => ?_, fun d s => ?_⟩
    · rw [block]
      split
      · dsimp only; rw [stmsCnt]; omega
      · split
        · dsimp only; rw [stmsCnt]; omega
        · have h1 := hL (d + 1) [] s.next
          have h2 := (gL (d + 1) [] s.next).le
          have h3 := need_le T (stmL T f (d + 1) [] s.next).2 [125]
          rw [next_i] at h1 h2
          rw [stmsCnt] at h1
          try dsimp only
          omega
    · rw [stmL]
      split
      · dsimp only; omega
      · split
        · dsimp only; omega
        · have h1 := hS d s
          have h2 := (gS d s).le
          try dsimp only
          split
          · rename_i he
            have h3 := hL d (l ++ [(stm T f d s).1]) (stm T f d s).2.next
            have h4 := (gL d (l ++ [(stm T f d s).1]) (stm T f d s).2.next).le
            rw [next_i] at h3 h4
            rw [stmsCnt_app, stmsCnt_one] at h3
            omega
          · rename_i he
            have h3 := hL d (l ++ [(stm T f d s).1]) (stm T f d s).2
            have h4 := (gL d (l ++ [(stm T f d s).1]) (stm T f d s).2).le
            rw [stmsCnt_app, stmsCnt_one] at h3
            omega
    · rw [stm]
      dsimp only
      split
      · have h1 := (goes_named T s.next).le
        rw [next_i] at h1
        generalize s.next.named T = r at h1 ⊢
        generalize hr1 : (if (!T.is r.2.i [58]) = true then (0, r.2) else lab T r.2.next) = r1
        have h2 : r.2.i ≤ r1.2.i := by
          rw [← hr1]
          split
          · exact Nat.le_refl _
          · have := (goes_lab T r.2.next).le
            rw [next_i] at this
            omega
        have h3 := need_le T r1.2 [61]
        have h4 := hE d 1 (r1.2.need T [61]).2
        have h5 := (gE d 1 (r1.2.need T [61]).2).le
        have h6 := need_le T (expr T f d 1 (r1.2.need T [61]).2).2 [59]
        try dsimp only
        rw [Stm.cnt, stmsCnt]
        omega
      · split
        · have h1 := hE d 1 s.next
          have h2 := (gE d 1 s.next).le
          rw [next_i] at h1 h2
          generalize expr T f d 1 s.next = r at h1 h2 ⊢
          have h3 := hB d r.2
          have h4 := (gB d r.2).le
          generalize block T f d r.2 = r1 at h3 h4 ⊢
          split
          · have h5 := hB d r1.2.next
            have h6 := (gB d r1.2.next).le
            rw [next_i] at h5 h6
            dsimp only
            try dsimp only
            rw [Stm.cnt]
            omega
          · dsimp only
            try dsimp only
            rw [Stm.cnt, stmsCnt]
            omega
        · split
          · have h1 := hE d 1 s.next
            have h2 := (gE d 1 s.next).le
            rw [next_i] at h1 h2
            generalize expr T f d 1 s.next = r at h1 h2 ⊢
            have h3 := hB d r.2
            have h4 := (gB d r.2).le
            try dsimp only
            rw [Stm.cnt, stmsCnt]
            omega
          · split
            · have h1 := (goes_named T s.next).le
              rw [next_i] at h1
              generalize s.next.named T = r at h1 ⊢
              have h4 := hE d 1 r.2
              have h5 := (gE d 1 r.2).le
              have h6 := need_le T (expr T f d 1 r.2).2 [59]
              try dsimp only
              rw [Stm.cnt, stmsCnt]
              omega
            · split
              · have h4 := hE d 1 s.next
                have h5 := (gE d 1 s.next).le
                have h6 := need_le T (expr T f d 1 s.next).2 [59]
                rw [next_i] at h4 h5
                try dsimp only
                rw [Stm.cnt, stmsCnt]
                omega
              · split
                · split
                  · have h4 := hE d 1 s.next.next
                    have h5 := (gE d 1 s.next.next).le
                    have h6 := need_le T (expr T f d 1 s.next.next).2 [59]
                    rw [next_i, next_i] at h4 h5
                    try dsimp only
                    rw [Stm.cnt, stmsCnt]
                    omega
                  · have h4 := hE d 1 s
                    have h5 := (gE d 1 s).le
                    have h6 := need_le T (expr T f d 1 s).2 [59]
                    try dsimp only
                    rw [Stm.cnt, stmsCnt]
                    omega
                · rw [Stm.cnt, stmsCnt]
                  show (Ex.mk 0 [] 0 [] 0 0).cnt + 0 + 0 + 1 ≤ _
                  rw [leaf_cnt]
                  omega
theorem need_top {T : Src} {s : St} (w : List UInt8) (h : s.i ≤ T.l.length) : (s.need T w).2.i ≤ T.l.length := (goes_need T s w).top h
theorem item_cnt (src : List UInt8) (at_ : Int) : stmsCnt (item src at_).body ≤ 8 * src.length := by
  have htl : (tokens src).length ≤ src.length := toks_len src
  rw [item]
  generalize hT : (⟨tokens src, src.length⟩ : Src) = T
  have hTl : T.l.length ≤ src.length := by rw [← hT]; exact htl
  dsimp only
  split
  · rename_i hfn
    have h0 := is_lt hfn
    dsimp only [fnItm]
    have h1 := (goes_named T ⟨1, []⟩).top (show 1 ≤ _ by omega)
    generalize (⟨1, []⟩ : St).named T = r at h1 ⊢
    have h2 := need_top [40] h1
    generalize (r.2.need T [40]).2 = s1 at h2 ⊢
    have h3 := ((parL_few T 6 [] s1 (by simp)).2 h2).2.1
    generalize parL T 6 [] s1 = r2 at h3 ⊢
    have h4 := need_top [41] h3
    generalize (r2.2.need T [41]).2 = s3 at h4 ⊢
    have h5 := need_top [58] h4
    generalize (s3.need T [58]).2 = s4 at h5 ⊢
    have h6 := (goes_lab T s4).top h5
    generalize lab T s4 = r5 at h6 ⊢
    generalize hr6 : (if T.is r5.2.i [115, 101, 110, 100, 115] = true then sndL T 6 [] r5.2.next else ([], r5.2)) = r6
    have h7 : r6.2.i ≤ T.l.length := by
      rw [← hr6]
      split
      · rename_i hs
        have := is_lt hs
        exact ((sndL_few T 6 [] r5.2.next (by simp)).2 (by rw [next_i]; omega)).2.1
      · exact h6
    have h8 := (cnt_block T (fuel T)).1 0 r6.2
    have h9 := ((goes_block T (fuel T)).1 0 r6.2).top h7
    omega
  · split
    · dsimp only [chItm]
      rw [stmsCnt]; omega
    · dsimp only
      rw [stmsCnt]; omega
end Go.Sp
end
section
namespace Go.Sp
abbrev PE := Nat → List UInt8 → Nat → Nat → Nat → Nat → Prop
abbrev PS := Nat → List UInt8 → Nat → Nat → Bool → Nat → Nat → Prop
mutual
def Ex.all (p : PE) : Ex → Prop
  | .mk k nm n args f t => p k nm n args.length f t ∧ exsAll p args
def exsAll (p : PE) : List Ex → Prop
  | [] => True
  | e :: es => e.all p ∧ exsAll p es
 end
mutual
def Stm.all (p : PE) (q : PS) : Stm → Prop
  | .mk k nm a lb o e thn els f t => q k nm a lb o f t ∧ e.all p ∧ stmsAll p q thn ∧ stmsAll p q els
def stmsAll (p : PE) (q : PS) : List Stm → Prop
  | [] => True
  | x :: xs => x.all p q ∧ stmsAll p q xs
 end
theorem exsAll_app {p : PE} : ∀ {l r : List Ex}, exsAll p l → exsAll p r → exsAll p (l ++ r)
  | [], r, _, h => h
  | e :: l, r, h, g => by
    rw [exsAll] at h
    rw [List.cons_append, exsAll]
    exact ⟨h.1, exsAll_app h.2 g⟩
theorem exsAll_one {p : PE} {e : Ex} (h : e.all p) : exsAll p [e] := by rw [exsAll, exsAll]; exact ⟨h, trivial⟩
theorem exsAll_nil {p : PE} : exsAll p [] := by rw [exsAll]; trivial
theorem stmsAll_nil {p : PE} {q : PS} : stmsAll p q [] := by rw [stmsAll]; trivial
theorem stmsAll_app {p : PE} {q : PS} : ∀ {l r : List Stm}, stmsAll p q l → stmsAll p q r → stmsAll p q (l ++ r)
  | [], r, _, h => h
  | e :: l, r, h, g => by
    rw [stmsAll] at h
    rw [List.cons_append, stmsAll]
    exact ⟨h.1, stmsAll_app h.2 g⟩
theorem stmsAll_one {p : PE} {q : PS} {e : Stm} (h : e.all p q) : stmsAll p q [e] := by rw [stmsAll, stmsAll]; exact ⟨h, trivial⟩
theorem exsAll_get {p : PE} : ∀ {l : List Ex} {i : Nat} {e : Ex}, exsAll p l → l[i]? = some e → e.all p
  | [], _, _, _, h => by simp at h
  | a :: l, 0, e, h, hg => by
    rw [exsAll] at h
    simp only [List.getElem?_cons_zero, Option.some.injEq] at hg
    subst hg; exact h.1
  | a :: l, i + 1, e, h, hg => by
    rw [exsAll] at h
    rw [List.getElem?_cons_succ] at hg
    exact exsAll_get h.2 hg
theorem stmsAll_get {p : PE} {q : PS} : ∀ {l : List Stm} {i : Nat} {e : Stm}, stmsAll p q l → l[i]? = some e → e.all p q
  | [], _, _, _, h => by simp at h
  | a :: l, 0, e, h, hg => by
    rw [stmsAll] at h
    simp only [List.getElem?_cons_zero, Option.some.injEq] at hg
    subst hg; exact h.1
  | a :: l, i + 1, e, h, hg => by
    rw [stmsAll] at h
    rw [List.getElem?_cons_succ] at hg
    exact stmsAll_get h.2 hg
theorem all_leaf {p : PE} {k n f t : Nat} {nm : List UInt8} (h : p k nm n 0 f t) : (Ex.mk k nm n [] f t).all p := by rw [Ex.all]; exact ⟨h, exsAll_nil⟩
theorem Ex.all_node {p : PE} {e : Ex} (h : e.all p) : p e.kind e.name e.n e.args.length e.fr e.to ∧ exsAll p e.args := by
  cases e; rw [Ex.all] at h; exact h
theorem Stm.all_node {p : PE} {q : PS} {e : Stm} (h : e.all p q) : q e.kind e.name e.at_ e.label e.opn e.fr e.to ∧ e.e.all p ∧ stmsAll p q e.thn ∧ stmsAll p q e.els := by
  cases e; rw [Stm.all] at h; exact h
/-- what is asked of expressions that are read. -/
structure AtE (T : Src) (p : PE) : Prop where
  zero : p 0 [] 0 0 0 0
  bad : ∀ i, p 5 [] 0 0 (T.tok i).pos (T.tok i).pos
  num : ∀ i n, n ≤ 1000000000 → (T.tok i).kind = 2 → p 1 [] n 0 (T.tok i).pos ((T.tok i).pos + (T.tok i).text.length)
  var : ∀ i, name (T.tok i).text = true → p 2 (T.tok i).text 0 0 (T.tok i).pos ((T.tok i).pos + (T.tok i).text.length)
  call : ∀ i j m, name (T.tok i).text = true → m ≤ 5 → p 4 (T.tok i).text 0 m (T.tok i).pos (T.endOf j)
  op : ∀ i k1 n1 v1 m1 f1 t1 k2 n2 v2 m2 f2 t2, tight (T.tok i).text ≠ 0 → p k1 n1 v1 m1 f1 t1 → p k2 n2 v2 m2 f2 t2 → p 3 (T.tok i).text 0 2 f1 (max t2 t1)
theorem all_expr {T : Src} {p : PE} (h : AtE T p) : ∀ f, (∀ d s, (atom T f d s).1.all p) ∧ (∀ d l s, l.length ≤ 5 → exsAll p l → (argL T f d l s).1.length ≤ 5 ∧ exsAll p (argL T f d l s).1) ∧
    (∀ d m s, (expr T f d m s).1.all p) ∧ (∀ d m e s, e.all p → (opL T f d m e s).1.all p)
  | 0 => ⟨fun _ _ => by rw [atom]; exact all_leaf h.zero, fun _ _ _ h1 h2 => by rw [argL]; exact ⟨h1, h2⟩, fun _ _ _ => by rw [expr]; exact all_leaf h.zero, fun _ _ _ _ h1 => by rw [opL]; exact h1⟩
  | f + 1 => by
    obtain ⟨hA, hL, hE, hO⟩ := all_expr h f
    refine ⟨fun d s => ?_, fun d l s h1 h2 => ?_, fun d m s => ?_, fun d m e s h1 => ?_⟩
    · rw [atom]
      dsimp only
      split
      · exact all_leaf (h.bad _)
      · split
        · exact all_leaf (h.bad _)
        · split
          · rename_i hk
            split
            · exact all_leaf (h.num _ 0 (by omega) hk)
            · exact all_leaf (h.num _ _ (by omega) hk)
          · split
            · exact hE _ _ _
            · split
              · exact all_leaf (h.bad _)
              · rename_i hn
                have hn' : name (T.tok s.i).text = true := by simpa using hn
                split
                · exact all_leaf (h.var _ hn')
                · obtain ⟨h1, h2⟩ := hL (d + 1) [] s.next.next (by simp) exsAll_nil
                  dsimp only
                  rw [Ex.all]
                  exact ⟨h.call _ _ _ hn' h1, h2⟩
    · rw [argL]
      split
      · exact ⟨h1, h2⟩
      · split
        · exact ⟨h1, h2⟩
        · have h3 := hE d 1 s
          have h4 : (l ++ [(expr T f d 1 s).1]).length ≤ 5 := by simp; omega
          have h5 := exsAll_app h2 (exsAll_one h3)
          dsimp only
          split
          · exact hL _ _ _ h4 h5
          · exact ⟨h4, h5⟩
    · rw [expr]
      try dsimp only
      exact hO _ _ _ _ (hA d s)
    · rw [opL]
      try dsimp only
      split
      · exact h1
      · rename_i ht
        refine hO _ _ _ _ ?_
        have h3 := hE d (tight (T.tok s.i).text + 1) s.next
        generalize (expr T f d (tight (T.tok s.i).text + 1) s.next).1 = r at h3 ⊢
        cases e with
        | mk k1 n1 v1 a1 f1 t1 =>
        cases r with
        | mk k2 n2 v2 a2 f2 t2 =>
        have g1 := h1
        have g3 := h3
        rw [Ex.all] at g1 g3
        rw [Ex.all]
        exact ⟨h.op _ _ _ _ _ _ _ _ _ _ _ _ _ (by omega) g1.1 g3.1, exsAll_app (exsAll_one h1) (exsAll_one h3)⟩
/-- what is asked of statements that are read. -/
structure AtS (T : Src) (q : PS) : Prop where
  zero : q 0 [] 0 0 false 0 0
  let_ : ∀ i (s : St) lb o j, lb ≤ 255 → q 1 (s.named T).1 (T.tok s.i).pos lb o (T.tok i).pos (max (T.endOf j) (T.tok i).pos)
  set : ∀ i j, name (T.tok i).text = true → q 2 (T.tok i).text (T.tok i).pos 0 false (T.tok i).pos (max (T.endOf j) (T.tok i).pos)
  plain : ∀ k i j, (k = 3 ∨ k = 4 ∨ k = 6 ∨ k = 7 ∨ k = 8) → q k [] 0 0 false (T.tok i).pos (max (T.endOf j) (T.tok i).pos)
  send : ∀ i (s : St) j, q 5 (s.named T).1 (T.tok s.i).pos 0 false (T.tok i).pos (max (T.endOf j) (T.tok i).pos)
theorem tag_lt (a : Nat) (ha : a < 256) (q : Nat) (hq : q < 8) (h : bit a q = false) : a + 2 ^ q < 256 := by
  have key : ∀ a < 256, ∀ q < 8, bit a q = false → a + 2 ^ q < 256 := by decide +kernel
  exact key a ha q hq h
theorem labL_lt (T : Src) : ∀ (f n : Nat) (s : St), n < 256 → (labL T f n s).1 < 256
  | 0, n, s, h => h
  | f + 1, n, s, h => by
    rw [labL]
    split
    · exact h
    · dsimp only
      split
      · exact h
      · rename_i h2
        generalize hqd : ((T.tok s.i).text.getD 0 0).toNat - 97 = q
        have hq : q < 8 := by
          simp only [tagB, Bool.not_eq_true, Bool.not_eq_false', Bool.and_eq_true, decide_eq_true_eq] at h2
          omega
        cases hb : bit n q with
        | true =>
          simp only [if_true]
          split
          · exact labL_lt T f _ _ h
          · split
            · exact labL_lt T f _ _ h
            · exact h
        | false =>
          have hn := tag_lt n h q hq hb
          simp only [Bool.false_eq_true, if_false]
          split
          · exact labL_lt T f _ _ hn
          · split
            · exact labL_lt T f _ _ hn
            · exact hn
theorem lab_lt (T : Src) (s : St) : (lab T s).1 < 256 := by
  rw [lab]
  split
  · exact labL_lt T _ _ _ (by decide)
  · dsimp only; omega
theorem all_block {T : Src} {p : PE} {q : PS} (h : AtE T p) (g : AtS T q) : ∀ f, (∀ d s, stmsAll p q (block T f d s).1) ∧ (∀ d l s, stmsAll p q l → stmsAll p q (stmL T f d l s).1) ∧ (∀ d s, (stm T f d s).1.all p q)
  | 0 => ⟨fun _ _ => by rw [block]; exact stmsAll_nil, fun _ _ _ h1 => by rw [stmL]; exact h1, fun _ s => by
      rw [stm]
      show (Stm.mk 0 [] 0 0 false (.mk 0 [] 0 [] 0 0) [] [] 0 0).all p q
      rw [Stm.all]; exact ⟨g.zero, all_leaf h.zero, stmsAll_nil, stmsAll_nil⟩⟩
  | f + 1 => by
    obtain ⟨hB, hL, hS⟩ := all_block h g f
    have hE := (all_expr h f).2.2.1
    refine ⟨fun d s => ?_, fun d l s h1 => ?_, fun d s => ?_⟩
    · rw [block]
      split
      · exact stmsAll_nil
      · split
        · exact stmsAll_nil
        · dsimp only
          exact hL _ _ _ stmsAll_nil
    · rw [stmL]
      split
      · exact h1
      · split
        · exact h1
        · dsimp only
          exact hL _ _ _ (stmsAll_app h1 (stmsAll_one (hS d s)))
    · rw [stm]
      dsimp only
      split
      · rw [Stm.all]
        refine ⟨g.let_ s.i s.next _ _ _ ?_, hE _ _ _, stmsAll_nil, stmsAll_nil⟩
        split
        · dsimp only; omega
        · exact Nat.le_of_lt_succ (lab_lt T _)
      · split
        · split
          · dsimp only; rw [Stm.all]; exact ⟨g.plain _ _ _ (.inl rfl), hE _ _ _, hB _ _, hB _ _⟩
          · dsimp only; rw [Stm.all]; exact ⟨g.plain _ _ _ (.inl rfl), hE _ _ _, hB _ _, stmsAll_nil⟩
        · split
          · rw [Stm.all]; exact ⟨g.plain _ _ _ (.inr (.inl rfl)), hE _ _ _, hB _ _, stmsAll_nil⟩
          · split
            · rw [Stm.all]; exact ⟨g.send s.i s.next _, hE _ _ _, stmsAll_nil, stmsAll_nil⟩
            · split
              · rw [Stm.all]; exact ⟨g.plain _ _ _ (.inr (.inr (.inl rfl))), hE _ _ _, stmsAll_nil, stmsAll_nil⟩
              · split
                · rename_i hn
                  split
                  · rw [Stm.all]; exact ⟨g.set _ _ hn, hE _ _ _, stmsAll_nil, stmsAll_nil⟩
                  · rw [Stm.all]; exact ⟨g.plain _ _ _ (.inr (.inr (.inr (.inl rfl)))), hE _ _ _, stmsAll_nil, stmsAll_nil⟩
                · rw [Stm.all]
                  refine ⟨g.plain _ _ _ (.inr (.inr (.inr (.inr rfl)))), ?_, stmsAll_nil, stmsAll_nil⟩
                  exact all_leaf h.zero
/-- parameters, and names, that are read. -/
theorem all_parL {T : Src} {r : Par → Prop} (h : ∀ (s : St) lb, lb ≤ 255 → r ⟨(s.named T).1, lb, (T.tok s.i).pos⟩) : ∀ (f : Nat) (l : List Par) (s : St), (∀ x ∈ l, r x) → ∀ x ∈ (parL T f l s).1, r x
  | 0, l, s, h1 => by rw [parL]; exact h1
  | f + 1, l, s, h1 => by
    rw [parL]
    split
    · exact h1
    · split
      · exact h1
      · dsimp only
        split
        · exact h1
        · have h2 : ∀ lb, lb ≤ 255 → ∀ x ∈ l ++ [⟨(s.named T).1, lb, (T.tok s.i).pos⟩], r x := fun lb hl x hx => by
            rcases List.mem_append.1 hx with hx | hx
            · exact h1 x hx
            · obtain rfl := List.mem_singleton.1 hx
              exact h s lb hl
          have h3 := fun s => Nat.le_of_lt_succ (lab_lt T s)
          split
          · exact all_parL h f _ _ (h2 _ (h3 _))
          · exact h2 _ (h3 _)
theorem all_sndL {T : Src} {r : Rf → Prop} (h : ∀ (s : St), r ⟨(s.named T).1, (T.tok s.i).pos⟩) : ∀ (f : Nat) (l : List Rf) (s : St), (∀ x ∈ l, r x) → ∀ x ∈ (sndL T f l s).1, r x
  | 0, l, s, h1 => by rw [sndL]; exact h1
  | f + 1, l, s, h1 => by
    rw [sndL]
    split
    · exact h1
    · dsimp only
      have h2 : ∀ x ∈ l ++ [⟨(s.named T).1, (T.tok s.i).pos⟩], r x := fun x hx => by
        rcases List.mem_append.1 hx with hx | hx
        · exact h1 x hx
        · obtain rfl := List.mem_singleton.1 hx
          exact h s
      split
      · exact all_sndL h f _ _ h2
      · exact h2
/-- what is asked of an item that is read. -/
structure ItAll (T : Src) (p : PE) (q : PS) (r : Par → Prop) (t : Rf → Prop) (it : Itm) : Prop where
  body : stmsAll p q it.body
  params : ∀ x ∈ it.params, r x
  sends : ∀ x ∈ it.sends, t x
  few : it.params.length ≤ 5 ∧ it.sends.length ≤ 5 ∧ it.body.length ≤ 40
  label : it.label ≤ 255
  kind : 1 ≤ it.kind ∧ it.kind ≤ 3
  mark : (it.name = [] ∧ ((∃ i, it.mark = (T.tok i).pos) ∨ it.mark = 0)) ∨ ∃ s : St, it.name = (s.named T).1 ∧ it.mark = (T.tok s.i).pos
  bad : it.kind = 3 → it.name = [] ∧ it.label = 0 ∧ it.params = [] ∧ it.sends = [] ∧ it.body = []
  chan : it.kind = 1 → it.params = [] ∧ it.sends = [] ∧ it.body = []
theorem item_all {src : List UInt8} {p : PE} {q : PS} {r : Par → Prop} {t : Rf → Prop} (at_ : Int) (h : AtE ⟨tokens src, src.length⟩ p) (g : AtS ⟨tokens src, src.length⟩ q)
    (hr : ∀ (s : St) lb, lb ≤ 255 → r ⟨(s.named ⟨tokens src, src.length⟩).1, lb, ((⟨tokens src, src.length⟩ : Src).tok s.i).pos⟩)
    (ht : ∀ (s : St), t ⟨(s.named ⟨tokens src, src.length⟩).1, ((⟨tokens src, src.length⟩ : Src).tok s.i).pos⟩) : ItAll ⟨tokens src, src.length⟩ p q r t (item src at_) := by
  rw [item]
  generalize (⟨tokens src, src.length⟩ : Src) = T at h g hr ht ⊢
  dsimp only
  split
  · dsimp only [fnItm]
    have h6 : ∀ (c : Bool) (y z : St), ∀ x ∈ (if c = true then sndL T 6 [] y else ([], z)).1, t x := fun c y z => by
      split
      · exact all_sndL ht _ _ _ (by simp)
      · simp
    have l6 : ∀ (c : Bool) (y z : St), (if c = true then sndL T 6 [] y else ([], z)).1.length ≤ 5 := fun c y z => by
      split
      · exact (sndL_few T 6 [] _ (by simp)).1
      · simp
    exact ⟨(all_block h g _).1 _ _, all_parL hr _ _ _ (by simp), h6 _ _ _, ⟨(parL_few T 6 [] _ (by simp)).1, l6 _ _ _, ((small_block T _).1 _ _).1⟩, Nat.le_of_lt_succ (lab_lt T _), ⟨by simp, by simp⟩, .inr ⟨⟨1, []⟩, rfl, rfl⟩, fun h => (by simp at h), fun h => (by simp at h)⟩
  · split
    · dsimp only [chItm]
      exact ⟨stmsAll_nil, by simp, by simp, ⟨by simp, by simp, by simp⟩, Nat.le_of_lt_succ (lab_lt T _), ⟨by simp, by simp⟩, .inr ⟨⟨1, []⟩, rfl, rfl⟩, fun h => (by simp at h), fun _ => ⟨rfl, rfl, rfl⟩⟩
    · dsimp only
      exact ⟨stmsAll_nil, by simp, by simp, ⟨by simp, by simp, by simp⟩, by simp, ⟨by simp, by simp⟩, .inl ⟨rfl, .inr rfl⟩, fun _ => ⟨rfl, rfl, rfl, rfl, rfl⟩, fun h => (by simp at h)⟩
end Go.Sp
end
section
namespace Go.Sp
inductive Runs (T : Src) : St → St → Prop where
  | refl (s : St) : Runs T s s
  | bad {s r : St} (e : Nat) : Runs T s r → Runs T s (r.bad T e)
  | next {s r : St} : Runs T s r → Runs T s r.next
theorem Runs.trans {T : Src} {s r q : St} (h : Runs T s r) (g : Runs T r q) : Runs T s q := by
  induction g with
  | refl => exact h
  | bad e _ ih => exact .bad e ih
  | next _ ih => exact .next ih
theorem Runs.on {T : Src} {s r : St} (h : Runs T s r) : s.i ≤ r.i := by
  induction h with
  | refl => exact Nat.le_refl _
  | bad e _ ih => exact ih
  | next _ ih => exact Nat.le_succ_of_le ih
end Go.Sp
end
section
namespace Go.Sp
theorem items_len (s : List UInt8) (cs : List Nat) : (items s cs).length = cs.length := by simp [items]
theorem file_few (s : List UInt8) : (fileItems s).length ≤ 30 := by
  rw [fileItems]
  split
  · rename_i h
    rw [items_len]
    rw [fileErr] at h
    split at h
    · omega
    · split at h <;> omega
  · simp
/-- what each item of a file is like. -/
structure ItIn (s : List UInt8) (k : Nat) (it : Itm) : Prop where
  at0 : 0 ≤ it.at_
  size : 1 ≤ it.size
  top : it.at_ + it.size ≤ s.length
  ends : it.at_ + it.size = (match (fileItems s)[k + 1]? with | some j => j.at_ | none => (s.length : Int))
  diags : ∀ d ∈ it.diags, d.fr ≤ d.to ∧ d.to ≤ it.size
  small : it.small
  len : s.length ≤ 4000
end Go.Sp
end
