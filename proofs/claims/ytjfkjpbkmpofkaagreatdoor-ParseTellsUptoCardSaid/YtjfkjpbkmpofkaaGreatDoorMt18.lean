/- Own work: texts PpR, SpecRuns, SpecChange, PpS, one behind the other. -/
import Derived.Test.YtjfkjpbkmpofkaaGreatDoorMt17
section
namespace Go.Proofs.YtjfkjpbkmpofkaaGreatDoor
open Go.Fw
structure AgX where
  k : Nat
  I : Imm
  a : Option Addr
  cp : Nat
  xs : List Value
abbrev it0 : List Value := itCells 0 [] 0 nil0 nil0 nil0 0 0 0 nil0
theorem zero_item (w : World) : (zeroValue 36).run Tryz.prog w = .ok (.agg it0.toArray) w := by kernel_rfl
/-- what comes of a text and a file. -/
abbrev ToAgain (fresh err : Nat) (its : List Sp.Itm) : Value → Imm → List HItem → Prop := fun v I' H' => ∃ a cp xs, v = .tuple #[.agg [.slice a its.length cp].toArray, nt fresh, nt err] ∧ RowI I' 36 10 (.slice a its.length cp) its.length xs ∧ ItsAt I' its xs ∧ H' = []
theorem cuts_len (s : List UInt8) : (Sp.cuts s).length ≤ s.length := by
  obtain ⟨r, h1, h2⟩ := Sp.cuts_sub s (Sp.tokens s) []
  have e : Sp.cuts s = r := by rw [Sp.cuts, h1]; simp
  have := h2.length_le
  have := toks_len s
  rw [e]
  simp at *
  omega
set_option maxHeartbeats 8000000 in
theorem p_again0 (s : List UInt8) (I : Imm) (hC : Conv I) (hs : s.length ≤ 9223372036854775807) : CalM Tryz.prog 12 #[.agg [.slice none 0 0].toArray, str [], str s] I [] (ToAgain (Sp.fileItems s).length (Sp.fileErr s) (Sp.fileItems s)) := by
  refine CalM.of fun w E hm => enter (N := 127) Tryz.func12 rfl [(0, .agg [.slice none 0 0].toArray), (1, str []), (2, str s)] args3 rfl ?_
  by_cases hl : s.length > 4000
  · have he : Sp.fileErr s = 4 := by rw [Sp.fileErr, if_pos hl]
    have hi : Sp.fileItems s = [] := by rw [Sp.fileItems, he]; rfl
    rw [he, hi]
    repeat' (first
      | (refine m_ret3_agg hm (by rfl) (by rfl) (by rfl) (by rfl) (by first | exact gt0 | exact gt1 | exact gt2 | exact gt3 | exact gt4 | exact gt5 | exact gt6) (by rfl) ?_)
      | (refine m_box (d := 3) hm (by rfl) (by rfl) (by rfl) (by rfl) ?_; clear hm; intro b3 _ hm)
      | (refine m_allocS (d := 6) hm (by rfl) (by rfl) ?_; clear hm; intro b6 _ hm)
      | (refine m_storeAll hm (by rfl) (by rfl) (by rfl) (by rfl) (by first | exact gt0 | exact gt1 | exact gt2 | exact gt3 | exact gt4 | exact gt5 | exact gt6) (by rfl) (by rfl) (by rfl) ?_; clear hm; intro _ hm; try simp only [setn] at hm)
      | refine op_move (by rfl) (by rfl) (by rfl) ?_
      | refine op_assign (by rfl) (by rfl) (by rfl) ?_
      | refine op_gtr (by rfl) (by rfl) (by rfl) (by rfl) ?_
      | refine op_len_str (by rfl) (by rfl) (by rfl) ?_
      | refine op_struct (by rfl) (by rfl) (by rfl) (by rfl) ?_
      | refine wl_nil ?_
      | refine at_then_normal ?_
      | refine at_then_ret ?_
      | refine wc_seq ?_
      | refine wc_region ?_
      | refine wc_ret ?_
      | (refine wc_cond_dec (by rfl) (fun _ => ?_) (fun _ => ?_) <;> (try first | contradiction | (exfalso; omega))))
    all_goals try (exfalso; omega)
    exact ⟨_, _, ⟨none, 0, [], rfl, rowI_nil _ _ _ _ _, rfl, rfl⟩, hm.left (H := [])⟩
  have hcl := cuts_len s
  repeat' (first
    | (refine m_makeMap hm (by rfl) (by rfl) ?_; clear hm; intro bm _ hm)
    | (refine m_box (d := 3) hm (by rfl) (by rfl) (by rfl) (by rfl) ?_; clear hm; intro b3 _ hm)
    | (refine m_allocS (d := 6) hm (by rfl) (by rfl) ?_; clear hm; intro b6 _ hm)
    | refine m_load1 hm (by rfl) (by rfl) (by rfl) (by first | exact gt0 | exact gt1 | exact gt2 | exact gt3 | exact gt4 | exact gt5 | exact gt6) (by rfl) ?_
    | refine op_move (by rfl) (by rfl) (by rfl) ?_
    | refine op_assign (by rfl) (by rfl) (by rfl) ?_
    | refine op_gtr (by rfl) (by rfl) (by rfl) (by rfl) ?_
    | refine op_len_str (by rfl) (by rfl) (by rfl) ?_
    | refine op_len_slice (by rfl) (by rfl) (by rfl) ?_
    | refine op_fieldAddr (by rfl) (by rfl) (by rfl) ?_
    | refine wl_nil ?_
    | refine at_then_normal ?_
    | refine wc_seq ?_
    | refine wc_region ?_
    | refine wc_block ?_
    | refine wc_skip ?_
    | (refine wc_cond_dec (by rfl) (fun _ => ?_) (fun _ => ?_) <;> (try first | contradiction | (exfalso; omega))))
  all_goals try (exfalso; omega)
  refine wc_loop (fun _ : Unit => [(2, str s), (3, ptr b3), (6, ptr b6), (9, .map (some bm)), (26, nt 0), (27, nt 0)]) (fun _ w' => Mem E I [.mp bm [], .cell b6 [.slice none 0 0] 26, .cell b3 [.slice none 0 0] 26] w') (fun _ => 0) () (by exact ⟨rfl, rfl, rfl, rfl, rfl, rfl, trivial⟩) hm ?_
  clear hm
  rintro ⟨⟩ w1 hm
  repeat' (first
    | (refine op_call (by rfl) (by rfl) (by rfl) (by exact c_cuts s (by omega) _) ?_; rintro tv wt ⟨hto, hkt⟩; obtain ⟨ta, tc, rfl⟩ := own_val hto; replace hm := hm.add (x := .row (.slice ta (Sp.cuts s).length tc) 3 1 (Sp.cuts s).length ((Sp.cuts s).flatMap encInt)) hkt (ownsRow_base hto (Nat.zero_le _)) (fun b hb => (hto.lt b hb).1))
    | (refine m_allocS (d := 12) hm (by rfl) (by rfl) ?_; clear hm; intro b12 _ hm)
    | (refine m_push (d := 73) hm (by rfl) (by rfl) (by rfl) (by rfl) (by rfl) (by first | exact gt0 | exact gt1 | exact gt2 | exact gt3 | exact gt4 | exact gt5 | exact gt6) (by rfl) (by rfl) (by rfl) (by rfl) (by omega) (by omega) ?_; clear hm; intro a73 cp73 _ _ hm; try simp only [setn] at hm)
    | refine op_move (by rfl) (by rfl) (by rfl) ?_
    | refine op_assign (by rfl) (by rfl) (by rfl) ?_
    | refine op_lss (by rfl) (by rfl) (by rfl) (by rfl) ?_
    | refine op_len_str (by rfl) (by rfl) (by rfl) ?_
    | refine op_len_slice (by rfl) (by rfl) (by rfl) ?_
    | refine op_sub (by rfl) (by rfl) (by rfl) (by rfl) (by omega) ?_
    | refine wl_nil ?_
    | refine at_then_normal ?_
    | refine at_then_exit ?_
    | refine at_block_exit ?_
    | refine wc_seq ?_
    | refine wc_region ?_
    | refine wc_block ?_
    | refine wc_exit ?_
    | refine wc_cond_false (by rfl) ?_)
  all_goals try (exfalso; omega)
  obtain ⟨I2, hle2, hm2, hrow⟩ := hm.freeze
  clear hm hto hkt
  have hm := hm2.nil 36 10
  clear hm2
  obtain ⟨n, hn⟩ : ∃ n, n = (Sp.cuts s).length := ⟨_, rfl⟩
  have hcat : ∀ k, k < n → (Sp.cuts s).getD k 0 < (Sp.cuts s).getD (k + 1) s.length ∧ (Sp.cuts s).getD (k + 1) s.length ≤ s.length := fun k hk => Sp.cuts_at s (by omega)
  have hfl : (Sp.cuts s).flatMap encInt ++ [nt s.length] = (Sp.cuts s ++ [s.length]).flatMap encInt := by rw [List.flatMap_append]; rfl
  have hz1 : ∀ k, k < n → (Sp.cuts s ++ [s.length])[k]? = some ((Sp.cuts s).getD k 0) := fun k hk => by
    rw [List.getElem?_append_left (by omega), List.getD_eq_getElem?_getD, List.getElem?_eq_getElem (by omega)]; rfl
  have hz2 : ∀ k, k < n → (Sp.cuts s ++ [s.length])[k + 1]? = some ((Sp.cuts s).getD (k + 1) s.length) := fun k hk => by
    rcases Nat.lt_or_ge (k + 1) (Sp.cuts s).length with h | h
    · rw [List.getElem?_append_left h, List.getD_eq_getElem?_getD, List.getElem?_eq_getElem h]; rfl
    · rw [List.getElem?_append_right h, show k + 1 - (Sp.cuts s).length = 0 by omega, List.getD_eq_getElem?_getD, List.getElem?_eq_none h]; rfl
  have hsm : ∀ k, (Sp.piece s (Sp.cuts s) k).length ≤ 1048576 := fun k => by rw [Sp.piece, List.length_take, List.length_drop]; omega
  have hits0 : Sp.items s (Sp.cuts s) = (List.range n).map (Sp.itemAt s (Sp.cuts s)) := by rw [Sp.items, hn]
  have herr : 30 < n → Sp.fileErr s = 5 ∧ Sp.fileItems s = [] := fun h => by
    have : Sp.fileErr s = 5 := by rw [Sp.fileErr, if_neg hl, if_pos (by omega)]
    exact ⟨this, by rw [Sp.fileItems, this]; rfl⟩
  have hok : n ≤ 30 → Sp.fileErr s = 0 ∧ Sp.fileItems s = Sp.items s (Sp.cuts s) := fun h => by
    have : Sp.fileErr s = 0 := by rw [Sp.fileErr, if_neg hl, if_neg (by omega)]
    exact ⟨this, by rw [Sp.fileItems, this]; rfl⟩
  change RowI I2 3 1 (.slice a73 ((Sp.cuts s).length + 1) cp73) ((Sp.cuts s).length + 1) ((Sp.cuts s).flatMap encInt ++ [nt s.length]) at hrow
  rw [hfl, ← hn] at hrow
  rw [← hn] at hcl ⊢
  generalize Sp.fileErr s = er at herr hok ⊢
  generalize Sp.fileItems s = its at herr hok ⊢
  clear hn hfl
  have hsmall : ∀ k, (Sp.itemAt s (Sp.cuts s) k).small := fun k => Sp.item_small _ _ (hsm k)
  generalize Sp.cuts s = cz at hrow hcat hz1 hz2 hits0 hok hsm hsmall
  refine wc_loop (fun x : AgX => [(2, str s), (6, ptr b6), (9, .map (some bm)), (12, ptr b12), (13, nt x.k), (14, .slice a73 (n + 1) cp73), (76, .int .i64 (((n + 1 : Nat) : Int) - 1)), (77, nt x.k)])
    (fun x w' => Mem E x.I [itRow x.k x.a x.cp x.xs, .cell b12 [.slice x.a x.k x.cp] 26, .mp bm [], .cell b6 [.slice none 0 0] 26, .cell b3 [.slice none 0 0] 26] w' ∧ Le I2 x.I ∧ ItsAt x.I ((List.range x.k).map (Sp.itemAt s cz)) x.xs ∧ x.k ≤ n ∧ x.k ≤ 30)
    (fun x => n - x.k) ⟨0, I2, none, 0, []⟩ (by exact ⟨rfl, rfl, rfl, rfl, rfl, rfl, rfl, rfl, trivial⟩) ⟨hm, Le.refl _, rfl, Nat.zero_le _, by dsimp only; omega⟩ ?_
  clear hm
  rintro ⟨k, I3, a, cp, xs⟩ w2 ⟨hm, hle3, hits, hk, hk30⟩
  dsimp only at hm hle3 hits hk hk30 ⊢
  have hrow2 := hrow.le hle3
  by_cases hlt : k < n
  · by_cases h30 : k = 30
    · obtain ⟨he, hi⟩ := herr (by omega)
      subst he; subst hi
      repeat' (first
        | (refine m_ret3_agg hm (by rfl) (by rfl) (by rfl) (by rfl) (by first | exact gt0 | exact gt1 | exact gt2 | exact gt3 | exact gt4 | exact gt5 | exact gt6) (by rfl) ?_)
        | refine m_load1 hm (by rfl) (by rfl) (by rfl) (by first | exact gt0 | exact gt1 | exact gt2 | exact gt3 | exact gt4 | exact gt5 | exact gt6) (by rfl) ?_
        | (refine m_storeAll hm (by rfl) (by rfl) (by rfl) (by rfl) (by first | exact gt0 | exact gt1 | exact gt2 | exact gt3 | exact gt4 | exact gt5 | exact gt6) (by rfl) (by rfl) (by rfl) ?_; clear hm; intro _ hm; try simp only [setn] at hm)
        | refine op_move (by rfl) (by rfl) (by rfl) ?_
        | refine op_assign (by rfl) (by rfl) (by rfl) ?_
        | refine op_lss (by rfl) (by rfl) (by rfl) (by rfl) ?_
        | refine op_eql (by rfl) (by rfl) (by rfl) (by rfl) ?_
        | refine op_len_slice (by rfl) (by rfl) (by rfl) ?_
        | refine op_fieldAddr (by rfl) (by rfl) (by rfl) ?_
        | refine op_struct (by rfl) (by rfl) (by rfl) (by rfl) ?_
        | refine wl_nil ?_
        | refine at_then_normal ?_
        | refine at_then_ret ?_
        | refine at_block_ret ?_
        | refine wc_seq ?_
        | refine wc_region ?_
        | refine wc_block ?_
        | refine wc_skip ?_
        | refine wc_ret ?_
        | (refine wc_cond_dec (by rfl) (fun _ => ?_) (fun _ => ?_) <;> (try first | contradiction | (exfalso; omega))))
      all_goals try (exfalso; omega)
      exact ⟨_, _, ⟨none, 0, [], rfl, rowI_nil _ _ _ _ _, rfl, rfl⟩, hm.left (H := [])⟩
    · have hca := hcat k hlt
      have hza : (cz ++ [s.length])[((k : Nat) : Int).toNat]? = some (cz.getD k 0) := by rw [Int.toNat_natCast]; exact hz1 k hlt
      have hzb : (cz ++ [s.length])[(((k : Nat) : Int) + 1).toNat]? = some (cz.getD (k + 1) s.length) := by
        rw [show (((k : Nat) : Int) + 1).toNat = k + 1 by omega]; exact hz2 k hlt
      have hit := p_item (Sp.piece s cz k) ((cz.getD k 0 : Nat) : Int) I3 ((hC.le hle2).le hle3) (hsm k)
      rw [show Sp.item (Sp.piece s cz k) ((cz.getD k 0 : Nat) : Int) = Sp.itemAt s cz k from rfl, Sp.piece] at hit
      have hat : (Sp.itemAt s cz k).at_ = ((cz.getD k 0 : Nat) : Int) := Sp.item_at _ _
      have hsk := hsmall k
      have hsn := Sp.items_snoc s cz k
      generalize Sp.itemAt s cz k = it at hit hat hsk hsn
      generalize cz.getD (k + 1) s.length = e2 at hca hzb hit
      generalize cz.getD k 0 = e1 at hca hza hit hat
      clear hsmall hsm hcat hz1 hz2 hits0 herr hok
      repeat' (first
        | (refine wc_semi_mem (id := 24) (hm.perm pm1_1) 3 6 (by kernel_rfl) ?_; clear hm; intro wd hR hm)
        | (refine iq_indexFlat (d := 88) (enc := encInt) (z := e1) (by rfl) (by rfl) (by rfl) (by rfl) hrow2 (fun _ => rfl) (by omega) (by omega) hza ?_; intro bt ot hpt)
        | (refine iq_indexFlat (d := 93) (enc := encInt) (z := e2) (by rfl) (by rfl) (by rfl) (by rfl) hrow2 (fun _ => rfl) (by omega) (by omega) hzb ?_; intro bt2 ot2 hpt2)
        | (refine m_lookup2 hm (by rfl) (by rfl) (by rfl) (by rfl) (by first | exact gt0 | exact gt1 | exact gt2 | exact gt3 | exact gt4 | exact gt5 | exact gt6) (by exact List.nodup_nil) zero_item ?_)
        | (refine i_indexFlat (d := 109) (enc := encInt) (z := e1) (by rfl) (by rfl) (by rfl) (by rfl) hrow2 (fun _ => rfl) (by omega) (by omega) hza ?_; intro bt3 ot3 hpt3)
        | (refine m_call hm (by rfl) (by rfl) (by rfl) (by first | exact pm0 | exact pm1_0 | exact pm1_1 | exact pm1_2 | exact pm1_3 | exact pm2_0 | exact pm2_1 | exact pm2_2 | exact pm2_3 | exact pm2_4 | exact pm3_0 | exact pm3_1 | exact pm3_2) (hit) ?_; clear hm; rintro _ I4 _ _ ⟨_, rfl, ⟨ap, cp1, as_, cs1, ab, cb, ad, cd, xb, rfl, r1, r2, r3, r4, r5⟩, rfl⟩ hle hm; have hleI4 := hle; try simp only [setn] at hm)
        | (refine i_indexFlat (d := 114) (enc := encInt) (z := e1) (by rfl) (by rfl) (by rfl) (by rfl) (hrow2.le hleI4) (fun _ => rfl) (by omega) (by omega) hza ?_; intro bt4 ot4 hpt4)
        | (refine mt_call (d := 120) hm (by rfl) (by rfl) (by rfl) (by first | exact pm0 | exact pm1_0 | exact pm1_1 | exact pm1_2 | exact pm1_3 | exact pm2_0 | exact pm2_1 | exact pm2_2 | exact pm2_3 | exact pm2_4 | exact pm3_0 | exact pm3_1 | exact pm3_2) (p_own it hsk _ _ ⟨ap, cp1, as_, cs1, ab, cb, ad, cd, xb, by rw [hat], r1, r2, r3, r4, r5⟩) ?_; clear hm; rintro _ I5 _ _ ⟨_, rfl, ⟨ap2, cp2, as2, cs2, ab2, cb2, ad2, cd2, xb2, rfl, q1, q2, q3, q4, q5⟩, rfl⟩ hle hm; have hleI5 := hle; try simp only [setn] at hm)
        | refine mw_loadAll hR (by rfl) (by rfl) (by rfl) (by first | exact gt0 | exact gt1 | exact gt2 | exact gt3 | exact gt4 | exact gt5 | exact gt6) (by rfl) ?_
        | refine mw_load1 hR (by rfl) (by rfl) (by rfl) (by first | exact gt0 | exact gt1 | exact gt2 | exact gt3 | exact gt4 | exact gt5 | exact gt6) (by rfl) ?_
        | (refine mt_push (d := 122) hm (by rfl) (by rfl) (by rfl) (by rfl) (by rfl) (by first | exact gt0 | exact gt1 | exact gt2 | exact gt3 | exact gt4 | exact gt5 | exact gt6) (by rfl) (by rfl) (by rfl) (by rfl) (by omega) (by omega) ?_; clear hm; intro a122 cp122 _ _ hm; replace hm := hR.back hm; clear hR; try simp only [setn] at hm)
        | (refine m_varS (d := 17) hm (by rfl) (by rfl) (by rfl) (by rfl) (by rfl) ?_; clear hm; intro b17 _ hm)
        | refine m_load1 hm (by rfl) (by rfl) (by rfl) (by first | exact gt0 | exact gt1 | exact gt2 | exact gt3 | exact gt4 | exact gt5 | exact gt6) (by rfl) ?_
        | refine i_load1z hm (by rfl) (by rfl) (by rfl) (by assumption) (by rfl) ?_
        | refine iq_load1z hm (by rfl) (by rfl) (by rfl) (by assumption) (by rfl) ?_
        | (refine m_storeAll hm (by rfl) (by rfl) (by rfl) (by rfl) (by first | exact gt0 | exact gt1 | exact gt2 | exact gt3 | exact gt4 | exact gt5 | exact gt6) (by rfl) (by rfl) (by rfl) ?_; clear hm; intro _ hm; try simp only [setn] at hm)
        | (refine m_store1 hm (by rfl) (by rfl) (by rfl) (by rfl) (by first | exact gt0 | exact gt1 | exact gt2 | exact gt3 | exact gt4 | exact gt5 | exact gt6) (by rfl) (by rfl) (by rfl) ?_; clear hm; intro _ hm; try simp only [setn] at hm)
        | refine op_move (by rfl) (by rfl) (by rfl) ?_
        | refine op_assign (by rfl) (by rfl) (by rfl) ?_
        | refine op_lss (by rfl) (by rfl) (by rfl) (by rfl) ?_
        | refine op_eql (by rfl) (by rfl) (by rfl) (by rfl) ?_
        | refine op_len_slice (by rfl) (by rfl) (by rfl) ?_
        | refine op_not (by rfl) (by rfl) (by rfl) ?_
        | refine op_extract (by rfl) (by rfl) (by rfl) (by rfl) ?_
        | refine op_add (by rfl) (by rfl) (by rfl) (by rfl) (by omega) ?_
        | refine op_fieldAddr (by rfl) (by rfl) (by rfl) ?_
        | refine wl_nil ?_
        | refine at_then_normal ?_
        | refine at_block_normal ?_
        | refine wc_seq ?_
        | refine wc_region ?_
        | refine wc_block ?_
        | refine wc_skip ?_
        | refine wc_quiet (by kernel_rfl) ?_
        | (refine wq_nil ?_; intro _ hkq; replace hm := hm.kept0 hkq; clear hkq)
        | refine wc_cond_true (by rfl) ?_
        | (refine wc_cond_dec (by rfl) (fun _ => ?_) (fun _ => ?_) <;> (try first | contradiction | (exfalso; omega)))
        | refine q_move (by rfl) (by rfl) (by rfl) ?_
        | refine q_assign (by rfl) (by rfl) (by rfl) ?_
        | refine q_add (by rfl) (by rfl) (by rfl) (by rfl) (by omega) ?_
        | refine q_slice_str (by rfl) (by rfl) (by rfl) (by rfl) (by rfl) (by omega) ?_
        | refine v_fieldAddr (by rfl) (by rfl) (by rfl) ?_
        | refine wv_nil ?_)
      all_goals try (exfalso; first | omega | contradiction)
      refine at_round (⟨k + 1, I5, _, _, _⟩ : AgX) (by exact ⟨rfl, rfl, rfl, rfl, rfl, rfl, rfl, rfl, trivial⟩) ⟨(hm.front 1 rfl).tl, (hle3.trans hleI4).trans hleI5, ?_, by dsimp only; omega, by dsimp only; omega⟩ (by dsimp only; omega)
      dsimp only
      rw [hsn]
      exact (hits.le (hleI4.trans hleI5)).snoc ⟨ap2, cp2, as2, cs2, ab2, cb2, ad2, cd2, xb2, rfl, q1, q2, q3, q4, q5⟩
  · obtain rfl : k = n := by omega
    obtain ⟨he, hi⟩ := hok hk30
    subst he; subst hi
    have hln : (Sp.items s cz).length = k := by rw [hits0]; simp
    repeat' (first
      | (refine m_ret3_agg hm (by rfl) (by rfl) (by rfl) (by rfl) (by first | exact gt0 | exact gt1 | exact gt2 | exact gt3 | exact gt4 | exact gt5 | exact gt6) (by rfl) ?_)
      | refine m_loadAll hm (by rfl) (by rfl) (by rfl) (by first | exact gt0 | exact gt1 | exact gt2 | exact gt3 | exact gt4 | exact gt5 | exact gt6) (by rfl) ?_
      | (refine m_storeAll hm (by rfl) (by rfl) (by rfl) (by rfl) (by first | exact gt0 | exact gt1 | exact gt2 | exact gt3 | exact gt4 | exact gt5 | exact gt6) (by rfl) (by rfl) (by rfl) ?_; clear hm; intro _ hm; try simp only [setn] at hm)
      | refine op_move (by rfl) (by rfl) (by rfl) ?_
      | refine op_assign (by rfl) (by rfl) (by rfl) ?_
      | refine op_lss (by rfl) (by rfl) (by rfl) (by rfl) ?_
      | refine wl_nil ?_
      | refine at_then_normal ?_
      | refine at_then_exit ?_
      | refine at_block_exit ?_
      | refine wc_seq ?_
      | refine wc_region ?_
      | refine wc_exit ?_
      | refine wc_ret ?_
      | (refine wc_cond_dec (by rfl) (fun _ => ?_) (fun _ => ?_) <;> (try first | contradiction | (exfalso; omega))))
    all_goals try (exfalso; omega)
    obtain ⟨I4, hle4, hm4, hrow4⟩ := (hm.front 0 rfl).freeze
    refine ⟨I4, [], ⟨a, cp, xs, ?_, ?_, by rw [hits0]; exact hits.le hle4, rfl⟩, hm4.left (H := [])⟩
    · rw [hln]; rfl
    · rw [hln]; exact hrow4
theorem p_file (s : List UInt8) (I : Imm) (hC : Conv I) (hs : s.length ≤ 9223372036854775807) : CalM Tryz.prog 4 #[str s] I [] (ToFile (Sp.fileErr s) (Sp.fileItems s)) := by
  refine CalM.of fun w E hm => enter (N := 16) Tryz.func4 rfl [(0, str s)] args1 rfl ?_
  repeat' (first
    | (refine m_call hm (by rfl) (by rfl) (by rfl) (by first | exact pm0 | exact pm1_0 | exact pm1_1 | exact pm1_2 | exact pm1_3 | exact pm2_0 | exact pm2_1 | exact pm2_2 | exact pm2_3 | exact pm2_4 | exact pm3_0 | exact pm3_1 | exact pm3_2) (p_again0 s I hC hs) ?_; clear hm; rintro _ I2 _ _ ⟨a, cp, xs, rfl, hrow, hits, rfl⟩ hle hm; have hleI2 := hle; try simp only [setn] at hm)
    | (refine m_allocS (d := 2) hm (by rfl) (by rfl) ?_; clear hm; intro b2 _ hm)
    | (refine m_varS (d := 4) hm (by rfl) (by rfl) (by rfl) (by rfl) (by rfl) ?_; clear hm; intro b4 _ hm)
    | refine m_loadAll hm (by rfl) (by rfl) (by rfl) (by first | exact gt0 | exact gt1 | exact gt2 | exact gt3 | exact gt4 | exact gt5 | exact gt6) (by rfl) ?_
    | (refine m_storeAll hm (by rfl) (by rfl) (by rfl) (by rfl) (by first | exact gt0 | exact gt1 | exact gt2 | exact gt3 | exact gt4 | exact gt5 | exact gt6) (by rfl) (by rfl) (by rfl) ?_; clear hm; intro _ hm; try simp only [setn] at hm)
    | refine m_ret2_agg hm (by rfl) (by rfl) (by rfl) (by first | exact gt0 | exact gt1 | exact gt2 | exact gt3 | exact gt4 | exact gt5 | exact gt6) (by rfl) ?_
    | refine op_move (by rfl) (by rfl) (by rfl) ?_
    | refine op_assign (by rfl) (by rfl) (by rfl) ?_
    | refine op_extract (by rfl) (by rfl) (by rfl) (by rfl) ?_
    | refine op_struct (by rfl) (by rfl) (by rfl) (by rfl) ?_
    | refine wl_nil ?_
    | refine at_then_normal ?_
    | refine wc_seq ?_
    | refine wc_region ?_
    | refine wc_ret ?_)
  exact ⟨I2, [], ⟨a, cp, xs, rfl, hrow, hits, rfl⟩, hm.left (H := [])⟩
end Go.Proofs.YtjfkjpbkmpofkaaGreatDoor
end
section
namespace Go.Sp
inductive Runs (T : Src) : St → St → Prop where
  | refl (s : St) : Runs T s s
  | bad {s r : St} (e : Nat) : Runs T s r → Runs T s (r.bad T e)
  | next {s r : St} : Runs T s r → Runs T s r.next
theorem Runs.trans {T : Src} {s r q : St} (h : Runs T s r) (g : Runs T r q) : Runs T s q := by
  induction g with
  | refl => exact h
  | bad e _ ih => exact .bad e ih
  | next _ ih => exact .next ih
theorem Runs.on {T : Src} {s r : St} (h : Runs T s r) : s.i ≤ r.i := by
  induction h with
  | refl => exact Nat.le_refl _
  | bad e _ ih => exact ih
  | next _ ih => exact Nat.le_succ_of_le ih
theorem runs_bad (T : Src) (s : St) (e : Nat) : Runs T s (s.bad T e) := .bad e (.refl s)
theorem runs_next (T : Src) (s : St) : Runs T s s.next := .next (.refl s)
theorem runs_need (T : Src) (s : St) (w : List UInt8) : Runs T s (s.need T w).2 := by
  rw [St.need]; split
  · exact runs_next T s
  · exact runs_bad T s 2
theorem runs_named (T : Src) (s : St) : Runs T s (s.named T).2 := by
  rw [St.named]; split
  · exact runs_next T s
  · split
    · exact .next (runs_bad T s 7)
    · exact runs_bad T s 2
theorem runs_labL (T : Src) : ∀ (f n : Nat) (s : St), Runs T s (labL T f n s).2
  | 0, n, s => .refl s
  | f + 1, n, s => by
    rw [labL]; split
    · exact runs_next T s
    · dsimp only
      split
      · exact runs_bad T s 2
      · generalize (if bit n ((T.tok s.i).text.getD 0 0 |>.toNat |> (· - 97)) = true then n else n + 2 ^ ((T.tok s.i).text.getD 0 0 |>.toNat |> (· - 97))) = n1
        have g : Runs T s (if bit n ((T.tok s.i).text.getD 0 0 |>.toNat |> (· - 97)) = true then s.bad T 7 else s).next := by
          split
          · exact .next (runs_bad T s 7)
          · exact runs_next T s
        generalize (if bit n ((T.tok s.i).text.getD 0 0 |>.toNat |> (· - 97)) = true then s.bad T 7 else s).next = s2 at g
        split
        · exact g.trans (runs_labL T f n1 s2)
        · split
          · exact (Runs.next g).trans (runs_labL T f n1 s2.next)
          · exact g.trans (runs_bad T s2 2)
theorem runs_lab (T : Src) (s : St) : Runs T s (lab T s).2 := by
  rw [lab]; split
  · exact (runs_next T s).trans (runs_labL T _ 0 s.next)
  · exact runs_bad T s 2
theorem runs_expr (T : Src) : ∀ f, (∀ d s, Runs T s (atom T f d s).2) ∧ (∀ d l s, Runs T s (argL T f d l s).2) ∧ (∀ d m s, Runs T s (expr T f d m s).2) ∧ (∀ d m e s, Runs T s (opL T f d m e s).2)
  | 0 => ⟨fun _ _ => by rw [atom]; exact .refl _, fun _ _ _ => by rw [argL]; exact .refl _, fun _ _ _ => by rw [expr]; exact .refl _, fun _ _ _ _ => by rw [opL]; exact .refl _⟩
  | f + 1 => by
    obtain ⟨hA, hL, hE, hO⟩ := runs_expr T f
    refine ⟨fun d s => ?_, fun d l s => ?_, fun d m s => ?_, fun d m e s => ?_⟩
    · rw [atom]
      dsimp only
      split
      · exact runs_bad T s 2
      · split
        · exact runs_bad T s 12
        · split
          · split
            · exact .next (runs_bad T s 3)
            · exact runs_next T s
          · split
            · exact ((runs_next T s).trans (hE _ _ _)).trans (runs_need T _ _)
            · split
              · exact runs_bad T s 2
              · split
                · exact runs_next T s
                · exact ((Runs.next (runs_next T s)).trans (hL _ _ _)).trans (runs_need T _ _)
    · rw [argL]
      split
      · exact .refl _
      · split
        · exact runs_bad T s 5
        · try dsimp only
          split
          · exact (Runs.next (hE _ _ _)).trans (hL _ _ _)
          · exact hE _ _ _
    · rw [expr]
      try dsimp only
      exact (hA d s).trans (hO _ _ _ _)
    · rw [opL]
      try dsimp only
      split
      · exact .refl _
      · exact ((runs_next T s).trans (hE _ _ _)).trans (hO _ _ _ _)
theorem runs_block (T : Src) : ∀ f, (∀ d s, Runs T s (block T f d s).2) ∧ (∀ d l s, Runs T s (stmL T f d l s).2) ∧ (∀ d s, Runs T s (stm T f d s).2)
  | 0 => ⟨fun _ _ => by rw [block]; exact .refl _, fun _ _ _ => by rw [stmL]; exact .refl _, fun _ s => by rw [stm]; exact .refl _⟩
  | f + 1 => by
    obtain ⟨hB, hL, hS⟩ := runs_block T f
    have hE := (runs_expr T f).2.2.1
    refine ⟨fun d s => ?_, fun d l s => ?_, fun d s => ?_⟩
    · rw [block]
      split
      · exact runs_bad T s 2
      · split
        · exact (runs_next T s).trans (runs_bad T _ 12)
        · dsimp only
          exact ((runs_next T s).trans (hL _ _ _)).trans (runs_need T _ _)
    · rw [stmL]
      split
      · exact .refl _
      · split
        · exact runs_bad T s 5
        · dsimp only
          split
          · exact (Runs.next (hS d s)).trans (hL _ _ _)
          · exact (hS d s).trans (hL _ _ _)
    · rw [stm]
      dsimp only
      split
      · have g1 := runs_named T s.next
        have g2 : Runs T (s.next.named T).2 (if (!T.is (s.next.named T).2.i [58]) = true then ((0 : Nat), (s.next.named T).2) else lab T (s.next.named T).2.next).2 := by
          split
          · exact .refl _
          · exact (runs_next T _).trans (runs_lab T _)
        exact (((((runs_next T s).trans g1).trans g2).trans (runs_need T _ _)).trans (hE _ _ _)).trans (runs_need T _ _)
      · split
        · have g1 := ((runs_next T s).trans (hE d 1 s.next)).trans (hB d (expr T f d 1 s.next).2)
          split
          · exact (Runs.next g1).trans (hB d _)
          · exact g1
        · split
          · exact ((runs_next T s).trans (hE d 1 s.next)).trans (hB d (expr T f d 1 s.next).2)
          · split
            · exact (((runs_next T s).trans (runs_named T s.next)).trans (hE d 1 _)).trans (runs_need T _ _)
            · split
              · exact ((runs_next T s).trans (hE d 1 s.next)).trans (runs_need T _ _)
              · split
                · split
                  · exact ((Runs.next (runs_next T s)).trans (hE d 1 _)).trans (runs_need T _ [59])
                  · exact (hE d 1 s).trans (runs_need T _ [59])
                · exact runs_bad T s 2
theorem runs_parL (T : Src) : ∀ (f : Nat) (l : List Par) (s : St), Runs T s (parL T f l s).2
  | 0, l, s => .refl _
  | f + 1, l, s => by
    rw [parL]
    split
    · exact .refl _
    · split
      · exact runs_bad T s 5
      · dsimp only
        have g := (runs_named T s).trans (runs_need T (s.named T).2 [58])
        split
        · exact g
        · have g2 := g.trans (runs_lab T _)
          split
          · exact (Runs.next g2).trans (runs_parL T f _ _)
          · exact g2
theorem runs_sndL (T : Src) : ∀ (f : Nat) (l : List Rf) (s : St), Runs T s (sndL T f l s).2
  | 0, l, s => .refl _
  | f + 1, l, s => by
    rw [sndL]
    split
    · exact runs_bad T s 5
    · dsimp only
      split
      · exact (Runs.next (runs_named T s)).trans (runs_sndL T f _ _)
      · exact runs_named T s
theorem runs_fn (T : Src) (at_ : Int) (size : Nat) (s : St) : Runs T s (fnItm T at_ size s).2 := by
  rw [fnItm]
  dsimp only
  have g6 : ∀ r5 : Nat × St, Runs T r5.2 (if T.is r5.2.i [115, 101, 110, 100, 115] = true then sndL T 6 [] r5.2.next else ([], r5.2)).2 := fun r5 => by
    split
    · exact (runs_next T _).trans (runs_sndL T _ _ _)
    · exact .refl _
  exact (((((((runs_named T s).trans (runs_need T _ _)).trans (runs_parL T 6 [] _)).trans (runs_need T _ _)).trans (runs_need T _ _)).trans (runs_lab T _)).trans (g6 _)).trans ((runs_block T _).1 _ _)
theorem runs_ch (T : Src) (at_ : Int) (size : Nat) (s : St) : Runs T s (chItm T at_ size s).2 := by
  rw [chItm]
  dsimp only
  exact (((runs_named T s).trans (runs_need T _ _)).trans (runs_lab T _)).trans (runs_need T _ _)
/-- what is told stands in the text. -/
def dgIn (size : Nat) (d : Dg) : Prop := d.fr ≤ d.to ∧ d.to ≤ size
theorem bad_in {T : Src} {s : St} {e : Nat} (hT : ∀ i, (T.tok i).pos + (T.tok i).text.length ≤ T.size) (h : ∀ d ∈ s.ds, dgIn T.size d) : ∀ d ∈ (s.bad T e).ds, dgIn T.size d := by
  intro d hd
  rcases List.mem_append.1 (show d ∈ s.ds ++ [_] from hd) with h1 | h1
  · exact h d h1
  · have e1 := List.mem_singleton.1 h1
    rw [e1]
    exact ⟨Nat.le_add_right _ _, hT s.i⟩
theorem runs_in {T : Src} {s r : St} (hT : ∀ i, (T.tok i).pos + (T.tok i).text.length ≤ T.size) (h : Runs T s r) (hs : ∀ d ∈ s.ds, dgIn T.size d) : ∀ d ∈ r.ds, dgIn T.size d := by
  induction h with
  | refl => exact hs
  | bad e _ ih => exact bad_in hT ih
  | next _ ih => exact ih
theorem toks_in (s : List UInt8) (i : Nat) : ((⟨tokens s, s.length⟩ : Src).tok i).pos + ((⟨tokens s, s.length⟩ : Src).tok i).text.length ≤ s.length := by
  rcases Nat.lt_or_ge i (tokens s).length with h | h
  · rw [Src.tok, List.getD_eq_getElem?_getD, List.getElem?_eq_getElem h]
    exact (tokens_ok s _ (List.getElem_mem h)).fit
  · rw [tok_end h]; simp
theorem item_in (s : List UInt8) (at_ : Int) : ∀ d ∈ (item s at_).diags, dgIn s.length d := by
  have hT := toks_in s
  have g : ∀ q : Itm × St, (∀ d ∈ q.2.ds, dgIn s.length d) → ∀ d ∈ (if q.2.i < (⟨tokens s, s.length⟩ : Src).l.length then q.2.bad ⟨tokens s, s.length⟩ 2 else q.2).ds, dgIn s.length d := fun q hq => by
    split
    · exact bad_in (T := ⟨tokens s, s.length⟩) hT hq
    · exact hq
  rw [item]
  dsimp only
  refine g _ ?_
  split
  · exact runs_in (T := ⟨tokens s, s.length⟩) hT (runs_fn _ _ _ _) (by simp)
  · split
    · exact runs_in (T := ⟨tokens s, s.length⟩) hT (runs_ch _ _ _ _) (by simp)
    · exact bad_in (T := ⟨tokens s, s.length⟩) (s := ⟨0, []⟩) (e := 2) hT (by simp)
end Go.Sp
end
section
namespace Go.Sp
def chErr (s : List UInt8) (f u : Int) (x : List UInt8) : Nat := if f < 0 ∨ u < f ∨ u > s.length then 3 else if x.length > 4000 ∨ (s.length : Int) - (u - f) + x.length > 4000 then 4 else 0
def chTo (s : List UInt8) (f u : Int) (x : List UInt8) : List UInt8 := if chErr s f u x = 0 then s.take f.toNat ++ x ++ s.drop u.toNat else []
theorem items_len (s : List UInt8) (cs : List Nat) : (items s cs).length = cs.length := by simp [items]
theorem items_get (s : List UInt8) (cs : List Nat) {k : Nat} (h : k < cs.length) : (items s cs)[k]? = some (itemAt s cs k) := by
  simp [items, h]
theorem file_few (s : List UInt8) : (fileItems s).length ≤ 30 := by
  rw [fileItems]
  split
  · rename_i h
    rw [items_len]
    rw [fileErr] at h
    split at h
    · omega
    · split at h <;> omega
  · simp
/-- what each item of a file is like. -/
structure ItIn (s : List UInt8) (k : Nat) (it : Itm) : Prop where
  at0 : 0 ≤ it.at_
  size : 1 ≤ it.size
  top : it.at_ + it.size ≤ s.length
  ends : it.at_ + it.size = (match (fileItems s)[k + 1]? with | some j => j.at_ | none => (s.length : Int))
  diags : ∀ d ∈ it.diags, d.fr ≤ d.to ∧ d.to ≤ it.size
  small : it.small
  len : s.length ≤ 4000
theorem item_szat (src : List UInt8) (at_ : Int) : (item src at_).size = src.length ∧ (item src at_).at_ = at_ := ⟨item_size src at_, item_at src at_⟩
theorem file_in (s : List UInt8) (h0 : fileErr s = 0) {k : Nat} {it : Itm} (h : (fileItems s)[k]? = some it) : ItIn s k it := by
  have e : fileItems s = items s (cuts s) := by rw [fileItems, if_pos h0]
  have hk : k < (cuts s).length := by
    have := (List.getElem?_eq_some_iff.1 h).1
    rwa [e, items_len] at this
  have hi : it = itemAt s (cuts s) k := by
    rw [e, items_get s _ hk] at h
    exact (Option.some.inj h).symm
  obtain ⟨h1, h2⟩ := cuts_at s hk
  have hsz : (itemAt s (cuts s) k).size = (cuts s).getD (k + 1) s.length - (cuts s).getD k 0 := by
    rw [itemAt, (item_szat _ _).1, piece, List.length_take, List.length_drop]; omega
  have hat : (itemAt s (cuts s) k).at_ = ((cuts s).getD k 0 : Nat) := by rw [itemAt, (item_szat _ _).2]
  have hlen : s.length ≤ 4000 := by
    rw [fileErr] at h0
    split at h0
    · cases h0
    · omega
  have hsm : (itemAt s (cuts s) k).small := item_small _ _ (by rw [piece, List.length_take, List.length_drop]; omega)
  have hdg : ∀ d ∈ (itemAt s (cuts s) k).diags, dgIn (piece s (cuts s) k).length d := item_in _ _
  have hpl : (piece s (cuts s) k).length = (itemAt s (cuts s) k).size := by rw [itemAt, (item_szat _ _).1]
  subst hi
  refine ⟨by rw [hat]; omega, by rw [hsz]; omega, by rw [hat, hsz]; omega, ?_, fun d hd => (by have := hdg d hd; rw [hpl] at this; exact this), hsm, hlen⟩
  rw [hat, hsz]
  rcases Nat.lt_or_ge (k + 1) (cuts s).length with h4 | h4
  · have e2 : (fileItems s)[k + 1]? = some (itemAt s (cuts s) (k + 1)) := by rw [e, items_get s _ h4]
    rw [e2]
    dsimp only
    have hat2 : (itemAt s (cuts s) (k + 1)).at_ = ((cuts s).getD (k + 1) 0 : Nat) := by rw [itemAt, (item_szat _ _).2]
    have e3 : (cuts s).getD (k + 1) s.length = (cuts s).getD (k + 1) 0 := by
      rw [List.getD_eq_getElem?_getD, List.getD_eq_getElem?_getD, List.getElem?_eq_getElem h4]; rfl
    rw [hat2, e3]
    rw [e3] at h1 h2
    omega
  · have e2 : (fileItems s)[k + 1]? = none := by rw [e]; exact List.getElem?_eq_none (by rw [items_len]; omega)
    rw [e2]
    have e3 : (cuts s).getD (k + 1) s.length = s.length := by rw [List.getD_eq_getElem?_getD, List.getElem?_eq_none h4]; rfl
    dsimp only
    rw [e3] at h1 ⊢
    omega
end Go.Sp
end
section
namespace Go.Proofs.YtjfkjpbkmpofkaaGreatDoor
open Go.Fw
abbrev edCells (f u : Int) (x : List UInt8) : List Value := [.int .i64 f, .int .i64 u, str x]
theorem p_change (s : List UInt8) (f u : Int) (x : List UInt8) (hs : s.length ≤ 1099511627776) (hx : x.length ≤ 1099511627776) (I : Imm) :
    CalM Tryz.prog 11 #[str s, .agg (edCells f u x).toArray] I [] (fun v _ H' => v = .tuple #[str (Sp.chTo s f u x), nt (Sp.chErr s f u x)] ∧ H' = []) := by
  refine CalM.of fun w E hm => enter (N := 54) Tryz.func11 rfl [(0, str s), (1, .agg (edCells f u x).toArray)] args2 rfl ?_
  by_cases h3 : f < 0 ∨ u < f ∨ u > s.length
  · have he : Sp.chErr s f u x = 3 := by rw [Sp.chErr, if_pos h3]
    have ht : Sp.chTo s f u x = [] := by rw [Sp.chTo, he]; rfl
    rw [he, ht]
    repeat' (first
      | (refine m_box (d := 3) hm (by rfl) (by rfl) (by rfl) (by rfl) ?_; clear hm; intro b3 _ hm)
      | refine m_load1 hm (by rfl) (by rfl) (by rfl) (by first | exact gt0 | exact gt1 | exact gt2 | exact gt3 | exact gt4 | exact gt5 | exact gt6) (by rfl) ?_
      | refine i_load1 hm (by rfl) (by rfl) (by rfl) (by assumption) (by rfl) ?_
      | refine m_loadAll hm (by rfl) (by rfl) (by rfl) (by first | exact gt0 | exact gt1 | exact gt2 | exact gt3 | exact gt4 | exact gt5 | exact gt6) (by rfl) ?_
      | refine i_loadN hm (by rfl) (by rfl) (by rfl) (by assumption) (by rfl) ?_
      | refine i_load1z hm (by rfl) (by rfl) (by rfl) (by assumption) (by rfl) ?_
      | refine mq_load1 hm (by rfl) (by rfl) (by rfl) (by first | exact gt0 | exact gt1 | exact gt2 | exact gt3 | exact gt4 | exact gt5 | exact gt6) (by rfl) ?_
      | refine iq_load1 hm (by rfl) (by rfl) (by rfl) (by assumption) (by rfl) ?_
      | refine mq_loadAll hm (by rfl) (by rfl) (by rfl) (by first | exact gt0 | exact gt1 | exact gt2 | exact gt3 | exact gt4 | exact gt5 | exact gt6) (by rfl) ?_
      | refine iq_loadN hm (by rfl) (by rfl) (by rfl) (by assumption) (by rfl) ?_
      | refine iq_load1z hm (by rfl) (by rfl) (by rfl) (by assumption) (by rfl) ?_
      | refine m_ret_agg hm (by rfl) (by rfl) (by first | exact gt0 | exact gt1 | exact gt2 | exact gt3 | exact gt4 | exact gt5 | exact gt6) (by rfl) ?_
      | refine m_ret2_agg hm (by rfl) (by rfl) (by rfl) (by first | exact gt0 | exact gt1 | exact gt2 | exact gt3 | exact gt4 | exact gt5 | exact gt6) (by rfl) ?_
      | refine op_move (by rfl) (by rfl) (by rfl) ?_
      | refine op_assign (by rfl) (by rfl) (by rfl) ?_
      | refine op_pick_true (by rfl) (by rfl) (by rfl) (by rfl) ?_
      | refine op_pick_false (by rfl) (by rfl) (by rfl) (by rfl) ?_
      | refine op_lss (by rfl) (by rfl) (by rfl) (by rfl) ?_
      | refine op_gtr (by rfl) (by rfl) (by rfl) (by rfl) ?_
      | refine op_len_str (by rfl) (by rfl) (by rfl) ?_
      | refine op_len_slice (by rfl) (by rfl) (by rfl) ?_
      | refine op_add (by rfl) (by rfl) (by rfl) (by rfl) (by omega) ?_
      | refine op_sub (by rfl) (by rfl) (by rfl) (by rfl) (by omega) ?_
      | refine op_add_u8 (by rfl) (by rfl) (by rfl) (by rfl) (by omega) ?_
      | refine op_sub_u8 (by rfl) (by rfl) (by rfl) (by rfl) (by omega) ?_
      | refine op_slice_str (by rfl) (by rfl) (by rfl) (by rfl) (by rfl) (by omega) ?_
      | refine op_slice_from (by rfl) (by rfl) (by rfl) (by rfl) (by omega) ?_
      | refine op_slice_to (by rfl) (by rfl) (by rfl) (by rfl) (by omega) ?_
      | refine op_fieldAddr (by rfl) (by rfl) (by rfl) ?_
      | refine op_load1 (by rfl) (by rfl) (by rfl) (by assumption) (by rfl) ?_
      | refine wl_skip (by rfl) (by rfl) (by rfl) ?_
      | (refine wl_split_dec (by rfl) (by rfl) (by rfl) (fun _ => ?_) (fun _ => ?_) <;> (try first | contradiction | (exfalso; omega)))
      | (refine wl_split (by rfl) (by rfl) (by rfl) (fun _ => ?_) (fun _ => ?_) <;> (fail_if_success contradiction))
      | refine wl_nil ?_
      | refine at_then_normal ?_
      | refine at_then_ret ?_
      | refine wc_seq ?_
      | refine wc_region ?_
      | refine wc_skip ?_
      | refine wc_ret ?_
      | refine at_ret2 (by rfl) (by rfl) (by rfl) ?_
      | refine wc_quiet (by kernel_rfl) ?_
      | (refine wq_nil ?_; intro _ hkq; replace hm := hm.kept0 hkq; clear hkq)
      | (refine wq_nil_tail ?_; intro _ hkq; replace hm := hm.kept0 hkq; clear hkq)
      | refine wc_cond_true (by rfl) ?_
      | refine wc_cond_false (by rfl) ?_
      | (refine wc_cond_dec (by rfl) (fun _ => ?_) (fun _ => ?_) <;> (try first | contradiction | (exfalso; omega)))
      | refine wc_cond (by rfl) (fun _ => ?_) (fun _ => ?_)
      | refine q_move (by rfl) (by rfl) (by rfl) ?_
      | refine q_assign (by rfl) (by rfl) (by rfl) ?_
      | refine q_pick_true (by rfl) (by rfl) (by rfl) (by rfl) ?_
      | refine q_pick_false (by rfl) (by rfl) (by rfl) (by rfl) ?_
      | refine q_lss (by rfl) (by rfl) (by rfl) (by rfl) ?_
      | refine q_gtr (by rfl) (by rfl) (by rfl) (by rfl) ?_
      | refine q_len_str (by rfl) (by rfl) (by rfl) ?_
      | refine q_len_slice (by rfl) (by rfl) (by rfl) ?_
      | refine q_add (by rfl) (by rfl) (by rfl) (by rfl) (by omega) ?_
      | refine q_sub (by rfl) (by rfl) (by rfl) (by rfl) (by omega) ?_
      | refine q_add_u8 (by rfl) (by rfl) (by rfl) (by rfl) (by omega) ?_
      | refine q_sub_u8 (by rfl) (by rfl) (by rfl) (by rfl) (by omega) ?_
      | refine q_slice_str (by rfl) (by rfl) (by rfl) (by rfl) (by rfl) (by omega) ?_
      | refine q_slice_from (by rfl) (by rfl) (by rfl) (by rfl) (by omega) ?_
      | refine q_slice_to (by rfl) (by rfl) (by rfl) (by rfl) (by omega) ?_
      | refine q_fieldAddr (by rfl) (by rfl) (by rfl) ?_
      | refine q_load1 (by rfl) (by rfl) (by rfl) (by assumption) (by rfl) ?_
      | refine wq_skip (by rfl) (by rfl) (by rfl) ?_
      | (refine wq_split_dec (by rfl) (by rfl) (by rfl) (fun _ => ?_) (fun _ => ?_) <;> (try first | contradiction | (exfalso; omega)))
      | (refine wq_split (by rfl) (by rfl) (by rfl) (fun _ => ?_) (fun _ => ?_) <;> (fail_if_success contradiction)))
    all_goals try (exfalso; omega)
    all_goals exact ⟨I, [], ⟨rfl, rfl⟩, hm.left (H := [])⟩
  · by_cases h4 : x.length > 4000 ∨ (s.length : Int) - (u - f) + x.length > 4000
    · have he : Sp.chErr s f u x = 4 := by rw [Sp.chErr, if_neg h3, if_pos h4]
      have ht : Sp.chTo s f u x = [] := by rw [Sp.chTo, he]; rfl
      rw [he, ht]
      repeat' (first
        | (refine m_box (d := 3) hm (by rfl) (by rfl) (by rfl) (by rfl) ?_; clear hm; intro b3 _ hm)
        | refine m_load1 hm (by rfl) (by rfl) (by rfl) (by first | exact gt0 | exact gt1 | exact gt2 | exact gt3 | exact gt4 | exact gt5 | exact gt6) (by rfl) ?_
        | refine i_load1 hm (by rfl) (by rfl) (by rfl) (by assumption) (by rfl) ?_
        | refine m_loadAll hm (by rfl) (by rfl) (by rfl) (by first | exact gt0 | exact gt1 | exact gt2 | exact gt3 | exact gt4 | exact gt5 | exact gt6) (by rfl) ?_
        | refine i_loadN hm (by rfl) (by rfl) (by rfl) (by assumption) (by rfl) ?_
        | refine i_load1z hm (by rfl) (by rfl) (by rfl) (by assumption) (by rfl) ?_
        | refine mq_load1 hm (by rfl) (by rfl) (by rfl) (by first | exact gt0 | exact gt1 | exact gt2 | exact gt3 | exact gt4 | exact gt5 | exact gt6) (by rfl) ?_
        | refine iq_load1 hm (by rfl) (by rfl) (by rfl) (by assumption) (by rfl) ?_
        | refine mq_loadAll hm (by rfl) (by rfl) (by rfl) (by first | exact gt0 | exact gt1 | exact gt2 | exact gt3 | exact gt4 | exact gt5 | exact gt6) (by rfl) ?_
        | refine iq_loadN hm (by rfl) (by rfl) (by rfl) (by assumption) (by rfl) ?_
        | refine iq_load1z hm (by rfl) (by rfl) (by rfl) (by assumption) (by rfl) ?_
        | refine m_ret_agg hm (by rfl) (by rfl) (by first | exact gt0 | exact gt1 | exact gt2 | exact gt3 | exact gt4 | exact gt5 | exact gt6) (by rfl) ?_
        | refine m_ret2_agg hm (by rfl) (by rfl) (by rfl) (by first | exact gt0 | exact gt1 | exact gt2 | exact gt3 | exact gt4 | exact gt5 | exact gt6) (by rfl) ?_
        | refine op_move (by rfl) (by rfl) (by rfl) ?_
        | refine op_assign (by rfl) (by rfl) (by rfl) ?_
        | refine op_pick_true (by rfl) (by rfl) (by rfl) (by rfl) ?_
        | refine op_pick_false (by rfl) (by rfl) (by rfl) (by rfl) ?_
        | refine op_lss (by rfl) (by rfl) (by rfl) (by rfl) ?_
        | refine op_gtr (by rfl) (by rfl) (by rfl) (by rfl) ?_
        | refine op_len_str (by rfl) (by rfl) (by rfl) ?_
        | refine op_len_slice (by rfl) (by rfl) (by rfl) ?_
        | refine op_add (by rfl) (by rfl) (by rfl) (by rfl) (by omega) ?_
        | refine op_sub (by rfl) (by rfl) (by rfl) (by rfl) (by omega) ?_
        | refine op_add_u8 (by rfl) (by rfl) (by rfl) (by rfl) (by omega) ?_
        | refine op_sub_u8 (by rfl) (by rfl) (by rfl) (by rfl) (by omega) ?_
        | refine op_slice_str (by rfl) (by rfl) (by rfl) (by rfl) (by rfl) (by omega) ?_
        | refine op_slice_from (by rfl) (by rfl) (by rfl) (by rfl) (by omega) ?_
        | refine op_slice_to (by rfl) (by rfl) (by rfl) (by rfl) (by omega) ?_
        | refine op_fieldAddr (by rfl) (by rfl) (by rfl) ?_
        | refine op_load1 (by rfl) (by rfl) (by rfl) (by assumption) (by rfl) ?_
        | refine wl_skip (by rfl) (by rfl) (by rfl) ?_
        | (refine wl_split_dec (by rfl) (by rfl) (by rfl) (fun _ => ?_) (fun _ => ?_) <;> (try first | contradiction | (exfalso; omega)))
        | (refine wl_split (by rfl) (by rfl) (by rfl) (fun _ => ?_) (fun _ => ?_) <;> (fail_if_success contradiction))
        | refine wl_nil ?_
        | refine at_then_normal ?_
        | refine at_then_ret ?_
        | refine wc_seq ?_
        | refine wc_region ?_
        | refine wc_skip ?_
        | refine wc_ret ?_
        | refine at_ret2 (by rfl) (by rfl) (by rfl) ?_
        | refine wc_quiet (by kernel_rfl) ?_
        | (refine wq_nil ?_; intro _ hkq; replace hm := hm.kept0 hkq; clear hkq)
        | (refine wq_nil_tail ?_; intro _ hkq; replace hm := hm.kept0 hkq; clear hkq)
        | refine wc_cond_true (by rfl) ?_
        | refine wc_cond_false (by rfl) ?_
        | (refine wc_cond_dec (by rfl) (fun _ => ?_) (fun _ => ?_) <;> (try first | contradiction | (exfalso; omega)))
        | refine wc_cond (by rfl) (fun _ => ?_) (fun _ => ?_)
        | refine q_move (by rfl) (by rfl) (by rfl) ?_
        | refine q_assign (by rfl) (by rfl) (by rfl) ?_
        | refine q_pick_true (by rfl) (by rfl) (by rfl) (by rfl) ?_
        | refine q_pick_false (by rfl) (by rfl) (by rfl) (by rfl) ?_
        | refine q_lss (by rfl) (by rfl) (by rfl) (by rfl) ?_
        | refine q_gtr (by rfl) (by rfl) (by rfl) (by rfl) ?_
        | refine q_len_str (by rfl) (by rfl) (by rfl) ?_
        | refine q_len_slice (by rfl) (by rfl) (by rfl) ?_
        | refine q_add (by rfl) (by rfl) (by rfl) (by rfl) (by omega) ?_
        | refine q_sub (by rfl) (by rfl) (by rfl) (by rfl) (by omega) ?_
        | refine q_add_u8 (by rfl) (by rfl) (by rfl) (by rfl) (by omega) ?_
        | refine q_sub_u8 (by rfl) (by rfl) (by rfl) (by rfl) (by omega) ?_
        | refine q_slice_str (by rfl) (by rfl) (by rfl) (by rfl) (by rfl) (by omega) ?_
        | refine q_slice_from (by rfl) (by rfl) (by rfl) (by rfl) (by omega) ?_
        | refine q_slice_to (by rfl) (by rfl) (by rfl) (by rfl) (by omega) ?_
        | refine q_fieldAddr (by rfl) (by rfl) (by rfl) ?_
        | refine q_load1 (by rfl) (by rfl) (by rfl) (by assumption) (by rfl) ?_
        | refine wq_skip (by rfl) (by rfl) (by rfl) ?_
        | (refine wq_split_dec (by rfl) (by rfl) (by rfl) (fun _ => ?_) (fun _ => ?_) <;> (try first | contradiction | (exfalso; omega)))
        | (refine wq_split (by rfl) (by rfl) (by rfl) (fun _ => ?_) (fun _ => ?_) <;> (fail_if_success contradiction)))
      all_goals try (exfalso; omega)
      all_goals exact ⟨I, [], ⟨rfl, rfl⟩, hm.left (H := [])⟩
    · have he : Sp.chErr s f u x = 0 := by rw [Sp.chErr, if_neg h3, if_neg h4]
      have ht : Sp.chTo s f u x = s.take f.toNat ++ x ++ s.drop u.toNat := by rw [Sp.chTo, he]; rfl
      rw [he, ht]
      repeat' (first
        | (refine q_add_str (d := 48) (by rfl) (by rfl) (by rfl) (by rfl) (by simp only [List.length_append, List.length_take]; omega) ?_)
        | (refine q_add_str (d := 53) (by rfl) (by rfl) (by rfl) (by rfl) (by simp only [List.length_append, List.length_take, List.length_drop]; omega) ?_)
        | (refine m_box (d := 3) hm (by rfl) (by rfl) (by rfl) (by rfl) ?_; clear hm; intro b3 _ hm)
        | refine m_load1 hm (by rfl) (by rfl) (by rfl) (by first | exact gt0 | exact gt1 | exact gt2 | exact gt3 | exact gt4 | exact gt5 | exact gt6) (by rfl) ?_
        | refine i_load1 hm (by rfl) (by rfl) (by rfl) (by assumption) (by rfl) ?_
        | refine m_loadAll hm (by rfl) (by rfl) (by rfl) (by first | exact gt0 | exact gt1 | exact gt2 | exact gt3 | exact gt4 | exact gt5 | exact gt6) (by rfl) ?_
        | refine i_loadN hm (by rfl) (by rfl) (by rfl) (by assumption) (by rfl) ?_
        | refine i_load1z hm (by rfl) (by rfl) (by rfl) (by assumption) (by rfl) ?_
        | refine mq_load1 hm (by rfl) (by rfl) (by rfl) (by first | exact gt0 | exact gt1 | exact gt2 | exact gt3 | exact gt4 | exact gt5 | exact gt6) (by rfl) ?_
        | refine iq_load1 hm (by rfl) (by rfl) (by rfl) (by assumption) (by rfl) ?_
        | refine mq_loadAll hm (by rfl) (by rfl) (by rfl) (by first | exact gt0 | exact gt1 | exact gt2 | exact gt3 | exact gt4 | exact gt5 | exact gt6) (by rfl) ?_
        | refine iq_loadN hm (by rfl) (by rfl) (by rfl) (by assumption) (by rfl) ?_
        | refine iq_load1z hm (by rfl) (by rfl) (by rfl) (by assumption) (by rfl) ?_
        | refine m_ret_agg hm (by rfl) (by rfl) (by first | exact gt0 | exact gt1 | exact gt2 | exact gt3 | exact gt4 | exact gt5 | exact gt6) (by rfl) ?_
        | refine m_ret2_agg hm (by rfl) (by rfl) (by rfl) (by first | exact gt0 | exact gt1 | exact gt2 | exact gt3 | exact gt4 | exact gt5 | exact gt6) (by rfl) ?_
        | refine op_move (by rfl) (by rfl) (by rfl) ?_
        | refine op_assign (by rfl) (by rfl) (by rfl) ?_
        | refine op_pick_true (by rfl) (by rfl) (by rfl) (by rfl) ?_
        | refine op_pick_false (by rfl) (by rfl) (by rfl) (by rfl) ?_
        | refine op_lss (by rfl) (by rfl) (by rfl) (by rfl) ?_
        | refine op_gtr (by rfl) (by rfl) (by rfl) (by rfl) ?_
        | refine op_len_str (by rfl) (by rfl) (by rfl) ?_
        | refine op_len_slice (by rfl) (by rfl) (by rfl) ?_
        | refine op_add (by rfl) (by rfl) (by rfl) (by rfl) (by omega) ?_
        | refine op_sub (by rfl) (by rfl) (by rfl) (by rfl) (by omega) ?_
        | refine op_add_u8 (by rfl) (by rfl) (by rfl) (by rfl) (by omega) ?_
        | refine op_sub_u8 (by rfl) (by rfl) (by rfl) (by rfl) (by omega) ?_
        | refine op_slice_str (by rfl) (by rfl) (by rfl) (by rfl) (by rfl) (by omega) ?_
        | refine op_slice_from (by rfl) (by rfl) (by rfl) (by rfl) (by omega) ?_
        | refine op_slice_to (by rfl) (by rfl) (by rfl) (by rfl) (by omega) ?_
        | refine op_fieldAddr (by rfl) (by rfl) (by rfl) ?_
        | refine op_load1 (by rfl) (by rfl) (by rfl) (by assumption) (by rfl) ?_
        | refine wl_skip (by rfl) (by rfl) (by rfl) ?_
        | (refine wl_split_dec (by rfl) (by rfl) (by rfl) (fun _ => ?_) (fun _ => ?_) <;> (try first | contradiction | (exfalso; omega)))
        | (refine wl_split (by rfl) (by rfl) (by rfl) (fun _ => ?_) (fun _ => ?_) <;> (fail_if_success contradiction))
        | refine wl_nil ?_
        | refine at_then_normal ?_
        | refine at_then_ret ?_
        | refine wc_seq ?_
        | refine wc_region ?_
        | refine wc_skip ?_
        | refine wc_ret ?_
        | refine at_ret2 (by rfl) (by rfl) (by rfl) ?_
        | refine wc_quiet (by kernel_rfl) ?_
        | (refine wq_nil ?_; intro _ hkq; replace hm := hm.kept0 hkq; clear hkq)
        | (refine wq_nil_tail ?_; intro _ hkq; replace hm := hm.kept0 hkq; clear hkq)
        | refine wc_cond_true (by rfl) ?_
        | refine wc_cond_false (by rfl) ?_
        | (refine wc_cond_dec (by rfl) (fun _ => ?_) (fun _ => ?_) <;> (try first | contradiction | (exfalso; omega)))
        | refine wc_cond (by rfl) (fun _ => ?_) (fun _ => ?_)
        | refine q_move (by rfl) (by rfl) (by rfl) ?_
        | refine q_assign (by rfl) (by rfl) (by rfl) ?_
        | refine q_pick_true (by rfl) (by rfl) (by rfl) (by rfl) ?_
        | refine q_pick_false (by rfl) (by rfl) (by rfl) (by rfl) ?_
        | refine q_lss (by rfl) (by rfl) (by rfl) (by rfl) ?_
        | refine q_gtr (by rfl) (by rfl) (by rfl) (by rfl) ?_
        | refine q_len_str (by rfl) (by rfl) (by rfl) ?_
        | refine q_len_slice (by rfl) (by rfl) (by rfl) ?_
        | refine q_add (by rfl) (by rfl) (by rfl) (by rfl) (by omega) ?_
        | refine q_sub (by rfl) (by rfl) (by rfl) (by rfl) (by omega) ?_
        | refine q_add_u8 (by rfl) (by rfl) (by rfl) (by rfl) (by omega) ?_
        | refine q_sub_u8 (by rfl) (by rfl) (by rfl) (by rfl) (by omega) ?_
        | refine q_slice_str (by rfl) (by rfl) (by rfl) (by rfl) (by rfl) (by omega) ?_
        | refine q_slice_from (by rfl) (by rfl) (by rfl) (by rfl) (by omega) ?_
        | refine q_slice_to (by rfl) (by rfl) (by rfl) (by rfl) (by omega) ?_
        | refine q_fieldAddr (by rfl) (by rfl) (by rfl) ?_
        | refine q_load1 (by rfl) (by rfl) (by rfl) (by assumption) (by rfl) ?_
        | refine wq_skip (by rfl) (by rfl) (by rfl) ?_
        | (refine wq_split_dec (by rfl) (by rfl) (by rfl) (fun _ => ?_) (fun _ => ?_) <;> (try first | contradiction | (exfalso; omega)))
        | (refine wq_split (by rfl) (by rfl) (by rfl) (fun _ => ?_) (fun _ => ?_) <;> (fail_if_success contradiction)))
      all_goals try (exfalso; omega)
      all_goals exact ⟨I, [], ⟨rfl, rfl⟩, hm.left (H := [])⟩
end Go.Proofs.YtjfkjpbkmpofkaaGreatDoor
end
