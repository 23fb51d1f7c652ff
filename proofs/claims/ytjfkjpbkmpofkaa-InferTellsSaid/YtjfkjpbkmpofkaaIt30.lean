/-
  THE STATEMENT of the law InferTells: it returns true, whatever it is given. By the prover.
-/
import Derived.Test.YtjfkjpbkmpofkaaIt29
section
namespace Go.Proofs.Ytjfkjpbkmpofkaa
open Go.Fw
structure FiX where
  k : Nat
  I : Imm
  a : Option Addr
  cp : Nat
  xs : List Value
set_option maxHeartbeats 8000000 in
theorem c_file (s : List UInt8) (I : Imm) (hs : s.length ≤ 9223372036854775807) : CalM Try.prog 5 #[str s] I [] (ToFile (Sp.fileErr s) (Sp.fileItems s)) := by
  refine CalM.of fun w E hm => enter (N := 51) Try.func5 rfl [(0, str s)] args1 rfl ?_
  by_cases hl : s.length > 4000
  · have he : Sp.fileErr s = 4 := by rw [Sp.fileErr, if_pos hl]
    have hi : Sp.fileItems s = [] := by rw [Sp.fileItems, he]; rfl
    rw [he, hi]
    repeat' (first
    | (refine m_allocS (d:=2) hm (k:=?_); clear hm; intro b2 _ hm)
    | (refine m_storeAll hm (k:=?_); clear hm; intro _ hm; try simp only [setn] at hm)
    | refine m_ret2_agg hm (h:=?_)
    | refine op_move (k:=?_)
    | refine op_assign (k:=?_)
    | refine op_gtr (k:=?_)
    | refine op_len_str (k:=?_)
    | refine op_struct (k:=?_)
    | refine wl_nil ?_
    | refine at_then_normal ?_
    | refine at_then_ret ?_
    | refine wc_seq ?_
    | refine wc_region ?_
    | refine wc_ret ?_
    | (refine wc_cond_dec (ht:=fun _ => ?_) (hf:=fun _ => ?_)<;> (try first | contradiction | (exfalso; omega))))
    all_goals try (exfalso; omega)
    exact ⟨_, _, ⟨none, 0, [], rfl, rowI_nil _ _ _ _ _, rfl, rfl⟩, hm.tl⟩
  have hts := Sp.cuts_sub s (Sp.tokens s) []
  by_cases hc : (Sp.cuts s).length > 30
  · have he : Sp.fileErr s = 5 := by rw [Sp.fileErr, if_neg hl, if_pos hc]
    have hi : Sp.fileItems s = [] := by rw [Sp.fileItems, he]; rfl
    rw [he, hi]
    repeat' (first
    | (refine op_call (hc:=by exact c_rcuts s (by omega) _) (k:=?_); rintro tv wt ⟨hto, hkt⟩; obtain ⟨ta, tc, rfl⟩ := own_val hto; replace hm := hm.kept0 hkt)
    | (refine m_allocS (d:=2) hm (k:=?_); clear hm; intro b2 _ hm)
    | (refine m_storeAll hm (k:=?_); clear hm; intro _ hm; try simp only [setn] at hm)
    | refine m_ret2_agg hm (h:=?_)
    | refine op_move (k:=?_)
    | refine op_assign (k:=?_)
    | refine op_gtr (k:=?_)
    | refine op_len_str (k:=?_)
    | refine op_len_slice (k:=?_)
    | refine op_struct (k:=?_)
    | refine wl_nil ?_
    | refine at_then_normal ?_
    | refine at_then_ret ?_
    | refine wc_seq ?_
    | refine wc_region ?_
    | refine wc_skip ?_
    | refine wc_ret ?_
    | (refine wc_cond_dec (ht:=fun _ => ?_) (hf:=fun _ => ?_)<;> (try first | contradiction | (exfalso; omega))))
    all_goals try (exfalso; omega)
    exact ⟨_, _, ⟨none, 0, [], rfl, rowI_nil _ _ _ _ _, rfl, rfl⟩, hm.tl⟩
  have he : Sp.fileErr s = 0 := by rw [Sp.fileErr, if_neg hl, if_neg hc]
  have hi : Sp.fileItems s = Sp.items s (Sp.cuts s) := by rw [Sp.fileItems, he]; rfl
  rw [he, hi]
  clear he hi hts
  repeat' (first
  | (refine op_call (hc:=by exact c_rcuts s (by omega) _) (k:=?_); rintro tv wt ⟨hto, hkt⟩; obtain ⟨ta, tc, rfl⟩ := own_val hto; obtain ⟨I1, hle1, hm1, hrow⟩ := hm.take hkt hto; clear hm; have hm := hm1; clear hm1)
  | (refine m_allocS (d:=2) hm (k:=?_); clear hm; intro b2 _ hm)
  | (refine m_allocS (d:=5) hm (k:=?_); clear hm; intro b5 _ hm)
  | refine op_move (k:=?_)
  | refine op_assign (k:=?_)
  | refine op_gtr (k:=?_)
  | refine op_len_str (k:=?_)
  | refine op_len_slice (k:=?_)
  | refine wl_nil ?_
  | refine at_then_normal ?_
  | refine wc_seq ?_
  | refine wc_region ?_
  | refine wc_block ?_
  | refine wc_skip ?_
  | (refine wc_cond_dec (ht:=fun _ => ?_) (hf:=fun _ => ?_)<;> (try first | contradiction | (exfalso; omega))))
  all_goals try (exfalso; omega)
  obtain ⟨n, hn⟩ : ∃ n, n = (Sp.cuts s).length := ⟨_, rfl⟩
  have hln : (Sp.items s (Sp.cuts s)).length = n := by simp [Sp.items, hn]
  have hcat : ∀ k, k < n → (Sp.cuts s).getD k 0 < (Sp.cuts s).getD (k + 1) s.length ∧ (Sp.cuts s).getD (k + 1) s.length ≤ s.length := fun k hk => Sp.cuts_at s (by omega)
  have hzz : ∀ k, k < n → ∀ d, (Sp.cuts s)[k]? = some ((Sp.cuts s).getD k d) := fun k hk d => by rw [List.getD_eq_getElem?_getD, List.getElem?_eq_getElem (by omega)]; rfl
  have hend : ∀ k, n ≤ k → ∀ d, (Sp.cuts s).getD k d = d := fun k hk d => by rw [List.getD_eq_getElem?_getD, List.getElem?_eq_none (by omega)]; rfl
  have hits0 : Sp.items s (Sp.cuts s) = (List.range n).map (Sp.itemAt s (Sp.cuts s)) := by rw [Sp.items, hn]
  rw [← hn] at hrow hc ⊢
  clear hn hto hkt
  generalize Sp.cuts s = cs at hrow hln hcat hzz hend hits0 ⊢
  have hm := hm.nil 38 10
  refine wc_loop (fun x : FiX => [(0, str s), (2, ptr b2), (4, .slice ta n tc), (5, ptr b5), (19, .slice ta n tc), (20, nt n), (21, nt x.k)])
    (fun x w' => Mem E x.I [itRow x.k x.a x.cp x.xs, .cell b5 [.slice x.a x.k x.cp] 24, .cell b2 [.slice none 0 0] 24] w' ∧ x.k ≤ n ∧ Le I1 x.I ∧ ItsAt x.I ((List.range x.k).map (Sp.itemAt s cs)) x.xs)
    (fun x => n - x.k) ⟨0, I1, none, 0, []⟩ (by exact ⟨rfl, rfl, rfl, rfl, rfl, rfl, rfl, trivial⟩) ⟨hm, Nat.zero_le _, Le.refl _, rfl⟩ ?_
  clear hm
  rintro ⟨k, I2, a, cp, xs⟩ w2 ⟨hm, hk, hle2, hits⟩
  dsimp only at hm hk hle2 hits ⊢
  have hrow2 := hrow.le hle2
  by_cases hlt : k < n
  · have hca := hcat k hlt
    have hz : cs[((k : Nat) : Int).toNat]? = some (cs.getD k 0) := by
      rw [Int.toNat_natCast]; exact hzz k hlt 0
    have hpl : (Sp.piece s cs k).length ≤ 1048576 := by
      rw [Sp.piece, List.length_take, List.length_drop]; omega
    have hit := c_item (Sp.piece s cs k) ((cs.getD k 0 : Nat) : Int) I2 hpl
    rw [show Sp.item (Sp.piece s cs k) ((cs.getD k 0 : Nat) : Int) = Sp.itemAt s cs k from rfl] at hit
    clear hpl
    by_cases hlt2 : k + 1 < n
    · have hz2 : cs[(((k : Nat) : Int) + 1).toNat]? = some (cs.getD (k + 1) s.length) := by
        rw [show (((k : Nat) : Int) + 1).toNat = k + 1 by omega]; exact hzz (k + 1) hlt2 _
      rw [Sp.piece] at hit
      generalize cs.getD (k + 1) s.length = e2 at hca hz2 hit
      generalize cs.getD k 0 = e1 at hca hz hit
      repeat' (first
      | (refine wc_semi 7 10 (itRow k a cp xs).blk.toList (h:=?_); intro wd hkd; replace hm := hm.kept0 hkd; clear hkd; have hC := Kept.refl (itRow k a cp xs).blk.toList wd)
      | (refine i_indexFlat (d:=24) (enc:=encInt) (z:=e1) (hr:=hrow2) (he:=fun _ => rfl) (hz:=hz) (k:=?_); intro bt ot hpt)
      | (refine i_indexFlat (d:=36) (enc:=encInt) (z:=e2) (hr:=hrow2) (he:=fun _ => rfl) (hz:=hz2) (k:=?_); intro bt2 ot2 hpt2)
      | (refine ms_call (d := 45) hm hC (by rfl) (by rfl) (by rfl) (hit) ?_; clear hm hC; rintro _ I3 _ _ ⟨_, rfl, ⟨ap, cp1, as_, cs1, ab, cb, ad, cd, xb, rfl, r1, r2, r3, r4, r5⟩, rfl⟩ hle hm hC; have hleI3 := hle; try simp only [setn] at hm)
      | refine mv_load1 hm (k:=?_)
      | (refine ms_push (d:=47) hm hC (k:=?_); clear hm hC; intro a47 cp47 _ _ hm; try simp only [setn] at hm)
      | refine i_load1z hm (k:=?_)
      | (refine m_store1 hm (k:=?_); clear hm; intro _ hm; try simp only [setn] at hm)
      | refine op_move (k:=?_)
      | refine op_assign (k:=?_)
      | refine op_lss (k:=?_)
      | refine op_len_str (k:=?_)
      | refine op_len_slice (k:=?_)
      | refine op_add (k:=?_)
      | refine op_fieldAddr (k:=?_)
      | refine wl_nil ?_
      | refine at_then_normal ?_
      | refine at_block_normal ?_
      | refine wc_seq ?_
      | refine wc_region ?_
      | refine wc_block ?_
      | refine wc_skip ?_
      | (refine wc_cond_dec (ht:=fun _ => ?_) (hf:=fun _ => ?_)<;> (try first | contradiction | (exfalso; omega)))
      | refine v_move (k:=?_)
      | refine v_slice_str (k:=?_)
      | refine v_fieldAddr (k:=?_)
      | refine wv_nil ?_)
      all_goals try (exfalso; omega)
      refine at_round (⟨k + 1, I3, _, _, _⟩ : FiX) (by exact ⟨rfl, rfl, rfl, rfl, rfl, rfl, rfl, trivial⟩) ⟨hm, by dsimp only; omega, hle2.trans hleI3, ?_⟩ (by dsimp only; omega)
      dsimp only
      rw [Sp.items_snoc]
      exact (hits.le hleI3).snoc ⟨ap, cp1, as_, cs1, ab, cb, ad, cd, xb, rfl, r1, r2, r3, r4, r5⟩
    · rw [Sp.piece, show cs.getD (k + 1) s.length = s.length from hend (k + 1) (by omega) _] at hit
      generalize cs.getD (k + 1) s.length = e2 at hca
      generalize cs.getD k 0 = e1 at hca hz hit
      repeat' (first
      | (refine wc_semi 7 10 (itRow k a cp xs).blk.toList (h:=?_); intro wd hkd; replace hm := hm.kept0 hkd; clear hkd; have hC := Kept.refl (itRow k a cp xs).blk.toList wd)
      | (refine i_indexFlat (d:=24) (enc:=encInt) (z:=e1) (hr:=hrow2) (he:=fun _ => rfl) (hz:=hz) (k:=?_); intro bt ot hpt)
      | (refine ms_call (d := 45) hm hC (by rfl) (by rfl) (by rfl) (hit) ?_; clear hm hC; rintro _ I3 _ _ ⟨_, rfl, ⟨ap, cp1, as_, cs1, ab, cb, ad, cd, xb, rfl, r1, r2, r3, r4, r5⟩, rfl⟩ hle hm hC; have hleI3 := hle; try simp only [setn] at hm)
      | refine mv_load1 hm (k:=?_)
      | (refine ms_push (d:=47) hm hC (k:=?_); clear hm hC; intro a47 cp47 _ _ hm; try simp only [setn] at hm)
      | refine i_load1z hm (k:=?_)
      | (refine m_store1 hm (k:=?_); clear hm; intro _ hm; try simp only [setn] at hm)
      | refine op_move (k:=?_)
      | refine op_assign (k:=?_)
      | refine op_lss (k:=?_)
      | refine op_len_str (k:=?_)
      | refine op_len_slice (k:=?_)
      | refine op_add (k:=?_)
      | refine op_fieldAddr (k:=?_)
      | refine wl_nil ?_
      | refine at_then_normal ?_
      | refine at_block_normal ?_
      | refine wc_seq ?_
      | refine wc_region ?_
      | refine wc_block ?_
      | refine wc_skip ?_
      | (refine wc_cond_dec (ht:=fun _ => ?_) (hf:=fun _ => ?_)<;> (try first | contradiction | (exfalso; omega)))
      | refine v_move (k:=?_)
      | refine v_slice_str (k:=?_)
      | refine v_fieldAddr (k:=?_)
      | refine wv_nil ?_)
      all_goals try (exfalso; omega)
      refine at_round (⟨k + 1, I3, _, _, _⟩ : FiX) (by exact ⟨rfl, rfl, rfl, rfl, rfl, rfl, rfl, trivial⟩) ⟨hm, by dsimp only; omega, hle2.trans hleI3, ?_⟩ (by dsimp only; omega)
      dsimp only
      rw [Sp.items_snoc]
      exact (hits.le hleI3).snoc ⟨ap, cp1, as_, cs1, ab, cb, ad, cd, xb, rfl, r1, r2, r3, r4, r5⟩
  · obtain rfl : k = n := by omega
    repeat' (first
    | refine m_loadAll hm (k:=?_)
    | (refine m_storeAll hm (k:=?_); clear hm; intro _ hm; try simp only [setn] at hm)
    | refine m_ret2_agg hm (h:=?_)
    | refine op_assign (k:=?_)
    | refine op_lss (k:=?_)
    | refine wl_nil ?_
    | refine at_then_normal ?_
    | refine at_then_exit ?_
    | refine at_block_exit ?_
    | refine wc_seq ?_
    | refine wc_region ?_
    | refine wc_exit ?_
    | refine wc_ret ?_
    | (refine wc_cond_dec (ht:=fun _ => ?_) (hf:=fun _ => ?_)<;> (try first | contradiction | (exfalso; omega))))
    all_goals try (exfalso; omega)
    obtain ⟨I3, hle3, hm3, hrow3⟩ := (hm.perm pm1_0).freeze
    refine ⟨I3, [], ⟨a, cp, xs, ?_, ?_, by rw [hits0]; exact hits.le hle3, rfl⟩, hm3.left (H := [])⟩
    · rw [hln]; rfl
    · rw [hln]; exact hrow3
end Go.Proofs.Ytjfkjpbkmpofkaa
end
section
namespace Go.Sp
mutual
theorem fillS_small (o : Lab) : ∀ (x : Stm), x.small → (fillS o x).small
  | .mk k nm a lb op e thn els f t, h => by
    rw [Stm.small] at h
    rw [fillS, Stm.small, fillL_len, fillL_len]
    exact ⟨h.1, h.2.1, fillL_small o thn h.2.2.1, h.2.2.2.1, fillL_small o els h.2.2.2.2⟩
theorem fillL_small (o : Lab) : ∀ (l : List Stm), stmsSmall l → stmsSmall (fillL o l)
  | [], h => by rw [fillL]; exact h
  | x :: l, h => by
    rw [stmsSmall] at h
    rw [fillL, stmsSmall]
    exact ⟨fillS_small o x h.1, fillL_small o l h.2⟩
end
theorem itI_small {o : Lab} {it : Itm} (h : it.small) : (itI o it).small := by
  refine { h with body := ?_, stms := ?_ }
  · show (fillL o it.body).length ≤ _
    rw [fillL_len]; exact h.body
  · exact fillL_small o _ h.stms
theorem labs_small {its : List Itm} : ∀ {l r : List Itm}, AllTwo (Labd its) l r → (∀ x ∈ l, x.small) → ∀ x ∈ r, x.small
  | _, _, .nil, _, x, hx => by cases hx
  | _, _, .cons (a := a) (b := b) h t, hs, x, hx => by
    rcases List.mem_cons.1 hx with rfl | hx
    · have ha := hs a List.mem_cons_self
      by_cases k2 : a.kind = 2
      · obtain ⟨o, _, rfl⟩ := h.1 k2
        exact itI_small ha
      · rw [h.2 k2]; exact ha
    · exact labs_small t (fun y hy => hs y (List.mem_cons_of_mem _ hy)) x hx
theorem item_itJ (src : List UInt8) (at_ : Int) (h : src.length ≤ 1048576) : ItJ (item src at_) ∧ (item src at_).label < 256 ∧ ∀ p ∈ (item src at_).params, p.label < 256 := by
  have hA := item_all (src := src) (p := twoP) (q := labS) (r := fun p => p.label < 256) (t := fun _ => True) at_ ⟨fun h => (by cases h), fun _ h => (by cases h), fun _ _ _ _ h => (by cases h), fun _ _ h => (by cases h), fun _ _ _ _ _ h => (by cases h), fun _ _ _ _ _ _ _ _ _ _ _ _ _ _ _ _ _ => rfl⟩
    ⟨by show 0 < 256; omega, fun _ _ lb _ _ h => Nat.lt_succ_of_le h, fun _ _ _ => (by show 0 < 256; omega), fun _ _ _ _ => (by show 0 < 256; omega), fun _ _ _ => (by show 0 < 256; omega)⟩ (fun _ lb h => Nat.lt_succ_of_le h) (fun _ => trivial)
  have hc := item_cnt src at_
  have hl := item_lets src at_
  exact ⟨⟨⟨item_small src at_ h, stmsAll_mono (fun _ _ _ _ _ _ _ => trivial) (fun _ _ _ _ _ _ _ h => h) _ hA.body, by omega, hl.1, hl.2⟩, hA.body⟩, Nat.lt_succ_of_le hA.label, hA.params⟩
theorem file_itJ (s : List UInt8) : (∀ x ∈ fileItems s, ItJ x) ∧ itLab (fileItems s) ∧ (fileItems s).length ≤ 30 := by
  by_cases h0 : fileErr s = 0
  · have hl : s.length ≤ 4000 ∧ (cuts s).length ≤ 30 := by
      rw [fileErr] at h0
      split at h0
      · cases h0
      · split at h0
        · cases h0
        · omega
    have key : ∀ x ∈ fileItems s, ItJ x ∧ x.label < 256 ∧ ∀ p ∈ x.params, p.label < 256 := fun x hx => by
      rw [fileItems, if_pos h0, items] at hx
      obtain ⟨j, _, rfl⟩ := List.mem_map.1 hx
      exact item_itJ _ _ (by rw [piece, List.length_take, List.length_drop]; omega)
    exact ⟨fun x hx => (key x hx).1, fun x hx => (key x hx).2, by rw [fileItems, if_pos h0]; simp [items, hl.2]⟩
  · rw [fileItems, if_neg h0]
    exact ⟨fun x hx => (by cases hx), fun x hx => (by cases hx), Nat.zero_le _⟩
end Go.Sp
namespace Go.Proofs.Ytjfkjpbkmpofkaa
open Go.Fw
set_option maxHeartbeats 16000000 in
theorem sp_itells0 (s : List UInt8) (hs : s.length ≤ 9223372036854775807) (I : Imm) :
    CalM Try.prog 3 #[str s] I [] (fun v _ H' => v = .bool true ∧ H' = []) := by
  refine CalM.of fun w E hm => enter (N := 19) Try.func3 rfl [(0, str s)] args1 rfl ?_
  have hF := c_file s I hs
  obtain ⟨g1, g2, few1⟩ := Sp.file_itJ s
  generalize Sp.fileErr s = er at hF
  generalize Sp.fileItems s = its at hF g1 g2 few1
  by_cases h0 : er ≠ 0
  · have hd : decide ((er : Int) ≠ 0) = true := decide_eq_true (by omega)
    repeat' (first
    | (refine m_call (d:=7) hm (hc:=hF) (k:=?_); clear hm; rintro _ I2 _ _ ⟨a, cp, xs, rfl, hrow, hits, rfl⟩ hle hm; have hleI2 := hle; try simp only [setn] at hm)
    | (refine wc_semi_memL (id:=2) (hm.perm pm0) [0,1,2,3,5] [4,6,7] 8 (h:=?_); clear hm; intro wd hR hm)
    | (refine v_neq (d:=11) (k:=?_); rw [hd])
    | refine mw_loadAll hR (k:=?_)
    | refine mw_load1 hR (k:=?_)
    | refine iw_load1 hR (k:=?_)
    | refine mt_struct hm (k:=?_)
    | refine iw_loadN hR (k:=?_)
    | (refine ws_nil ?_; replace hm := hR.back hm; clear hR; try simp only [setn] at hm)
    | (refine m_varS (d:=3) hm (k:=?_); clear hm; intro b3 _ hm)
    | (refine m_var1 (d:=3) hm (k:=?_); clear hm; intro b3 _ hm)
    | refine m_load1 hm (k:=?_)
    | refine i_load1 hm (k:=?_)
    | refine m_loadAll hm (k:=?_)
    | refine i_loadN hm (k:=?_)
    | refine i_load1z hm (k:=?_)
    | refine mq_load1 hm (k:=?_)
    | refine iq_load1 hm (k:=?_)
    | refine mq_loadAll hm (k:=?_)
    | refine iq_loadN hm (k:=?_)
    | refine iq_load1z hm (k:=?_)
    | (refine m_storeAll hm (k:=?_); clear hm; intro _ hm; try simp only [setn] at hm)
    | (refine m_store1 hm (k:=?_); clear hm; intro _ hm; try simp only [setn] at hm)
    | (refine m_storeN hm (k:=?_); clear hm; intro _ hm; try simp only [setn] at hm)
    | refine m_ret_agg hm (h:=?_)
    | refine m_ret2_agg hm (h:=?_)
    | refine s_move hm.kept (by rfl) (by rfl) (by rfl) ?_
    | refine s_assign hm.kept (by rfl) (by rfl) (by rfl) ?_
    | refine s_pick_true hm.kept (by rfl) (by rfl) (by rfl) (by rfl) ?_
    | refine s_pick_false hm.kept (by rfl) (by rfl) (by rfl) (by rfl) ?_
    | refine s_neq hm.kept (by rfl) (by rfl) (by rfl) (by rfl) ?_
    | refine s_neq_str hm.kept (by rfl) (by rfl) (by rfl) (by rfl) ?_
    | refine s_neq_bool hm.kept (by rfl) (by rfl) (by rfl) (by rfl) ?_
    | refine s_neq_flat hm.kept (by rfl) (by rfl) (by rfl) (by rfl) (by rfl) (by rfl) ?_
    | refine s_extract hm.kept (by rfl) (by rfl) (by rfl) (by rfl) ?_
    | refine ws_skipC hm.kept (by rfl) (by rfl) (by rfl) ?_
    | (refine ws_split_dec (by rfl) (by rfl) (by rfl) (fun _ => ?_) (fun _ => ?_) <;> (try first | contradiction | (exfalso; omega)))
    | (refine ws_split (by rfl) (by rfl) (by rfl) (fun _ => ?_) (fun _ => ?_) <;> (fail_if_success contradiction))
    | refine it_loadN hm (by rfl) (by rfl) (by rfl) (by assumption) (by rfl) ?_
    | refine it_loadO hm (by rfl) (by rfl) (by rfl) (by assumption) (by rfl) ?_
    | refine op_move (k:=?_)
    | refine op_assign (k:=?_)
    | refine op_pick_true (k:=?_)
    | refine op_pick_false (k:=?_)
    | refine op_neq (k:=?_)
    | refine op_neq_str (k:=?_)
    | refine op_neq_bool (k:=?_)
    | refine op_neq_flat (k:=?_)
    | refine op_extract (k:=?_)
    | refine op_load1 (k:=?_)
    | refine wl_skip (k:=?_)
    | (refine wl_split_dec (h1:=fun _ => ?_) (h0:=fun _ => ?_)<;> (try first | contradiction | (exfalso; omega)))
    | (refine wl_split (h1:=fun _ => ?_) (h0:=fun _ => ?_)<;> (fail_if_success contradiction))
    | refine wl_nil ?_
    | refine at_then_normal ?_
    | refine at_then_ret ?_
    | refine wc_seq ?_
    | refine wc_region ?_
    | refine wc_skip ?_
    | refine wc_ret ?_
    | refine at_ret1 (h:=?_)
    | refine wc_quiet (h:=?_)
    | (refine wq_nil ?_; intro _ hkq; replace hm := hm.kept0 hkq; clear hkq)
    | (refine wq_nil_tail ?_; intro _ hkq; replace hm := hm.kept0 hkq; clear hkq)
    | refine q_move (k:=?_)
    | refine q_assign (k:=?_)
    | refine q_pick_true (k:=?_)
    | refine q_pick_false (k:=?_)
    | refine q_neq (k:=?_)
    | refine q_neq_str (k:=?_)
    | refine q_neq_bool (k:=?_)
    | refine q_neq_flat (k:=?_)
    | refine q_extract (k:=?_)
    | refine q_load1 (k:=?_)
    | refine wq_skip (k:=?_)
    | (refine wq_split_dec (h1:=fun _ => ?_) (h0:=fun _ => ?_)<;> (try first | contradiction | (exfalso; omega)))
    | (refine wq_split (h1:=fun _ => ?_) (h0:=fun _ => ?_)<;> (fail_if_success contradiction))
    | refine v_move (k:=?_)
    | refine v_assign (k:=?_)
    | refine v_pick_true (k:=?_)
    | refine v_pick_false (k:=?_)
    | refine v_neq (k:=?_)
    | refine v_neq_str (k:=?_)
    | refine v_neq_bool (k:=?_)
    | refine v_neq_flat (k:=?_)
    | refine v_extract (k:=?_)
    | refine v_load1 (by rfl) (by rfl) (by rfl) (by assumption) (by rfl) ?_
    | refine wv_skip (k:=?_)
    | (refine wv_split (h1:=fun _ => ?_) (h0:=fun _ => ?_)<;> (fail_if_success contradiction))
    | refine wv_nil ?_
    | refine ws_nil ?_)
    all_goals try (exfalso; first | omega | contradiction)
    all_goals exact ⟨I2, [], ⟨rfl, rfl⟩, hm.left (H := [])⟩
  obtain rfl : er = 0 := by omega
  repeat' (first
  | (refine m_call (d:=7) hm (hc:=hF) (k:=?_); clear hm; rintro _ I2 _ _ ⟨a, cp, xs, rfl, hrow, hits, rfl⟩ hle hm; have hleI2 := hle; try simp only [setn] at hm)
  | refine wc_hold 2 ?_
  | (refine m_varS (d:=3) hm (k:=?_); clear hm; intro b3 _ hm)
  | (refine m_var1 (d:=3) hm (k:=?_); clear hm; intro b3 _ hm)
  | refine m_load1 hm (k:=?_)
  | refine i_load1 hm (k:=?_)
  | refine m_loadAll hm (k:=?_)
  | refine i_loadN hm (k:=?_)
  | refine i_load1z hm (k:=?_)
  | refine mq_load1 hm (k:=?_)
  | refine iq_load1 hm (k:=?_)
  | refine mq_loadAll hm (k:=?_)
  | refine iq_loadN hm (k:=?_)
  | refine iq_load1z hm (k:=?_)
  | (refine m_storeAll hm (k:=?_); clear hm; intro _ hm; try simp only [setn] at hm)
  | (refine m_store1 hm (k:=?_); clear hm; intro _ hm; try simp only [setn] at hm)
  | (refine m_storeN hm (k:=?_); clear hm; intro _ hm; try simp only [setn] at hm)
  | refine m_ret_agg hm (h:=?_)
  | refine m_ret2_agg hm (h:=?_)
  | refine op_move (k:=?_)
  | refine op_assign (k:=?_)
  | refine op_pick_true (k:=?_)
  | refine op_pick_false (k:=?_)
  | refine op_neq (k:=?_)
  | refine op_neq_str (k:=?_)
  | refine op_neq_bool (k:=?_)
  | refine op_neq_flat (k:=?_)
  | refine op_extract (k:=?_)
  | refine op_load1 (k:=?_)
  | refine wl_skip (k:=?_)
  | (refine wl_split_dec (h1:=fun _ => ?_) (h0:=fun _ => ?_)<;> (try first | contradiction | (exfalso; omega)))
  | (refine wl_split (h1:=fun _ => ?_) (h0:=fun _ => ?_)<;> (fail_if_success contradiction))
  | refine wl_nil ?_
  | refine at_then_normal ?_
  | refine at_then_ret ?_
  | refine wc_seq ?_
  | refine wc_region ?_
  | refine wc_skip ?_
  | refine wc_ret ?_
  | refine at_ret1 (h:=?_)
  | refine wc_quiet (h:=?_)
  | (refine wq_nil ?_; intro _ hkq; replace hm := hm.kept0 hkq; clear hkq)
  | (refine wq_nil_tail ?_; intro _ hkq; replace hm := hm.kept0 hkq; clear hkq)
  | refine q_move (k:=?_)
  | refine q_assign (k:=?_)
  | refine q_pick_true (k:=?_)
  | refine q_pick_false (k:=?_)
  | refine q_neq (k:=?_)
  | refine q_neq_str (k:=?_)
  | refine q_neq_bool (k:=?_)
  | refine q_neq_flat (k:=?_)
  | refine q_extract (k:=?_)
  | refine q_load1 (k:=?_)
  | refine wq_skip (k:=?_)
  | (refine wq_split_dec (h1:=fun _ => ?_) (h0:=fun _ => ?_)<;> (try first | contradiction | (exfalso; omega)))
  | (refine wq_split (h1:=fun _ => ?_) (h0:=fun _ => ?_)<;> (fail_if_success contradiction)))
  all_goals try (exfalso; first | omega | contradiction)
  have q1 : FE I2 its a cp xs := fe_of hrow hits (by omega)
  obtain ⟨I3, hle3, hm3, hpf⟩ := hm.freezeO
  clear hm
  have hm := hm3
  clear hm3
  have q3 := q1.le hle3
  have hA := i_labels g2 (fun x hx => (g1 x hx).toItI) I3 a cp xs q3
  have hB := fun (J : Imm) (m : Le I3 J) => g_labels g2 g1 J a cp xs (q3.le m)
  refine ⟨?_⟩
  repeat' (first
  | (refine wc_semi_memL (id:=2) (hm.perm pm0) [0,1,2,3,5] [4,6,7] 8 (h:=?_); clear hm; intro wd hR hm)
  | (refine iw_loadN (d:=13) hR (hp:=hpf) (k:=?_))
  | (refine iw_loadN (d:=15) hR (hp:=hpf) (k:=?_))
  | (refine mt_call (d:=14) hm (hc:=hA) (k:=?_); clear hm; rintro _ I4 _ _ ⟨rfl, ra, rp, rx, r, hr, rfl, hrr, hrx⟩ hle hm; have hleI4 := hle; try simp only [setn] at hm)
  | (refine mt_call (d:=16) hm (hp:=pm0) (hc:=hB I4 hleI4) (k:=?_); clear hm; rintro _ I5 _ _ ⟨rfl, ra2, rp2, ry, r2, hr2, rfl, hrr2, hry⟩ hleI5 hm; try simp only [setn] at hm; obtain rfl := Sp.labs_uniq hr hr2)
  | (refine mt_call (d:=17) hm (hp:=pm0) (hc:=p_sameFile r (by have := hr.len; omega) (Sp.labs_small hr (fun x hx => (g1 x hx).small)) I5 ra ra2 rp rp2 rx ry (hrr.le hleI5) (hrx.le hleI5) hrr2 hry) (k:=?_); clear hm; rintro _ I6 _ _ ⟨rfl, rfl⟩ hleI6 hm; try simp only [setn] at hm)
  | refine mw_loadAll hR (k:=?_)
  | refine mw_load1 hR (k:=?_)
  | refine iw_load1 hR (k:=?_)
  | refine mt_struct hm (k:=?_)
  | refine iw_loadN hR (k:=?_)
  | (refine ws_nil ?_; replace hm := hR.back hm; clear hR; try simp only [setn] at hm)
  | (refine m_varS (d:=3) hm (k:=?_); clear hm; intro b3 _ hm)
  | (refine m_var1 (d:=3) hm (k:=?_); clear hm; intro b3 _ hm)
  | refine m_load1 hm (k:=?_)
  | refine i_load1 hm (k:=?_)
  | refine m_loadAll hm (k:=?_)
  | refine i_loadN hm (k:=?_)
  | refine i_load1z hm (k:=?_)
  | refine mq_load1 hm (k:=?_)
  | refine iq_load1 hm (k:=?_)
  | refine mq_loadAll hm (k:=?_)
  | refine iq_loadN hm (k:=?_)
  | refine iq_load1z hm (k:=?_)
  | (refine m_storeAll hm (k:=?_); clear hm; intro _ hm; try simp only [setn] at hm)
  | (refine m_store1 hm (k:=?_); clear hm; intro _ hm; try simp only [setn] at hm)
  | (refine m_storeN hm (k:=?_); clear hm; intro _ hm; try simp only [setn] at hm)
  | refine m_ret_agg hm (h:=?_)
  | refine m_ret2_agg hm (h:=?_)
  | refine s_move hm.kept (by rfl) (by rfl) (by rfl) ?_
  | refine s_assign hm.kept (by rfl) (by rfl) (by rfl) ?_
  | refine s_pick_true hm.kept (by rfl) (by rfl) (by rfl) (by rfl) ?_
  | refine s_pick_false hm.kept (by rfl) (by rfl) (by rfl) (by rfl) ?_
  | refine s_neq hm.kept (by rfl) (by rfl) (by rfl) (by rfl) ?_
  | refine s_neq_str hm.kept (by rfl) (by rfl) (by rfl) (by rfl) ?_
  | refine s_neq_bool hm.kept (by rfl) (by rfl) (by rfl) (by rfl) ?_
  | refine s_neq_flat hm.kept (by rfl) (by rfl) (by rfl) (by rfl) (by rfl) (by rfl) ?_
  | refine s_extract hm.kept (by rfl) (by rfl) (by rfl) (by rfl) ?_
  | refine ws_skipC hm.kept (by rfl) (by rfl) (by rfl) ?_
  | (refine ws_split_dec (by rfl) (by rfl) (by rfl) (fun _ => ?_) (fun _ => ?_) <;> (try first | contradiction | (exfalso; omega)))
  | (refine ws_split (by rfl) (by rfl) (by rfl) (fun _ => ?_) (fun _ => ?_) <;> (fail_if_success contradiction))
  | refine it_loadN hm (by rfl) (by rfl) (by rfl) (by assumption) (by rfl) ?_
  | refine it_loadO hm (by rfl) (by rfl) (by rfl) (by assumption) (by rfl) ?_
  | refine op_move (k:=?_)
  | refine op_assign (k:=?_)
  | refine op_pick_true (k:=?_)
  | refine op_pick_false (k:=?_)
  | refine op_neq (k:=?_)
  | refine op_neq_str (k:=?_)
  | refine op_neq_bool (k:=?_)
  | refine op_neq_flat (k:=?_)
  | refine op_extract (k:=?_)
  | refine op_load1 (k:=?_)
  | refine wl_skip (k:=?_)
  | (refine wl_split_dec (h1:=fun _ => ?_) (h0:=fun _ => ?_)<;> (try first | contradiction | (exfalso; omega)))
  | (refine wl_split (h1:=fun _ => ?_) (h0:=fun _ => ?_)<;> (fail_if_success contradiction))
  | refine wl_nil ?_
  | refine at_then_normal ?_
  | refine at_then_ret ?_
  | refine wc_seq ?_
  | refine wc_region ?_
  | refine wc_skip ?_
  | refine wc_ret ?_
  | refine at_ret1 (h:=?_)
  | refine wc_quiet (h:=?_)
  | (refine wq_nil ?_; intro _ hkq; replace hm := hm.kept0 hkq; clear hkq)
  | (refine wq_nil_tail ?_; intro _ hkq; replace hm := hm.kept0 hkq; clear hkq)
  | refine q_move (k:=?_)
  | refine q_assign (k:=?_)
  | refine q_pick_true (k:=?_)
  | refine q_pick_false (k:=?_)
  | refine q_neq (k:=?_)
  | refine q_neq_str (k:=?_)
  | refine q_neq_bool (k:=?_)
  | refine q_neq_flat (k:=?_)
  | refine q_extract (k:=?_)
  | refine q_load1 (k:=?_)
  | refine wq_skip (k:=?_)
  | (refine wq_split_dec (h1:=fun _ => ?_) (h0:=fun _ => ?_)<;> (try first | contradiction | (exfalso; omega)))
  | (refine wq_split (h1:=fun _ => ?_) (h0:=fun _ => ?_)<;> (fail_if_success contradiction))
  | refine v_move (k:=?_)
  | refine v_assign (k:=?_)
  | refine v_pick_true (k:=?_)
  | refine v_pick_false (k:=?_)
  | refine v_neq (k:=?_)
  | refine v_neq_str (k:=?_)
  | refine v_neq_bool (k:=?_)
  | refine v_neq_flat (k:=?_)
  | refine v_extract (k:=?_)
  | refine v_load1 (by rfl) (by rfl) (by rfl) (by assumption) (by rfl) ?_
  | refine wv_skip (k:=?_)
  | (refine wv_split (h1:=fun _ => ?_) (h0:=fun _ => ?_)<;> (fail_if_success contradiction))
  | refine wv_nil ?_
  | refine ws_nil ?_)
  all_goals try (exfalso; first | omega | contradiction)
  exact ⟨I6, [], ⟨rfl, rfl⟩, hm⟩
theorem sp_itells (s : List UInt8) (hs : s.length ≤ 9223372036854775807) (W : World) : Cal Try.prog 3 #[str s] W (fun u W' => u = .bool true ∧ Kept [] W W') :=
  ((sp_itells0 s hs (immOf W)).run W (Mem.start (immOf_inv W))).mono (fun _ _ ⟨_, _, ⟨h1, _⟩, h2⟩ => ⟨h1, h2.kept⟩)
end Go.Proofs.Ytjfkjpbkmpofkaa
end
section
namespace Go.Proofs.Ytjfkjpbkmpofkaa.inferTellsTop
open Go.ChangeShapes Go.WideShapes Go.ChangeAt Go.RowKit
open Go.Fw (Kept Cal str Ret)
open Go.ChangeMaps (open_string shut_string)

set_option maxRecDepth 100000 in
theorem lifted (os : Os) (started : os.Started) (H : Type) (enc : TypeId × Value → H) :
    ReturnsInHanded {} Try.checked os 3 .any (Rows.inferTellsSpec.pre6 enc Try.prog Try.f3 Rows.inferTellsRow.domain false) (Rows.inferTellsSpec.post enc Try.prog Try.f3 false true false false) := by
  refine returnsInHanded_of_change (C := Try.checked) ownKnobNone started (by kernel_rfl) Try.func3
    (ChangeSpec.witness6 (enc := enc) (C := Try.checked) false ⟨#[], #[.string .empty], []⟩ 8 (by kernel_rfl) (by kernel_rfl) (by kernel_rfl) (by kernel_rfl)) ?_
  intro W base args ds gs before hval0 hW hcnd _
  have hval : ∀ (j : Nat) t v, Try.f3.params[j]? = some t → args[j]? = some v → Value.okWide Try.prog W .any base t v := hval0
  have hW' := hW
  obtain ⟨p, q, hA0, hV, rfl, hfz, hnd⟩ := hW
  have hA : DataW.TrodAll enc Try.prog W 0 (fun _ => true) true Try.f3.params.toList args.toList ds p := hA0
  rw [Try.params3] at hA hval
  obtain ⟨v0, vs0, d0, ds0, p0, q0, hargs, rfl, rfl, h0, r0⟩ := trodAll_cons hA
  obtain ⟨rfl, rfl, rfl⟩ := trodAll_nil r0
  obtain rfl : args = #[v0] := by cases args; simp_all
  obtain ⟨rfl, rfl⟩ := trodVars_none hV
  obtain ⟨s0, rfl, rfl, rfl, hm0⟩ := open_string Try.underlying9 (hval 0 9 v0 rfl rfl) h0
  clear hA0 hval0
  simp only [List.append_nil] at hW'
  have hb0 : s0.data.toList.length ≤ 9223372036854775807 := by
    have := hm0
    unfold maxLen at this
    have e : s0.size = s0.data.toList.length := by simp
    omega
  refine ((sp_itells s0.data.toList (by omega) W).run).mono fun e W' he => ?_
  cases e
  case returned v =>
    obtain ⟨rfl, hg⟩ := he
    exact ⟨_, rfl, post_kept (pa := []) (pv := []) hW' (fun _ _ _ => trodAll_cons_mk (shut_bool Try.underlying4 _) trodAll_mk0) (fun _ _ => trodAll_cons_mk (shut_string Try.underlying9 hm0) trodAll_mk0) (fun _ _ => rfl) hg⟩
  all_goals exact he.elim

theorem proved : Rows.InferTellsSaid :=
  OpenClaim.holds_of_wide 3 Try.f3 rfl rfl rfl rfl rfl rfl rfl ⟨rfl, rfl, rfl, rfl, rfl⟩ rfl rfl rfl rfl rfl (by kernel_rfl) Try.func3 (by kernel_rfl)
    (of_decide_eq_true (by kernel_rfl)) (by unfold Func.isWrapper; first | (rw [if_pos (by decide +kernel)]; kernel_rfl) | (rw [if_neg (by decide +kernel)]; exact ⟨rfl, rfl⟩))
    (fun os started H enc _ => lifted os started H enc)
end Go.Proofs.Ytjfkjpbkmpofkaa.inferTellsTop
end
