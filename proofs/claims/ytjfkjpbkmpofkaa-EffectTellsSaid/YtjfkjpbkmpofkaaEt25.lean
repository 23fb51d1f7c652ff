/-
  THE STATEMENT of the law EffectTells: it returns true, whatever it is given. By the prover.
-/
import Derived.Test.YtjfkjpbkmpofkaaEt24
section
namespace Go.Proofs.Ytjfkjpbkmpofkaa
open Go.Fw
structure FiX where
  k : Nat
  I : Imm
  a : Option Addr
  cp : Nat
  xs : List Value
set_option maxHeartbeats 8000000 in
theorem c_file (s : List UInt8) (I : Imm) (hs : s.length ≤ 9223372036854775807) : CalM Try.prog 5 #[str s] I [] (ToFile (Sp.fileErr s) (Sp.fileItems s)) := by
  refine CalM.of fun w E hm => enter (N := 51) Try.func5 rfl [(0, str s)] args1 rfl ?_
  by_cases hl : s.length > 4000
  · have he : Sp.fileErr s = 4 := by rw [Sp.fileErr, if_pos hl]
    have hi : Sp.fileItems s = [] := by rw [Sp.fileItems, he]; rfl
    rw [he, hi]
    repeat' (first
    | (refine m_allocS (d:=2) hm (k:=?_); clear hm; intro b2 _ hm)
    | (refine m_storeAll hm (k:=?_); clear hm; intro _ hm; try simp only [setn] at hm)
    | refine m_ret2_agg hm (h:=?_)
    | refine op_move (k:=?_)
    | refine op_assign (k:=?_)
    | refine op_gtr (k:=?_)
    | refine op_len_str (k:=?_)
    | refine op_struct (k:=?_)
    | refine wl_nil ?_
    | refine at_then_normal ?_
    | refine at_then_ret ?_
    | refine wc_seq ?_
    | refine wc_region ?_
    | refine wc_ret ?_
    | (refine wc_cond_dec (ht:=fun _ => ?_) (hf:=fun _ => ?_)<;> (try first | contradiction | (exfalso; omega))))
    all_goals try (exfalso; omega)
    exact ⟨_, _, ⟨none, 0, [], rfl, rowI_nil _ _ _ _ _, rfl, rfl⟩, hm.tl⟩
  have hts := Sp.cuts_sub s (Sp.tokens s) []
  by_cases hc : (Sp.cuts s).length > 30
  · have he : Sp.fileErr s = 5 := by rw [Sp.fileErr, if_neg hl, if_pos hc]
    have hi : Sp.fileItems s = [] := by rw [Sp.fileItems, he]; rfl
    rw [he, hi]
    repeat' (first
    | (refine op_call (hc:=by exact c_rcuts s (by omega) _) (k:=?_); rintro tv wt ⟨hto, hkt⟩; obtain ⟨ta, tc, rfl⟩ := own_val hto; replace hm := hm.kept0 hkt)
    | (refine m_allocS (d:=2) hm (k:=?_); clear hm; intro b2 _ hm)
    | (refine m_storeAll hm (k:=?_); clear hm; intro _ hm; try simp only [setn] at hm)
    | refine m_ret2_agg hm (h:=?_)
    | refine op_move (k:=?_)
    | refine op_assign (k:=?_)
    | refine op_gtr (k:=?_)
    | refine op_len_str (k:=?_)
    | refine op_len_slice (k:=?_)
    | refine op_struct (k:=?_)
    | refine wl_nil ?_
    | refine at_then_normal ?_
    | refine at_then_ret ?_
    | refine wc_seq ?_
    | refine wc_region ?_
    | refine wc_skip ?_
    | refine wc_ret ?_
    | (refine wc_cond_dec (ht:=fun _ => ?_) (hf:=fun _ => ?_)<;> (try first | contradiction | (exfalso; omega))))
    all_goals try (exfalso; omega)
    exact ⟨_, _, ⟨none, 0, [], rfl, rowI_nil _ _ _ _ _, rfl, rfl⟩, hm.tl⟩
  have he : Sp.fileErr s = 0 := by rw [Sp.fileErr, if_neg hl, if_neg hc]
  have hi : Sp.fileItems s = Sp.items s (Sp.cuts s) := by rw [Sp.fileItems, he]; rfl
  rw [he, hi]
  clear he hi hts
  repeat' (first
  | (refine op_call (hc:=by exact c_rcuts s (by omega) _) (k:=?_); rintro tv wt ⟨hto, hkt⟩; obtain ⟨ta, tc, rfl⟩ := own_val hto; obtain ⟨I1, hle1, hm1, hrow⟩ := hm.take hkt hto; clear hm; have hm := hm1; clear hm1)
  | (refine m_allocS (d:=2) hm (k:=?_); clear hm; intro b2 _ hm)
  | (refine m_allocS (d:=5) hm (k:=?_); clear hm; intro b5 _ hm)
  | refine op_move (k:=?_)
  | refine op_assign (k:=?_)
  | refine op_gtr (k:=?_)
  | refine op_len_str (k:=?_)
  | refine op_len_slice (k:=?_)
  | refine wl_nil ?_
  | refine at_then_normal ?_
  | refine wc_seq ?_
  | refine wc_region ?_
  | refine wc_block ?_
  | refine wc_skip ?_
  | (refine wc_cond_dec (ht:=fun _ => ?_) (hf:=fun _ => ?_)<;> (try first | contradiction | (exfalso; omega))))
  all_goals try (exfalso; omega)
  obtain ⟨n, hn⟩ : ∃ n, n = (Sp.cuts s).length := ⟨_, rfl⟩
  have hln : (Sp.items s (Sp.cuts s)).length = n := by simp [Sp.items, hn]
  have hcat : ∀ k, k < n → (Sp.cuts s).getD k 0 < (Sp.cuts s).getD (k + 1) s.length ∧ (Sp.cuts s).getD (k + 1) s.length ≤ s.length := fun k hk => Sp.cuts_at s (by omega)
  have hzz : ∀ k, k < n → ∀ d, (Sp.cuts s)[k]? = some ((Sp.cuts s).getD k d) := fun k hk d => by rw [List.getD_eq_getElem?_getD, List.getElem?_eq_getElem (by omega)]; rfl
  have hend : ∀ k, n ≤ k → ∀ d, (Sp.cuts s).getD k d = d := fun k hk d => by rw [List.getD_eq_getElem?_getD, List.getElem?_eq_none (by omega)]; rfl
  have hits0 : Sp.items s (Sp.cuts s) = (List.range n).map (Sp.itemAt s (Sp.cuts s)) := by rw [Sp.items, hn]
  rw [← hn] at hrow hc ⊢
  clear hn hto hkt
  generalize Sp.cuts s = cs at hrow hln hcat hzz hend hits0 ⊢
  have hm := hm.nil 38 10
  refine wc_loop (fun x : FiX => [(0, str s), (2, ptr b2), (4, .slice ta n tc), (5, ptr b5), (19, .slice ta n tc), (20, nt n), (21, nt x.k)])
    (fun x w' => Mem E x.I [itRow x.k x.a x.cp x.xs, .cell b5 [.slice x.a x.k x.cp] 24, .cell b2 [.slice none 0 0] 24] w' ∧ x.k ≤ n ∧ Le I1 x.I ∧ ItsAt x.I ((List.range x.k).map (Sp.itemAt s cs)) x.xs)
    (fun x => n - x.k) ⟨0, I1, none, 0, []⟩ (by exact ⟨rfl, rfl, rfl, rfl, rfl, rfl, rfl, trivial⟩) ⟨hm, Nat.zero_le _, Le.refl _, rfl⟩ ?_
  clear hm
  rintro ⟨k, I2, a, cp, xs⟩ w2 ⟨hm, hk, hle2, hits⟩
  dsimp only at hm hk hle2 hits ⊢
  have hrow2 := hrow.le hle2
  by_cases hlt : k < n
  · have hca := hcat k hlt
    have hz : cs[((k : Nat) : Int).toNat]? = some (cs.getD k 0) := by
      rw [Int.toNat_natCast]; exact hzz k hlt 0
    have hpl : (Sp.piece s cs k).length ≤ 1048576 := by
      rw [Sp.piece, List.length_take, List.length_drop]; omega
    have hit := c_item (Sp.piece s cs k) ((cs.getD k 0 : Nat) : Int) I2 hpl
    rw [show Sp.item (Sp.piece s cs k) ((cs.getD k 0 : Nat) : Int) = Sp.itemAt s cs k from rfl] at hit
    clear hpl
    by_cases hlt2 : k + 1 < n
    · have hz2 : cs[(((k : Nat) : Int) + 1).toNat]? = some (cs.getD (k + 1) s.length) := by
        rw [show (((k : Nat) : Int) + 1).toNat = k + 1 by omega]; exact hzz (k + 1) hlt2 _
      rw [Sp.piece] at hit
      generalize cs.getD (k + 1) s.length = e2 at hca hz2 hit
      generalize cs.getD k 0 = e1 at hca hz hit
      repeat' (first
      | (refine wc_semi 7 10 (itRow k a cp xs).blk.toList (h:=?_); intro wd hkd; replace hm := hm.kept0 hkd; clear hkd; have hC := Kept.refl (itRow k a cp xs).blk.toList wd)
      | (refine i_indexFlat (d:=24) (enc:=encInt) (z:=e1) (hr:=hrow2) (he:=fun _ => rfl) (hz:=hz) (k:=?_); intro bt ot hpt)
      | (refine i_indexFlat (d:=36) (enc:=encInt) (z:=e2) (hr:=hrow2) (he:=fun _ => rfl) (hz:=hz2) (k:=?_); intro bt2 ot2 hpt2)
      | (refine ms_call (d := 45) hm hC (by rfl) (by rfl) (by rfl) (hit) ?_; clear hm hC; rintro _ I3 _ _ ⟨_, rfl, ⟨ap, cp1, as_, cs1, ab, cb, ad, cd, xb, rfl, r1, r2, r3, r4, r5⟩, rfl⟩ hle hm hC; have hleI3 := hle; try simp only [setn] at hm)
      | refine mv_load1 hm (k:=?_)
      | (refine ms_push (d:=47) hm hC (k:=?_); clear hm hC; intro a47 cp47 _ _ hm; try simp only [setn] at hm)
      | refine i_load1z hm (k:=?_)
      | (refine m_store1 hm (k:=?_); clear hm; intro _ hm; try simp only [setn] at hm)
      | refine op_move (k:=?_)
      | refine op_assign (k:=?_)
      | refine op_lss (k:=?_)
      | refine op_len_str (k:=?_)
      | refine op_len_slice (k:=?_)
      | refine op_add (k:=?_)
      | refine op_fieldAddr (k:=?_)
      | refine wl_nil ?_
      | refine at_then_normal ?_
      | refine at_block_normal ?_
      | refine wc_seq ?_
      | refine wc_region ?_
      | refine wc_block ?_
      | refine wc_skip ?_
      | (refine wc_cond_dec (ht:=fun _ => ?_) (hf:=fun _ => ?_)<;> (try first | contradiction | (exfalso; omega)))
      | refine v_move (k:=?_)
      | refine v_slice_str (k:=?_)
      | refine v_fieldAddr (k:=?_)
      | refine wv_nil ?_)
      all_goals try (exfalso; omega)
      refine at_round (⟨k + 1, I3, _, _, _⟩ : FiX) (by exact ⟨rfl, rfl, rfl, rfl, rfl, rfl, rfl, trivial⟩) ⟨hm, by dsimp only; omega, hle2.trans hleI3, ?_⟩ (by dsimp only; omega)
      dsimp only
      rw [Sp.items_snoc]
      exact (hits.le hleI3).snoc ⟨ap, cp1, as_, cs1, ab, cb, ad, cd, xb, rfl, r1, r2, r3, r4, r5⟩
    · rw [Sp.piece, show cs.getD (k + 1) s.length = s.length from hend (k + 1) (by omega) _] at hit
      generalize cs.getD (k + 1) s.length = e2 at hca
      generalize cs.getD k 0 = e1 at hca hz hit
      repeat' (first
      | (refine wc_semi 7 10 (itRow k a cp xs).blk.toList (h:=?_); intro wd hkd; replace hm := hm.kept0 hkd; clear hkd; have hC := Kept.refl (itRow k a cp xs).blk.toList wd)
      | (refine i_indexFlat (d:=24) (enc:=encInt) (z:=e1) (hr:=hrow2) (he:=fun _ => rfl) (hz:=hz) (k:=?_); intro bt ot hpt)
      | (refine ms_call (d := 45) hm hC (by rfl) (by rfl) (by rfl) (hit) ?_; clear hm hC; rintro _ I3 _ _ ⟨_, rfl, ⟨ap, cp1, as_, cs1, ab, cb, ad, cd, xb, rfl, r1, r2, r3, r4, r5⟩, rfl⟩ hle hm hC; have hleI3 := hle; try simp only [setn] at hm)
      | refine mv_load1 hm (k:=?_)
      | (refine ms_push (d:=47) hm hC (k:=?_); clear hm hC; intro a47 cp47 _ _ hm; try simp only [setn] at hm)
      | refine i_load1z hm (k:=?_)
      | (refine m_store1 hm (k:=?_); clear hm; intro _ hm; try simp only [setn] at hm)
      | refine op_move (k:=?_)
      | refine op_assign (k:=?_)
      | refine op_lss (k:=?_)
      | refine op_len_str (k:=?_)
      | refine op_len_slice (k:=?_)
      | refine op_add (k:=?_)
      | refine op_fieldAddr (k:=?_)
      | refine wl_nil ?_
      | refine at_then_normal ?_
      | refine at_block_normal ?_
      | refine wc_seq ?_
      | refine wc_region ?_
      | refine wc_block ?_
      | refine wc_skip ?_
      | (refine wc_cond_dec (ht:=fun _ => ?_) (hf:=fun _ => ?_)<;> (try first | contradiction | (exfalso; omega)))
      | refine v_move (k:=?_)
      | refine v_slice_str (k:=?_)
      | refine v_fieldAddr (k:=?_)
      | refine wv_nil ?_)
      all_goals try (exfalso; omega)
      refine at_round (⟨k + 1, I3, _, _, _⟩ : FiX) (by exact ⟨rfl, rfl, rfl, rfl, rfl, rfl, rfl, trivial⟩) ⟨hm, by dsimp only; omega, hle2.trans hleI3, ?_⟩ (by dsimp only; omega)
      dsimp only
      rw [Sp.items_snoc]
      exact (hits.le hleI3).snoc ⟨ap, cp1, as_, cs1, ab, cb, ad, cd, xb, rfl, r1, r2, r3, r4, r5⟩
  · obtain rfl : k = n := by omega
    repeat' (first
    | refine m_loadAll hm (k:=?_)
    | (refine m_storeAll hm (k:=?_); clear hm; intro _ hm; try simp only [setn] at hm)
    | refine m_ret2_agg hm (h:=?_)
    | refine op_assign (k:=?_)
    | refine op_lss (k:=?_)
    | refine wl_nil ?_
    | refine at_then_normal ?_
    | refine at_then_exit ?_
    | refine at_block_exit ?_
    | refine wc_seq ?_
    | refine wc_region ?_
    | refine wc_exit ?_
    | refine wc_ret ?_
    | (refine wc_cond_dec (ht:=fun _ => ?_) (hf:=fun _ => ?_)<;> (try first | contradiction | (exfalso; omega))))
    all_goals try (exfalso; omega)
    obtain ⟨I3, hle3, hm3, hrow3⟩ := (hm.perm pm1_0).freeze
    refine ⟨I3, [], ⟨a, cp, xs, ?_, ?_, by rw [hits0]; exact hits.le hle3, rfl⟩, hm3.left (H := [])⟩
    · rw [hln]; rfl
    · rw [hln]; exact hrow3
end Go.Proofs.Ytjfkjpbkmpofkaa
end
section
namespace Go.Sp
theorem flat_len {α : Type} {c : Nat} : ∀ (L : List (List α)), (∀ a ∈ L, a.length ≤ c) → L.flatten.length ≤ L.length * c
  | [], _ => by simp
  | a :: L, h => by
    have h1 := h a List.mem_cons_self
    have h2 := flat_len L (fun b hb => h b (List.mem_cons_of_mem _ hb))
    rw [List.flatten_cons, List.length_append, List.length_cons, Nat.add_mul]; omega
theorem file_eff (s : List UInt8) : (∀ x ∈ fileItems s, x.small ∧ stmsCnt x.body ≤ 32000) ∧ (fileItems s).length ≤ 30 := by
  by_cases h0 : fileErr s = 0
  · have hl : s.length ≤ 4000 ∧ (cuts s).length ≤ 30 := by
      rw [fileErr] at h0
      split at h0
      · cases h0
      · split at h0
        · cases h0
        · omega
    rw [fileItems, if_pos h0]
    refine ⟨fun x hx => ?_, by simp [items, hl.2]⟩
    obtain ⟨j, _, rfl⟩ := List.mem_map.1 hx
    have hp : (piece s (cuts s) j).length ≤ 4000 := by rw [piece, List.length_take, List.length_drop]; omega
    have hc := item_cnt (piece s (cuts s) j) ((cuts s).getD j 0)
    exact ⟨item_small _ _ (by omega), by rw [itemAt]; omega⟩
  · rw [fileItems, if_neg h0]
    exact ⟨fun x hx => (by cases hx), Nat.zero_le _⟩
theorem names_len {its : List Itm} (h : ∀ x ∈ its, x.small ∧ stmsCnt x.body ≤ 32000) (h2 : its.length ≤ 30) : (namesE its).length ≤ 960000 := by
  have h3 := flat_len (c := 32000) (initsE its) (fun a ha => by
    obtain ⟨j, hj, rfl⟩ := List.mem_map.1 ha
    rw [initE]
    split
    · have h4 := ownE_len (itNo its j)
      have h5 := (h (itNo its j) (by rw [itNo, List.getD_eq_getElem?_getD, List.getElem?_eq_getElem (List.mem_range.1 hj)]; exact List.getElem_mem (List.mem_range.1 hj))).2
      omega
    · exact Nat.zero_le _)
  rw [initsE_len] at h3
  have : its.length * 32000 ≤ 30 * 32000 := Nat.mul_le_mul_right _ h2
  exact Nat.le_trans h3 (by omega)
end Go.Sp
namespace Go.Proofs.Ytjfkjpbkmpofkaa
open Go.Fw
theorem triS_freeze {E : Ent} {w : World} : ∀ (T : List (Tri (List UInt8))) {I : Imm} {R : List HItem}, Mem E I (T.map triS ++ R) w → ∃ J, Le I J ∧ Mem E J R w ∧ ∀ t ∈ T, StrI J t.1 t.2.1 t.2.2
  | [], I, R, hm => ⟨I, Le.refl _, hm, fun _ h => (by cases h)⟩
  | t :: T, I, R, hm => by
    obtain ⟨I1, l1, m1, r1⟩ := Mem.freeze (H := T.map triS ++ R) hm
    obtain ⟨I2, l2, m2, r2⟩ := triS_freeze T m1
    refine ⟨I2, l1.trans l2, m2, fun u hu => ?_⟩
    rcases List.mem_cons.1 hu with rfl | hu
    · exact r1.le l2
    · exact r2 u hu
set_option maxHeartbeats 64000000 in
theorem sp_etells0 (s : List UInt8) (hs : s.length ≤ 9223372036854775807) (I : Imm) :
    CalM Try.prog 4 #[str s] I [] (fun v _ H' => v = .bool true ∧ H' = []) := by
  refine CalM.of fun w E hm => enter (N := 77) Try.func4 rfl [(0, str s)] args1 rfl ?_
  have hF := c_file s I hs
  obtain ⟨g1, few1⟩ := Sp.file_eff s
  generalize Sp.fileErr s = er at hF
  generalize Sp.fileItems s = its at hF g1 few1
  have hN := Sp.names_len g1 few1
  have hsm : ∀ it ∈ its, it.small ∧ Sp.stmsCnt it.body ≤ 400000000 := fun it h => ⟨(g1 it h).1, by have := (g1 it h).2; omega⟩
  by_cases h0 : er ≠ 0
  · skip
    repeat' (first
    | (refine m_call (d:=14) hm (hc:=hF) (k:=?_); clear hm; rintro _ I2 _ _ ⟨a, cp, xs, rfl, hrow, hits, rfl⟩ hle hm; have hleI2 := hle; try simp only [setn] at hm)
    | (refine m_varS (d:=3) hm (k:=?_); clear hm; intro b3 _ hm)
    | refine op_move (k:=?_)
    | refine op_assign (k:=?_)
    | refine op_neq (k:=?_)
    | refine op_extract (k:=?_)
    | refine wl_nil ?_
    | refine at_then_normal ?_
    | refine at_then_ret ?_
    | refine wc_seq ?_
    | refine wc_region ?_
    | refine wc_ret ?_
    | refine at_ret1 (h:=?_)
    | (refine wc_cond_dec (ht:=fun _ => ?_) (hf:=fun _ => ?_)<;> (try first | contradiction | (exfalso; omega))))
    all_goals try (exfalso; first | omega | contradiction)
    all_goals exact ⟨I2, [], ⟨rfl, rfl⟩, hm.left (H := [])⟩
  obtain rfl : er = 0 := by omega
  repeat' (first
  | (refine m_call (d:=14) hm (hc:=hF) (k:=?_); clear hm; rintro _ I2 _ _ ⟨a, cp, xs, rfl, hrow, hits, rfl⟩ hle hm; have hleI2 := hle; try simp only [setn] at hm)
  | refine wc_hold 4 ?_
  | (refine m_varS (d:=3) hm (k:=?_); clear hm; intro b3 _ hm)
  | refine op_move (k:=?_)
  | refine op_assign (k:=?_)
  | refine op_neq (k:=?_)
  | refine op_extract (k:=?_)
  | refine wl_nil ?_
  | refine at_then_normal ?_
  | refine wc_seq ?_
  | refine wc_region ?_
  | refine wc_skip ?_
  | refine wc_cond_false (hf:=?_))
  all_goals try (exfalso; first | omega | contradiction)
  have q1 : FE I2 its a cp xs := fe_of hrow hits (by omega)
  obtain ⟨I3, hle3, hm3, hpf⟩ := hm.freezeO
  clear hm
  have hm := hm3
  clear hm3
  have q3 := q1.le hle3
  have hA := e_all (its := its) I3 a cp xs q3 hsm (by omega)
  refine ⟨?_⟩
  repeat' (first
  | (refine i_loadN (d:=19) hm (hp:=hpf) (k:=?_))
  | (refine m_call (d:=20) hm (hp:=pm0) (hc:=hA) (k:=?_); clear hm; rintro _ I4 _ w4 ⟨ob, T, hT, rfl, rfl⟩ hleI4 hm)
  | refine wc_hold 5 ?_
  | refine op_assign (k:=?_)
  | refine wl_nil ?_
  | refine at_then_normal ?_
  | refine wc_seq ?_
  | refine wc_region ?_)
  all_goals try (exfalso; first | omega | contradiction)
  obtain ⟨I5, hle5, hm5, hro⟩ := Mem.freeze (H := T.map triS ++ []) hm
  obtain ⟨I6, hle6, hm6, hrt⟩ := triS_freeze T hm5
  clear hm hm5
  have hm := hm6
  clear hm6
  have hle46 : Le I4 I6 := hle5.trans hle6
  have q6 := (q3.le hleI4).le hle46
  have hpf6 := (hpf.le hleI4).le hle46
  have hro6 := hro.le hle6
  rw [← flat_one] at hro6
  refine ⟨?_⟩
  repeat' (first
  | refine i_load1 hm (k:=?_)
  | refine op_move (k:=?_)
  | refine op_neq (k:=?_)
  | refine op_len_slice (k:=?_)
  | refine op_fieldAddr (k:=?_)
  | refine wl_nil ?_
  | refine at_then_normal ?_
  | refine wc_seq ?_
  | refine wc_region ?_
  | refine wc_block ?_
  | refine wc_skip ?_
  | (refine wc_cond_dec (ht:=fun _ => ?_) (hf:=fun _ => ?_)<;> (try first | contradiction | (exfalso; omega))))
  all_goals try (exfalso; first | omega | contradiction)
  refine wc_loop (fun x : SmX => [(3, ptr b3), (5, .slice (some ⟨ob, 0, none⟩) its.length its.length), (28, .slice a its.length cp), (29, nt its.length), (30, nt x.k)])
    (fun x w' => Mem E x.I [] w' ∧ Le I6 x.I ∧ x.k ≤ its.length) (fun x => its.length - x.k) ⟨0, I6⟩ (by exact ⟨rfl, rfl, rfl, rfl, rfl, trivial⟩) ⟨hm, Le.refl _, Nat.zero_le _⟩ ?_
  clear hm
  rintro ⟨k, I7⟩ w7 ⟨hm, hle7, hk⟩
  dsimp only at hm hle7 hk ⊢
  have q7 := q6.le hle7
  have hpf7 := hpf6.le hle7
  have hro7 := hro6.le hle7
  have hri := q7.row
  by_cases hlt : k < its.length
  · have hg : its[k]? = some its[k] := List.getElem?_eq_getElem hlt
    obtain ⟨cs, hcs, hat, hl10⟩ := q7.get hg
    have hmk := hsm _ (List.getElem_mem hlt)
    have hcn := (g1 _ (List.getElem_mem hlt)).2
    obtain ⟨ta, tc, hti, _⟩ := tri_at hT hlt
    have hrk : StrI I7 (Sp.allE its k) ta tc := (hrt _ (List.mem_of_getElem? hti)).le hle7
    have hal : (Sp.allE its k).length ≤ 1000000000 := Nat.le_trans (Sp.allE_len (its := its) k) (by omega)
    have hdl : (Sp.effD its k).length ≤ 1000000000 := by
      rw [Sp.effD, List.length_map]
      exact Nat.le_trans (List.length_filter_le _ _) hal
    have hRe := fun (J : Imm) (m : Le I7 J) => r_reach (its := its) k hlt J a cp xs (q7.le m) hsm (by omega)
    have hDg := fun (J : Imm) (m : Le I7 J) => e_diags (its := its) k hlt J a cp xs (q7.le m) hsm (by omega)
    have hEf := fun (J : Imm) (m : Le I7 J) => r_effects (its := its) k hlt J a cp xs (q7.le m) hsm (by omega)
    generalize Sp.effD its k = ed at hdl hDg hEf
    generalize Sp.allE its k = al at hti hrk hal hRe
    have hti2 : T[((k : Nat) : Int).toNat]? = some (al, ta, tc) := hti
    generalize its[k] = it at hg hat hmk hcn
    have hP := e_own it hmk.1 hmk.2 I7 cs hat
    have hR := fun (J : Imm) (m : Le I7 J) => r_own it hmk.1 hmk.2 J cs (ItAt.le m hat)
    have hln := Sp.ownE_len it
    unfold ToOwn at hP
    generalize Sp.ownE it = r at hP hR hln
    obtain ⟨rs, rc⟩ := r
    try dsimp only at hP hR hln
    obtain ⟨ap, cp', as_, cs', ab, cb', ad, cd, xb, rfl, _⟩ := hat
    repeat' (first
    | (refine i_indexAddr (d:=33) (hr:=hri) (k:=?_); intro bt ot hpt; rw [show ((k : Int).toNat * 10) = k * 10 from rfl, hcs] at hpt)
    | (refine i_loadN (d:=34) hm (hp:=hpt) (k:=?_))
    | (refine m_call (d:=37) hm (hp:=pm0) (hc:=hP) (k:=?_); clear hm; rintro _ I8 _ _ ⟨sa, sp, ca, cp8, rfl, rfl⟩ hleI8 hm; try simp only [setn] at hm)
    | refine wc_hold 11 ?_
    | (refine m_allocS (d:=7) hm (k:=?_); clear hm; intro b7 _ hm)
    | refine m_loadAll hm (k:=?_)
    | (refine m_storeAll hm (k:=?_); clear hm; intro _ hm; try simp only [setn] at hm)
    | refine op_move (k:=?_)
    | refine op_assign (k:=?_)
    | refine op_lss (k:=?_)
    | refine op_extract (k:=?_)
    | refine wl_nil ?_
    | refine at_then_normal ?_
    | refine wc_seq ?_
    | refine wc_region ?_
    | refine wc_block ?_
    | refine wc_skip ?_
    | (refine wc_cond_dec (ht:=fun _ => ?_) (hf:=fun _ => ?_)<;> (try first | contradiction | (exfalso; omega))))
    all_goals try (exfalso; first | omega | contradiction)
    obtain ⟨I9, hle9, hm9, hrA⟩ := Mem.freeze hm
    obtain ⟨Ia, hlea, hma, hrB⟩ := Mem.freeze hm9
    clear hm hm9
    have hm := hma
    clear hma
    have hle7a : Le I7 Ia := (hleI8.trans hle9).trans hlea
    have hrAa := hrA.le hlea
    have hR1 := hR Ia hle7a
    refine ⟨?_⟩
    repeat' (first
    | (refine m_call (d:=42) hm (hp:=pm0) (hc:=hR1) (k:=?_); clear hm; rintro _ Ib _ _ ⟨rfl, s2, sp2, c2, cp2, rfl, hr3, hr4⟩ hleIb hm; try simp only [setn] at hm)
    | refine wc_hold 12 ?_
    | refine m_loadAll hm (k:=?_)
    | refine op_move (k:=?_)
    | refine op_assign (k:=?_)
    | refine op_extract (k:=?_)
    | refine wl_nil ?_
    | refine at_then_normal ?_
    | refine wc_seq ?_
    | refine wc_region ?_)
    all_goals try (exfalso; first | omega | contradiction)
    have hle7b := hle7a.trans hleIb
    have hm := hm.left (H := [])
    have hpfb := hpf7.le hle7b
    have hrob := hro7.le hle7b
    have hrkb := hrk.le hle7b
    have hs1 := s_texts rs (by omega) Ib sa s2 sp sp2 (hrAa.le hleIb) hr3
    have hs2 := fun (J : Imm) (m : Le Ib J) => s_texts rc (by omega) J ca c2 cp8 cp2 ((hrB.le hleIb).le m) (hr4.le m)
    refine ⟨?_⟩
    repeat' (first
    | (refine wc_mix_mem (id:=12) (hm.perm pm0) [([0,1],[2]),([3,4,5,6],[7]),([8,9,10,11,12,13,14,15,16],[17,18]),([19,20,21,22,23,25,26],[24,27,28])] 29 (h:=?_); clear hm; intro wd hR hm)
    | (refine iw_indexFlat (d:=58) (enc:=fun t => [triV t]) (z:=(al, ta, tc)) (hr:=hrob) (he:=fun _ => rfl) (hz:=hti2) (k:=?_); intro bo oo hpo)
    | (refine iw_load1 (j:=0) (d:=59) hR (hp:=hpo) (k:=?_))
    | (refine iw_loadN (d:=60) hR (hp:=hpfb) (k:=?_))
    | (refine iw_loadN (d:=67) hR (hp:=hpfb) (k:=?_))
    | (refine iw_loadN (d:=70) hR (hp:=hpfb) (k:=?_))
    | (refine mt_call (d:=47) hm (hc:=hs1) (k:=?_); clear hm; rintro _ Ic _ _ ⟨rfl, rfl⟩ hle hm; have hleIc := hle; try simp only [setn] at hm)
    | (refine mt_call (d:=52) hm (hc:=hs2 Ic hleIc) (k:=?_); clear hm; rintro _ Id _ _ ⟨rfl, rfl⟩ hle hm; have hleId := hle; try simp only [setn] at hm)
    | (refine mt_call (d:=62) hm (hc:=hRe Id ((hle7b.trans hleIc).trans hleId)) (k:=?_); clear hm; rintro _ Ie _ _ ⟨rfl, ra, rp, rfl, hrr⟩ hle hm; have hleIe := hle; try simp only [setn] at hm)
    | (refine mt_call (d:=63) hm (hc:=s_texts al hal Ie ta ra tc rp (((hrkb.le hleIc).le hleId).le hleIe) hrr) (k:=?_); clear hm; rintro _ If _ _ ⟨rfl, rfl⟩ hle hm; have hleIf := hle; try simp only [setn] at hm)
    | (refine mt_call (d:=69) hm (hc:=hDg If ((((hle7b.trans hleIc).trans hleId).trans hleIe).trans hleIf)) (k:=?_); clear hm; rintro _ Ig _ _ ⟨rfl, da, dp, rfl, hd1⟩ hle hm; have hleIg := hle; try simp only [setn] at hm)
    | (refine mt_call (d:=72) hm (hc:=hEf Ig (((((hle7b.trans hleIc).trans hleId).trans hleIe).trans hleIf).trans hleIg)) (k:=?_); clear hm; rintro _ Ih _ _ ⟨rfl, da2, dp2, rfl, hd2⟩ hle hm; have hleIh := hle; try simp only [setn] at hm)
    | (refine mt_call (d:=73) hm (hc:=s_diags ed hdl Ih da da2 dp dp2 (hd1.le hleIh) hd2) (k:=?_); clear hm; rintro _ Ii _ _ ⟨rfl, rfl⟩ hle hm; have hleIi := hle; try simp only [setn] at hm)
    | refine wx_cons ?_
    | refine wv_nilX ?_
    | refine ws_nil ?_
    | refine at_X ?_
    | (refine wx_nil ?_; replace hm := hR.back hm; clear hR; try simp only [setn] at hm)
    | refine op_move (k:=?_)
    | refine op_pick_false (k:=?_)
    | refine op_not (k:=?_)
    | refine op_add (k:=?_)
    | refine wl_nil ?_
    | refine at_then_normal ?_
    | refine at_block_normal ?_
    | refine wc_region ?_
    | refine wc_skip ?_
    | refine wc_cond_false (hf:=?_)
    | refine v_move (k:=?_)
    | refine v_pick_false (k:=?_)
    | refine v_not (k:=?_))
    all_goals try (exfalso; first | omega | contradiction)
    exact at_round (⟨k + 1, Ii⟩ : SmX) (by exact ⟨rfl, rfl, rfl, rfl, rfl, trivial⟩) ⟨hm, ((((((((hle7.trans hle7b).trans hleIc).trans hleId).trans hleIe).trans hleIf).trans hleIg).trans hleIh).trans hleIi), by dsimp only; omega⟩ (by dsimp only; omega)
  · obtain rfl : k = its.length := by omega
    repeat' (first
    | refine op_assign (k:=?_)
    | refine op_lss (k:=?_)
    | refine wl_nil ?_
    | refine at_then_normal ?_
    | refine at_then_exit ?_
    | refine at_block_exit ?_
    | refine wc_seq ?_
    | refine wc_region ?_
    | refine wc_exit ?_
    | refine wc_ret ?_
    | refine at_ret1 (h:=?_)
    | (refine wc_cond_dec (ht:=fun _ => ?_) (hf:=fun _ => ?_)<;> (try first | contradiction | (exfalso; omega))))
    all_goals try (exfalso; first | omega | contradiction)
    exact ⟨I7, [], ⟨rfl, rfl⟩, hm⟩
theorem sp_etells (s : List UInt8) (hs : s.length ≤ 9223372036854775807) (W : World) : Cal Try.prog 4 #[str s] W (fun u W' => u = .bool true ∧ Kept [] W W') :=
  ((sp_etells0 s hs (immOf W)).run W (Mem.start (immOf_inv W))).mono (fun _ _ ⟨_, _, ⟨h1, _⟩, h2⟩ => ⟨h1, h2.kept⟩)
end Go.Proofs.Ytjfkjpbkmpofkaa
end
section
namespace Go.Proofs.Ytjfkjpbkmpofkaa.effectTellsTop
open Go.ChangeShapes Go.WideShapes Go.ChangeAt Go.RowKit
open Go.Fw (Kept Cal str Ret)
open Go.ChangeMaps (open_string shut_string)

set_option maxRecDepth 100000 in
theorem lifted (os : Os) (started : os.Started) (H : Type) (enc : TypeId × Value → H) :
    ReturnsInHanded {} Try.checked os 4 .any (Rows.effectTellsSpec.pre6 enc Try.prog Try.f4 Rows.effectTellsRow.domain false) (Rows.effectTellsSpec.post enc Try.prog Try.f4 false true false false) := by
  refine returnsInHanded_of_change (C := Try.checked) ownKnobNone started (by kernel_rfl) Try.func4
    (ChangeSpec.witness6 (enc := enc) (C := Try.checked) false ⟨#[], #[.string .empty], []⟩ 8 (by kernel_rfl) (by kernel_rfl) (by kernel_rfl) (by kernel_rfl)) ?_
  intro W base args ds gs before hval0 hW hcnd _
  have hval : ∀ (j : Nat) t v, Try.f4.params[j]? = some t → args[j]? = some v → Value.okWide Try.prog W .any base t v := hval0
  have hW' := hW
  obtain ⟨p, q, hA0, hV, rfl, hfz, hnd⟩ := hW
  have hA : DataW.TrodAll enc Try.prog W 0 (fun _ => true) true Try.f4.params.toList args.toList ds p := hA0
  rw [Try.params4] at hA hval
  obtain ⟨v0, vs0, d0, ds0, p0, q0, hargs, rfl, rfl, h0, r0⟩ := trodAll_cons hA
  obtain ⟨rfl, rfl, rfl⟩ := trodAll_nil r0
  obtain rfl : args = #[v0] := by cases args; simp_all
  obtain ⟨rfl, rfl⟩ := trodVars_none hV
  obtain ⟨s0, rfl, rfl, rfl, hm0⟩ := open_string Try.underlying9 (hval 0 9 v0 rfl rfl) h0
  clear hA0 hval0
  simp only [List.append_nil] at hW'
  have hb0 : s0.data.toList.length ≤ 9223372036854775807 := by
    have := hm0
    unfold maxLen at this
    have e : s0.size = s0.data.toList.length := by simp
    omega
  refine ((sp_etells s0.data.toList (by omega) W).run).mono fun e W' he => ?_
  cases e
  case returned v =>
    obtain ⟨rfl, hg⟩ := he
    exact ⟨_, rfl, post_kept (pa := []) (pv := []) hW' (fun _ _ _ => trodAll_cons_mk (shut_bool Try.underlying4 _) trodAll_mk0) (fun _ _ => trodAll_cons_mk (shut_string Try.underlying9 hm0) trodAll_mk0) (fun _ _ => rfl) hg⟩
  all_goals exact he.elim

theorem proved : Rows.EffectTellsSaid :=
  OpenClaim.holds_of_wide 4 Try.f4 rfl rfl rfl rfl rfl rfl rfl ⟨rfl, rfl, rfl, rfl, rfl⟩ rfl rfl rfl rfl rfl (by kernel_rfl) Try.func4 (by kernel_rfl)
    (of_decide_eq_true (by kernel_rfl)) (by unfold Func.isWrapper; first | (rw [if_pos (by decide +kernel)]; kernel_rfl) | (rw [if_neg (by decide +kernel)]; exact ⟨rfl, rfl⟩))
    (fun os started H enc _ => lifted os started H enc)
end Go.Proofs.Ytjfkjpbkmpofkaa.effectTellsTop
end
