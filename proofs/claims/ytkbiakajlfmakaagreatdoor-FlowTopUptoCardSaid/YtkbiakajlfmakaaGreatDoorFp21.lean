/- Own work: texts PpR, NmA, SpecStand, SpecStand2, NsA, NsB, FwMap2, one behind the other. -/
import Derived.Test.YtkbiakajlfmakaaGreatDoorFp20
section
namespace Go.Proofs.YtkbiakajlfmakaaGreatDoor
open Go.Fw
structure AgX where
  k : Nat
  I : Imm
  a : Option Addr
  cp : Nat
  xs : List Value
abbrev it0 : List Value := itCells 0 [] 0 nil0 nil0 nil0 0 0 0 nil0
theorem zero_item (w : World) : (zeroValue 59).run Tryz.prog w = .ok (.agg it0.toArray) w := by kernel_rfl
/-- what comes of a text and a file. -/
abbrev ToAgain (fresh err : Nat) (its : List Sp.Itm) : Value → Imm → List HItem → Prop := fun v I' H' => ∃ a cp xs, v = .tuple #[.agg [.slice a its.length cp].toArray, nt fresh, nt err] ∧ RowI I' 59 10 (.slice a its.length cp) its.length xs ∧ ItsAt I' its xs ∧ H' = []
theorem cuts_len (s : List UInt8) : (Sp.cuts s).length ≤ s.length := by
  obtain ⟨r, h1, h2⟩ := Sp.cuts_sub s (Sp.tokens s) []
  have e : Sp.cuts s = r := by rw [Sp.cuts, h1]; simp
  have := h2.length_le
  have := toks_len s
  rw [e]
  simp at *
  omega
set_option maxHeartbeats 8000000 in
theorem p_again0 (s : List UInt8) (I : Imm) (hC : Conv I) (hs : s.length ≤ 9223372036854775807) : CalM Tryz.prog 24 #[.agg [.slice none 0 0].toArray, str [], str s] I [] (ToAgain (Sp.fileItems s).length (Sp.fileErr s) (Sp.fileItems s)) := by
  refine CalM.of fun w E hm => enter (N := 127) Tryz.func24 rfl [(0, .agg [.slice none 0 0].toArray), (1, str []), (2, str s)] args3 rfl ?_
  by_cases hl : s.length > 4000
  · have he : Sp.fileErr s = 4 := by rw [Sp.fileErr, if_pos hl]
    have hi : Sp.fileItems s = [] := by rw [Sp.fileItems, he]; rfl
    rw [he, hi]
    repeat' (first
    | (refine m_ret3_agg hm (by rfl) (by rfl) (by rfl) (by rfl) (by first | exact gt0 | exact gt1 | exact gt2 | exact gt3 | exact gt4 | exact gt5 | exact gt6) (by rfl) ?_)
    | (refine m_box (d:=3) hm (k:=?_); clear hm; intro b3 _ hm)
    | (refine m_allocS (d:=6) hm (k:=?_); clear hm; intro b6 _ hm)
    | (refine m_storeAll hm (k:=?_); clear hm; intro _ hm; try simp only [setn] at hm)
    | refine op_move (k:=?_)
    | refine op_assign (k:=?_)
    | refine op_gtr (k:=?_)
    | refine op_len_str (k:=?_)
    | refine op_struct (k:=?_)
    | refine wl_nil ?_
    | refine at_then_normal ?_
    | refine at_then_ret ?_
    | refine wc_seq ?_
    | refine wc_region ?_
    | refine wc_ret ?_
    | (refine wc_cond_dec (ht:=fun _ => ?_) (hf:=fun _ => ?_)<;> (try first | contradiction | (exfalso; omega))))
    all_goals try (exfalso; omega)
    exact ⟨_, _, ⟨none, 0, [], rfl, rowI_nil _ _ _ _ _, rfl, rfl⟩, hm.left (H := [])⟩
  have hcl := cuts_len s
  repeat' (first
  | (refine m_makeMap hm (k:=?_); clear hm; intro bm _ hm)
  | (refine m_box (d:=3) hm (k:=?_); clear hm; intro b3 _ hm)
  | (refine m_allocS (d:=6) hm (k:=?_); clear hm; intro b6 _ hm)
  | refine m_load1 hm (k:=?_)
  | refine op_move (k:=?_)
  | refine op_assign (k:=?_)
  | refine op_gtr (k:=?_)
  | refine op_len_str (k:=?_)
  | refine op_len_slice (k:=?_)
  | refine op_fieldAddr (k:=?_)
  | refine wl_nil ?_
  | refine at_then_normal ?_
  | refine wc_seq ?_
  | refine wc_region ?_
  | refine wc_block ?_
  | refine wc_skip ?_
  | (refine wc_cond_dec (ht:=fun _ => ?_) (hf:=fun _ => ?_)<;> (try first | contradiction | (exfalso; omega))))
  all_goals try (exfalso; omega)
  refine wc_loop (fun _ : Unit => [(2, str s), (3, ptr b3), (6, ptr b6), (9, .map (some bm)), (26, nt 0), (27, nt 0)]) (fun _ w' => Mem E I [.mp bm [], .cell b6 [.slice none 0 0] 24, .cell b3 [.slice none 0 0] 24] w') (fun _ => 0) () (by exact ⟨rfl, rfl, rfl, rfl, rfl, rfl, trivial⟩) hm ?_
  clear hm
  rintro ⟨⟩ w1 hm
  repeat' (first
  | (refine op_call (hc:=by exact c_cuts s (by omega) _) (k:=?_); rintro tv wt ⟨hto, hkt⟩; obtain ⟨ta, tc, rfl⟩ := own_val hto; replace hm := hm.add (x := .row (.slice ta (Sp.cuts s).length tc) 3 1 (Sp.cuts s).length ((Sp.cuts s).flatMap encInt)) hkt (ownsRow_base hto (Nat.zero_le _)) (fun b hb => (hto.lt b hb).1))
  | (refine m_allocS (d:=12) hm (k:=?_); clear hm; intro b12 _ hm)
  | (refine m_push (d:=73) hm (k:=?_); clear hm; intro a73 cp73 _ _ hm; try simp only [setn] at hm)
  | refine op_move (k:=?_)
  | refine op_assign (k:=?_)
  | refine op_lss (k:=?_)
  | refine op_len_str (k:=?_)
  | refine op_len_slice (k:=?_)
  | refine op_sub (k:=?_)
  | refine wl_nil ?_
  | refine at_then_normal ?_
  | refine at_then_exit ?_
  | refine at_block_exit ?_
  | refine wc_seq ?_
  | refine wc_region ?_
  | refine wc_block ?_
  | refine wc_exit ?_
  | refine wc_cond_false (hf:=?_))
  all_goals try (exfalso; omega)
  obtain ⟨I2, hle2, hm2, hrow⟩ := hm.freeze
  clear hm hto hkt
  have hm := hm2.nil 59 10
  clear hm2
  obtain ⟨n, hn⟩ : ∃ n, n = (Sp.cuts s).length := ⟨_, rfl⟩
  have hcat : ∀ k, k < n → (Sp.cuts s).getD k 0 < (Sp.cuts s).getD (k + 1) s.length ∧ (Sp.cuts s).getD (k + 1) s.length ≤ s.length := fun k hk => Sp.cuts_at s (by omega)
  have hfl : (Sp.cuts s).flatMap encInt ++ [nt s.length] = (Sp.cuts s ++ [s.length]).flatMap encInt := by rw [List.flatMap_append]; rfl
  have hz1 : ∀ k, k < n → (Sp.cuts s ++ [s.length])[k]? = some ((Sp.cuts s).getD k 0) := fun k hk => by
    rw [List.getElem?_append_left (by omega), List.getD_eq_getElem?_getD, List.getElem?_eq_getElem (by omega)]; rfl
  have hz2 : ∀ k, k < n → (Sp.cuts s ++ [s.length])[k + 1]? = some ((Sp.cuts s).getD (k + 1) s.length) := fun k hk => by
    rcases Nat.lt_or_ge (k + 1) (Sp.cuts s).length with h | h
    · rw [List.getElem?_append_left h, List.getD_eq_getElem?_getD, List.getElem?_eq_getElem h]; rfl
    · rw [List.getElem?_append_right h, show k + 1 - (Sp.cuts s).length = 0 by omega, List.getD_eq_getElem?_getD, List.getElem?_eq_none h]; rfl
  have hsm : ∀ k, (Sp.piece s (Sp.cuts s) k).length ≤ 1048576 := fun k => by rw [Sp.piece, List.length_take, List.length_drop]; omega
  have hits0 : Sp.items s (Sp.cuts s) = (List.range n).map (Sp.itemAt s (Sp.cuts s)) := by rw [Sp.items, hn]
  have herr : 30 < n → Sp.fileErr s = 5 ∧ Sp.fileItems s = [] := fun h => by
    have : Sp.fileErr s = 5 := by rw [Sp.fileErr, if_neg hl, if_pos (by omega)]
    exact ⟨this, by rw [Sp.fileItems, this]; rfl⟩
  have hok : n ≤ 30 → Sp.fileErr s = 0 ∧ Sp.fileItems s = Sp.items s (Sp.cuts s) := fun h => by
    have : Sp.fileErr s = 0 := by rw [Sp.fileErr, if_neg hl, if_neg (by omega)]
    exact ⟨this, by rw [Sp.fileItems, this]; rfl⟩
  change RowI I2 3 1 (.slice a73 ((Sp.cuts s).length + 1) cp73) ((Sp.cuts s).length + 1) ((Sp.cuts s).flatMap encInt ++ [nt s.length]) at hrow
  rw [hfl, ← hn] at hrow
  rw [← hn] at hcl ⊢
  generalize Sp.fileErr s = er at herr hok ⊢
  generalize Sp.fileItems s = its at herr hok ⊢
  clear hn hfl
  have hsmall : ∀ k, (Sp.itemAt s (Sp.cuts s) k).small := fun k => Sp.item_small _ _ (hsm k)
  generalize Sp.cuts s = cz at hrow hcat hz1 hz2 hits0 hok hsm hsmall
  refine wc_loop (fun x : AgX => [(2, str s), (6, ptr b6), (9, .map (some bm)), (12, ptr b12), (13, nt x.k), (14, .slice a73 (n + 1) cp73), (76, .int .i64 (((n + 1 : Nat) : Int) - 1)), (77, nt x.k)])
    (fun x w' => Mem E x.I [itRow x.k x.a x.cp x.xs, .cell b12 [.slice x.a x.k x.cp] 24, .mp bm [], .cell b6 [.slice none 0 0] 24, .cell b3 [.slice none 0 0] 24] w' ∧ Le I2 x.I ∧ ItsAt x.I ((List.range x.k).map (Sp.itemAt s cz)) x.xs ∧ x.k ≤ n ∧ x.k ≤ 30)
    (fun x => n - x.k) ⟨0, I2, none, 0, []⟩ (by exact ⟨rfl, rfl, rfl, rfl, rfl, rfl, rfl, rfl, trivial⟩) ⟨hm, Le.refl _, rfl, Nat.zero_le _, by dsimp only; omega⟩ ?_
  clear hm
  rintro ⟨k, I3, a, cp, xs⟩ w2 ⟨hm, hle3, hits, hk, hk30⟩
  dsimp only at hm hle3 hits hk hk30 ⊢
  have hrow2 := hrow.le hle3
  by_cases hlt : k < n
  · by_cases h30 : k = 30
    · obtain ⟨he, hi⟩ := herr (by omega)
      subst he; subst hi
      repeat' (first
      | (refine m_ret3_agg hm (by rfl) (by rfl) (by rfl) (by rfl) (by first | exact gt0 | exact gt1 | exact gt2 | exact gt3 | exact gt4 | exact gt5 | exact gt6) (by rfl) ?_)
      | refine m_load1 hm (k:=?_)
      | (refine m_storeAll hm (k:=?_); clear hm; intro _ hm; try simp only [setn] at hm)
      | refine op_move (k:=?_)
      | refine op_assign (k:=?_)
      | refine op_lss (k:=?_)
      | refine op_eql (k:=?_)
      | refine op_len_slice (k:=?_)
      | refine op_fieldAddr (k:=?_)
      | refine op_struct (k:=?_)
      | refine wl_nil ?_
      | refine at_then_normal ?_
      | refine at_then_ret ?_
      | refine at_block_ret ?_
      | refine wc_seq ?_
      | refine wc_region ?_
      | refine wc_block ?_
      | refine wc_skip ?_
      | refine wc_ret ?_
      | (refine wc_cond_dec (ht:=fun _ => ?_) (hf:=fun _ => ?_)<;> (try first | contradiction | (exfalso; omega))))
      all_goals try (exfalso; omega)
      exact ⟨_, _, ⟨none, 0, [], rfl, rowI_nil _ _ _ _ _, rfl, rfl⟩, hm.left (H := [])⟩
    · have hca := hcat k hlt
      have hza : (cz ++ [s.length])[((k : Nat) : Int).toNat]? = some (cz.getD k 0) := by rw [Int.toNat_natCast]; exact hz1 k hlt
      have hzb : (cz ++ [s.length])[(((k : Nat) : Int) + 1).toNat]? = some (cz.getD (k + 1) s.length) := by
        rw [show (((k : Nat) : Int) + 1).toNat = k + 1 by omega]; exact hz2 k hlt
      have hit := p_item (Sp.piece s cz k) ((cz.getD k 0 : Nat) : Int) I3 ((hC.le hle2).le hle3) (hsm k)
      rw [show Sp.item (Sp.piece s cz k) ((cz.getD k 0 : Nat) : Int) = Sp.itemAt s cz k from rfl, Sp.piece] at hit
      have hat : (Sp.itemAt s cz k).at_ = ((cz.getD k 0 : Nat) : Int) := Sp.item_at _ _
      have hsk := hsmall k
      have hsn := Sp.items_snoc s cz k
      generalize Sp.itemAt s cz k = it at hit hat hsk hsn
      generalize cz.getD (k + 1) s.length = e2 at hca hzb hit
      generalize cz.getD k 0 = e1 at hca hza hit hat
      clear hsmall hsm hcat hz1 hz2 hits0 herr hok
      repeat' (first
      | (refine wc_semi_mem (id:=24) (hm.perm pm1_1) 3 6 (h:=?_); clear hm; intro wd hR hm)
      | (refine iq_indexFlat (d:=88) (enc:=encInt) (z:=e1) (hr:=hrow2) (he:=fun _ => rfl) (hz:=hza) (k:=?_); intro bt ot hpt)
      | (refine iq_indexFlat (d:=93) (enc:=encInt) (z:=e2) (hr:=hrow2) (he:=fun _ => rfl) (hz:=hzb) (k:=?_); intro bt2 ot2 hpt2)
      | (refine m_lookup2 hm (by rfl) (by rfl) (by rfl) (by rfl) (by first | exact gt0 | exact gt1 | exact gt2 | exact gt3 | exact gt4 | exact gt5 | exact gt6) (by exact List.nodup_nil) zero_item ?_)
      | (refine i_indexFlat (d:=109) (enc:=encInt) (z:=e1) (hr:=hrow2) (he:=fun _ => rfl) (hz:=hza) (k:=?_); intro bt3 ot3 hpt3)
      | (refine m_call hm (hc:=hit) (k:=?_); clear hm; rintro _ I4 _ _ ⟨_, rfl, ⟨ap, cp1, as_, cs1, ab, cb, ad, cd, xb, rfl, r1, r2, r3, r4, r5⟩, rfl⟩ hle hm; have hleI4 := hle; try simp only [setn] at hm)
      | (refine i_indexFlat (d:=114) (enc:=encInt) (z:=e1) (hr:=hrow2.le hleI4) (he:=fun _ => rfl) (hz:=hza) (k:=?_); intro bt4 ot4 hpt4)
      | (refine mt_call (d:=120) hm (hc:=p_own it hsk _ _ ⟨ap, cp1, as_, cs1, ab, cb, ad, cd, xb, by rw [hat], r1, r2, r3, r4, r5⟩) (k:=?_); clear hm; rintro _ I5 _ _ ⟨_, rfl, ⟨ap2, cp2, as2, cs2, ab2, cb2, ad2, cd2, xb2, rfl, q1, q2, q3, q4, q5⟩, rfl⟩ hle hm; have hleI5 := hle; try simp only [setn] at hm)
      | refine mw_loadAll hR (k:=?_)
      | refine mw_load1 hR (k:=?_)
      | (refine mt_push (d:=122) hm (k:=?_); clear hm; intro a122 cp122 _ _ hm; replace hm := hR.back hm; clear hR; try simp only [setn] at hm)
      | (refine m_varS (d:=17) hm (k:=?_); clear hm; intro b17 _ hm)
      | refine m_load1 hm (k:=?_)
      | refine i_load1z hm (k:=?_)
      | refine iq_load1z hm (k:=?_)
      | (refine m_storeAll hm (k:=?_); clear hm; intro _ hm; try simp only [setn] at hm)
      | (refine m_store1 hm (k:=?_); clear hm; intro _ hm; try simp only [setn] at hm)
      | refine op_move (k:=?_)
      | refine op_assign (k:=?_)
      | refine op_lss (k:=?_)
      | refine op_eql (k:=?_)
      | refine op_len_slice (k:=?_)
      | refine op_not (k:=?_)
      | refine op_extract (k:=?_)
      | refine op_add (k:=?_)
      | refine op_fieldAddr (k:=?_)
      | refine wl_nil ?_
      | refine at_then_normal ?_
      | refine at_block_normal ?_
      | refine wc_seq ?_
      | refine wc_region ?_
      | refine wc_block ?_
      | refine wc_skip ?_
      | refine wc_quiet (h:=?_)
      | (refine wq_nil ?_; intro _ hkq; replace hm := hm.kept0 hkq; clear hkq)
      | refine wc_cond_true (ht:=?_)
      | (refine wc_cond_dec (ht:=fun _ => ?_) (hf:=fun _ => ?_)<;> (try first | contradiction | (exfalso; omega)))
      | refine q_move (k:=?_)
      | refine q_assign (k:=?_)
      | refine q_add (k:=?_)
      | refine q_slice_str (k:=?_)
      | refine v_fieldAddr (k:=?_)
      | refine wv_nil ?_)
      all_goals try (exfalso; first | omega | contradiction)
      refine at_round (⟨k + 1, I5, _, _, _⟩ : AgX) (by exact ⟨rfl, rfl, rfl, rfl, rfl, rfl, rfl, rfl, trivial⟩) ⟨(hm.front 1 rfl).tl, (hle3.trans hleI4).trans hleI5, ?_, by dsimp only; omega, by dsimp only; omega⟩ (by dsimp only; omega)
      dsimp only
      rw [hsn]
      exact (hits.le (hleI4.trans hleI5)).snoc ⟨ap2, cp2, as2, cs2, ab2, cb2, ad2, cd2, xb2, rfl, q1, q2, q3, q4, q5⟩
  · obtain rfl : k = n := by omega
    obtain ⟨he, hi⟩ := hok hk30
    subst he; subst hi
    have hln : (Sp.items s cz).length = k := by rw [hits0]; simp
    repeat' (first
    | (refine m_ret3_agg hm (by rfl) (by rfl) (by rfl) (by rfl) (by first | exact gt0 | exact gt1 | exact gt2 | exact gt3 | exact gt4 | exact gt5 | exact gt6) (by rfl) ?_)
    | refine m_loadAll hm (k:=?_)
    | (refine m_storeAll hm (k:=?_); clear hm; intro _ hm; try simp only [setn] at hm)
    | refine op_move (k:=?_)
    | refine op_assign (k:=?_)
    | refine op_lss (k:=?_)
    | refine wl_nil ?_
    | refine at_then_normal ?_
    | refine at_then_exit ?_
    | refine at_block_exit ?_
    | refine wc_seq ?_
    | refine wc_region ?_
    | refine wc_exit ?_
    | refine wc_ret ?_
    | (refine wc_cond_dec (ht:=fun _ => ?_) (hf:=fun _ => ?_)<;> (try first | contradiction | (exfalso; omega))))
    all_goals try (exfalso; omega)
    obtain ⟨I4, hle4, hm4, hrow4⟩ := (hm.front 0 rfl).freeze
    refine ⟨I4, [], ⟨a, cp, xs, ?_, ?_, by rw [hits0]; exact hits.le hle4, rfl⟩, hm4.left (H := [])⟩
    · rw [hln]; rfl
    · rw [hln]; exact hrow4
theorem p_file (s : List UInt8) (I : Imm) (hC : Conv I) (hs : s.length ≤ 9223372036854775807) : CalM Tryz.prog 6 #[str s] I [] (ToFile (Sp.fileErr s) (Sp.fileItems s)) := by
  refine CalM.of fun w E hm => enter (N := 16) Tryz.func6 rfl [(0, str s)] args1 rfl ?_
  repeat' (first
  | (refine m_call hm (hc:=p_again0 s I hC hs) (k:=?_); clear hm; rintro _ I2 _ _ ⟨a, cp, xs, rfl, hrow, hits, rfl⟩ hle hm; have hleI2 := hle; try simp only [setn] at hm)
  | (refine m_allocS (d:=2) hm (k:=?_); clear hm; intro b2 _ hm)
  | (refine m_varS (d:=4) hm (k:=?_); clear hm; intro b4 _ hm)
  | refine m_loadAll hm (k:=?_)
  | (refine m_storeAll hm (k:=?_); clear hm; intro _ hm; try simp only [setn] at hm)
  | refine m_ret2_agg hm (h:=?_)
  | refine op_move (k:=?_)
  | refine op_assign (k:=?_)
  | refine op_extract (k:=?_)
  | refine op_struct (k:=?_)
  | refine wl_nil ?_
  | refine at_then_normal ?_
  | refine wc_seq ?_
  | refine wc_region ?_
  | refine wc_ret ?_)
  exact ⟨I2, [], ⟨a, cp, xs, rfl, hrow, hits, rfl⟩, hm.left (H := [])⟩
end Go.Proofs.YtkbiakajlfmakaaGreatDoor
end
section
namespace Go.Sp
def idxV (F : Itm → Bool) (its : List Itm) : Int := match its.findIdx? F with
  | some j => (j : Int)
  | none => -1
def findV (its : List Itm) (k : Int) (n : List UInt8) : Int := match findIt its k n with
  | some j => (j : Int)
  | none => -1
theorem idxV_at {F : Itm → Bool} {its : List Itm} {k : Nat} {it : Itm} (h : its[k]? = some it) (hF : F it = true) (hb : ∀ j it', j < k → its[j]? = some it' → F it' = false) : idxV F its = k := by
  have : its.findIdx? F = some k := by
    rw [List.findIdx?_eq_some_iff_getElem]
    obtain ⟨hk, e⟩ := List.getElem?_eq_some_iff.1 h
    refine ⟨hk, by rw [e]; exact hF, fun j hj => ?_⟩
    have := hb j its[j] hj (List.getElem?_eq_getElem (by omega))
    rw [this]; simp
  rw [idxV, this]
theorem idxV_none {F : Itm → Bool} {its : List Itm} (hb : ∀ j it', j < its.length → its[j]? = some it' → F it' = false) : idxV F its = -1 := by
  have : its.findIdx? F = none := by
    rw [List.findIdx?_eq_none_iff]
    intro x hx
    obtain ⟨j, hj, rfl⟩ := List.getElem_of_mem hx
    exact hb j _ hj (List.getElem?_eq_getElem hj)
  rw [idxV, this]
end Go.Sp
namespace Go.Fw
open Go
section
variable {P : Program} {N : Nat} {ds : List Deferred} {Q : Exit → Act → World → Prop} {l : Log} {w : World} {ops : Array Oper} {os : List Oper}
variable {d : Nat} {ty : TypeId} {pos : String} {af : Array Edge} {g : Option (Nat × Bool)} {t : TypeId} {x y : Operand} {E : Ent} {I : Imm} {H R G : List HItem}
/-- a call of what is a value. -/
theorem m_callv {c : Operand} {f : FuncId} [Own P f] {xs : List Operand} {tys : Array TypeId} {vs ca : List Value} {Post : Value → Imm → List HItem → Prop} (hm : Mem E I G w)
    (hw : want ops l ⟨some d, .call ⟨.value c, xs.toArray, tys⟩, ty, pos, af, g⟩ = some true := by rfl) (hN : Nat.blt d N = true := by rfl)
    (hf : ev l c = some (.func (.func f) #[] ca.toArray) := by rfl) (hx : evs l xs = some vs := by rfl) (hp : G.Perm (H ++ R)) (hc : CalM P f (vs ++ ca).toArray I H Post)
    (k : ∀ v I' H' w', Post v I' H' → Le I I' → Mem E I' (H' ++ R) w' → WL P N ds ops Q os ((d, v) :: l) w') :
    WL P N ds ops Q (⟨some d, .call ⟨.value c, xs.toArray, tys⟩, ty, pos, af, g⟩ :: os) l w :=
  op_callv hw hN hf hx (hc.run w (hm.perm hp).sub) (fun v w' ⟨I', H', h1, h2⟩ => k v I' H' w' h1 h2.le ((hm.perm hp).back h2))
/-- a part of what does not turn. -/
theorem PtrI.sub {b off ty : Nat} {cs cs' : List Value} (h : PtrI I b off ty cs) (k : Nat) (hs : ∀ j u, cs'[j]? = some u → cs[k + j]? = some u) : PtrI I b (off + k) ty cs' := by
  obtain ⟨c, fr, h1, h2⟩ := h
  exact ⟨c, fr, h1, fun j u hj => by rw [Nat.add_assoc]; exact h2 _ _ (hs j u hj)⟩
theorem CalM.read {f : FuncId} {args : Array Value} {v : Value} (h : CalM P f args I [] (fun u _ H' => u = v ∧ H' = [])) : CalR P f args I [] v :=
  ⟨fun w hI _ => (h.run w (Mem.start hI)).mono (fun _ _ ⟨_, _, ⟨h1, _⟩, h2⟩ => ⟨h1, h2.kept⟩)⟩
end
end Go.Fw
namespace Go.Proofs.YtkbiakajlfmakaaGreatDoor
open Go.Fw
structure NI where
  k : Nat
  I : Imm
/-- a file's items. -/
structure FE (I : Imm) (its : List Sp.Itm) (a : Option Addr) (cp : Nat) (xs : List Value) : Prop where
  row : RowI I 59 10 (.slice a its.length cp) its.length xs
  ats : ItsAt I its xs
  few : its.length ≤ 64
theorem FE.le {I I' : Imm} {its : List Sp.Itm} {a : Option Addr} {cp : Nat} {xs : List Value} (h : FE I its a cp xs) (m : Le I I') : FE I' its a cp xs := ⟨h.row.le m, h.ats.le m, h.few⟩
theorem FE.get {I : Imm} {its : List Sp.Itm} {a : Option Addr} {cp : Nat} {xs : List Value} (h : FE I its a cp xs) {k : Nat} {it : Sp.Itm} (hg : its[k]? = some it) : ∃ cs, (xs.drop (k * 10)).take 10 = cs ∧ ItAt I it cs ∧ cs.length = 10 :=
  ⟨_, rfl, h.ats.get hg, (h.ats.get hg).len⟩
theorem n_findC (I : Imm) (k : Int) (n : List UInt8) (bk bn : Nat) (hk : PtrI I bk 0 3 [.int .i64 k]) (hn : PtrI I bn 0 9 [str n]) (it : Sp.Itm) (cs : List Value) (hi : ItAt I it cs) :
    CalM Tryz.prog 26 #[.agg cs.toArray, ptr bk, ptr bn] I [] (fun v _ H' => v = .bool (Sp.itIs k n it) ∧ H' = []) := by
  obtain ⟨ap, cp, as_, cs', ab, cb, ad, cd, xb, rfl, r1, r2, r3, r4, r5⟩ := hi
  refine CalM.of fun w E hm => enter (N := 19) Tryz.func26 rfl [(0, .agg (itCells it.kind it.name it.label (.slice ap it.params.length cp) (.slice as_ it.sends.length cs') (.slice ab it.body.length cb) it.at_ it.size it.mark (.slice ad it.diags.length cd)).toArray), (1, ptr bk), (2, ptr bn)] args3 rfl ?_
  repeat' (first
  | (refine m_box (d:=3) hm (k:=?_); clear hm; intro b3 _ hm)
  | refine m_load1 hm (k:=?_)
  | refine i_load1z hm (k:=?_)
  | refine op_move (k:=?_)
  | refine op_assign (k:=?_)
  | refine op_pick_true (k:=?_)
  | refine op_pick_false (k:=?_)
  | refine op_eql (k:=?_)
  | refine op_eql_str (k:=?_)
  | refine op_neq_str (k:=?_)
  | refine op_fieldAddr (k:=?_)
  | refine wl_skip (k:=?_)
  | (refine wl_split_dec (h1:=fun _ => ?_) (h0:=fun _ => ?_)<;> (try first | contradiction | (exfalso; omega)))
  | refine wl_nil ?_
  | refine at_then_normal ?_
  | refine wc_seq ?_
  | refine wc_region ?_
  | refine wc_ret ?_
  | refine at_ret1 (h:=?_))
  all_goals (refine ⟨I, [], ⟨congrArg Value.bool ?_, rfl⟩, hm.left (H := [])⟩; simp_all [Sp.itIs])
set_option maxHeartbeats 4000000 in
theorem n_index (fi : FuncId) [Own Tryz.prog fi] (ca : List Value) (F : Sp.Itm → Bool) (its : List Sp.Itm) (I : Imm) (a : Option Addr) (cp : Nat) (xs : List Value) (h : FE I its a cp xs)
    (hF : ∀ I', Le I I' → ∀ it cs, ItAt I' it cs → CalM Tryz.prog fi (.agg cs.toArray :: ca).toArray I' [] (fun v _ H' => v = .bool (F it) ∧ H' = [])) :
    CalM Tryz.prog 25 #[.slice a its.length cp, .func (.func fi) #[] ca.toArray] I [] (fun v _ H' => v = .int .i64 (Sp.idxV F its) ∧ H' = []) := by
  refine CalM.of fun w E hm => enter (N := 19) Tryz.func25 rfl [(0, .slice a its.length cp), (1, .func (.func fi) #[] ca.toArray)] args2 rfl ?_
  have hfew := h.few
  repeat' (first
  | refine op_move (k:=?_)
  | refine op_assign (k:=?_)
  | refine op_len_slice (k:=?_)
  | refine wl_nil ?_
  | refine at_then_normal ?_
  | refine wc_seq ?_
  | refine wc_region ?_
  | refine wc_block ?_)
  refine wc_loop (fun x : NI => [(0, .slice a its.length cp), (1, .func (.func fi) #[] ca.toArray), (7, nt its.length), (8, nt x.k)])
    (fun x w' => Mem E x.I [] w' ∧ Le I x.I ∧ x.k ≤ its.length ∧ ∀ j it', j < x.k → its[j]? = some it' → F it' = false) (fun x => its.length - x.k) ⟨0, I⟩ (by exact ⟨rfl, rfl, rfl, rfl, trivial⟩) ⟨hm, Le.refl _, Nat.zero_le _, fun j _ hj => absurd hj (Nat.not_lt_zero j)⟩ ?_
  clear hm
  rintro ⟨k, I1⟩ w1 ⟨hm, hle1, hk, hno⟩
  dsimp only at hm hle1 hk hno ⊢
  by_cases hlt : k < its.length
  · have hg : its[k]? = some its[k] := List.getElem?_eq_getElem hlt
    obtain ⟨cs, hcs, hat, hl10⟩ := (h.le hle1).get hg
    have hri := (h.le hle1).row
    have hc := hF I1 hle1 _ cs hat
    generalize its[k] = it at hg hat hc
    cases hb : F it with
    | true =>
      rw [hb] at hc
      repeat' (first
      | (refine i_indexAddr (d:=14) (hr:=hri) (k:=?_); intro bt ot hpt; rw [show ((k : Int).toNat * 10) = k * 10 from rfl, hcs] at hpt)
      | (refine i_loadN (d:=15) hm (hp:=hpt) (hc:=by exact hl10) (k:=?_))
      | (refine m_callv (d:=16) hm (hp:=pm0) (hc:=by exact hc) (k:=?_); clear hm; rintro _ I2 _ _ ⟨rfl, rfl⟩ hle hm)
      | refine op_move (k:=?_)
      | refine op_assign (k:=?_)
      | refine op_lss (k:=?_)
      | refine wl_nil ?_
      | refine at_then_normal ?_
      | refine at_then_ret ?_
      | refine at_block_ret ?_
      | refine wc_seq ?_
      | refine wc_region ?_
      | refine wc_block ?_
      | refine wc_skip ?_
      | refine wc_ret ?_
      | refine at_ret1 (h:=?_)
      | refine wc_cond_true (ht:=?_)
      | (refine wc_cond_dec (ht:=fun _ => ?_) (hf:=fun _ => ?_)<;> (try first | contradiction | (exfalso; omega))))
      all_goals try (exfalso; omega)
      exact ⟨I2, [], ⟨by rw [Sp.idxV_at hg hb hno], rfl⟩, hm.left (H := [])⟩
    | false =>
      rw [hb] at hc
      repeat' (first
      | (refine i_indexAddr (d:=14) (hr:=hri) (k:=?_); intro bt ot hpt; rw [show ((k : Int).toNat * 10) = k * 10 from rfl, hcs] at hpt)
      | (refine i_loadN (d:=15) hm (hp:=hpt) (hc:=by exact hl10) (k:=?_))
      | (refine m_callv (d:=16) hm (hp:=pm0) (hc:=by exact hc) (k:=?_); clear hm; rintro _ I2 _ _ ⟨rfl, rfl⟩ hle hm)
      | refine op_move (k:=?_)
      | refine op_assign (k:=?_)
      | refine op_lss (k:=?_)
      | refine op_add (k:=?_)
      | refine wl_nil ?_
      | refine at_then_normal ?_
      | refine at_block_normal ?_
      | refine wc_seq ?_
      | refine wc_region ?_
      | refine wc_block ?_
      | refine wc_skip ?_
      | refine wc_cond_false (hf:=?_)
      | (refine wc_cond_dec (ht:=fun _ => ?_) (hf:=fun _ => ?_)<;> (try first | contradiction | (exfalso; omega))))
      all_goals try (exfalso; omega)
      refine at_round (⟨k + 1, I2⟩ : NI) (by exact ⟨rfl, rfl, rfl, rfl, trivial⟩) ⟨hm.left (H := []), hle1.trans hle, by dsimp only; omega, fun j it' hj hg' => ?_⟩ (by dsimp only; omega)
      rcases Nat.lt_or_ge j k with hjk | hjk
      · exact hno j it' hjk hg'
      · obtain rfl : j = k := by dsimp only at hj; omega
        rw [hg] at hg'
        obtain rfl := Option.some.inj hg'
        exact hb
  · obtain rfl : k = its.length := by omega
    repeat' (first
    | refine op_assign (k:=?_)
    | refine op_lss (k:=?_)
    | refine wl_nil ?_
    | refine at_then_normal ?_
    | refine at_then_exit ?_
    | refine at_block_exit ?_
    | refine wc_seq ?_
    | refine wc_region ?_
    | refine wc_exit ?_
    | refine wc_ret ?_
    | refine at_ret1 (h:=?_)
    | (refine wc_cond_dec (ht:=fun _ => ?_) (hf:=fun _ => ?_)<;> (try first | contradiction | (exfalso; omega))))
    all_goals try (exfalso; omega)
    exact ⟨I1, [], ⟨by rw [Sp.idxV_none hno], rfl⟩, hm.left (H := [])⟩
theorem n_find (k : Int) (n : List UInt8) (its : List Sp.Itm) (I : Imm) (a : Option Addr) (cp : Nat) (xs : List Value) (h : FE I its a cp xs) :
    CalM Tryz.prog 7 #[.agg [.slice a its.length cp].toArray, .int .i64 k, str n] I [] (fun v _ H' => v = .int .i64 (Sp.findV its k n) ∧ H' = []) := by
  refine CalM.of fun w E hm => enter (N := 11) Tryz.func7 rfl [(0, .agg [.slice a its.length cp].toArray), (1, .int .i64 k), (2, str n)] args3 rfl ?_
  repeat' (first
  | (refine m_box (d:=3) hm (k:=?_); clear hm; intro b3 _ hm)
  | (refine m_box (d:=4) hm (k:=?_); clear hm; intro b4 _ hm)
  | (refine m_box (d:=5) hm (k:=?_); clear hm; intro b5 _ hm)
  | refine m_load1 hm (k:=?_)
  | refine op_assign (k:=?_)
  | refine op_makeFunc (k:=?_)
  | refine op_fieldAddr (k:=?_)
  | refine wl_nil ?_
  | refine at_then_normal ?_
  | refine wc_seq ?_
  | refine wc_region ?_)
  obtain ⟨I2, hle2, hm2, hpn⟩ := hm.freezeO
  obtain ⟨I3, hle3, hm3, hpk⟩ := hm2.freezeO
  clear hm hm2
  have hm := hm3
  clear hm3
  have hc := n_index 26 [ptr b4, ptr b5] (Sp.itIs k n) its I3 a cp xs ((h.le hle2).le hle3) (fun I' m it cs hi => n_findC I' k n b4 b5 (hpk.le m) ((hpn.le hle3).le m) it cs hi)
  repeat' (first
  | (refine m_call (d:=10) hm (hc:=hc) (k:=?_); clear hm; rintro _ I4 _ _ ⟨rfl, rfl⟩ hle hm; have hleI4 := hle; try simp only [setn] at hm)
  | refine op_assign (k:=?_)
  | refine wl_nil ?_
  | refine at_then_normal ?_
  | refine wc_ret ?_
  | refine at_ret1 (h:=?_))
  exact ⟨I4, [], ⟨rfl, rfl⟩, hm.left (H := [])⟩
end Go.Proofs.YtkbiakajlfmakaaGreatDoor
end
section
namespace Go.Sp
/-- a name stands there. -/
def stands (s : List UInt8) (a : Nat) (n : List UInt8) : Prop := a + n.length ≤ s.length ∧ (s.drop a).take n.length = n
theorem stands_nil {s : List UInt8} {a : Nat} (h : a ≤ s.length) : stands s a [] := ⟨by simpa using h, by simp⟩
def stE (s : List UInt8) : PE := fun k nm _ _ f _ => (k = 2 ∨ k = 4) → stands s f nm
def stS (s : List UInt8) : PS := fun k nm a _ _ _ _ => (k = 1 ∨ k = 2 ∨ k = 5) → stands s a nm
theorem tok_stands (src : List UInt8) (i : Nat) : stands src ((⟨tokens src, src.length⟩ : Src).tok i).pos ((⟨tokens src, src.length⟩ : Src).tok i).text := by
  rw [Src.tok]
  by_cases h : i < (tokens src).length
  · have hk := tokens_ok src (tokens src)[i] (List.getElem_mem h)
    simp only [List.getD_eq_getElem?_getD, List.getElem?_eq_getElem h, Option.getD_some]
    exact ⟨hk.fit, hk.text.symm⟩
  · simp only [List.getD_eq_getElem?_getD, List.getElem?_eq_none (Nat.le_of_not_lt h), Option.getD_none]
    exact stands_nil (Nat.le_refl _)
theorem named_stands (src : List UInt8) (s : St) : stands src ((⟨tokens src, src.length⟩ : Src).tok s.i).pos (s.named ⟨tokens src, src.length⟩).1 := by
  have h := tok_stands src s.i
  have h0 : stands src ((⟨tokens src, src.length⟩ : Src).tok s.i).pos [] := stands_nil (by have := h.1; omega)
  rw [St.named]
  split
  · exact h
  · split
    · exact h0
    · exact h0
theorem stE_at (src : List UInt8) : AtE ⟨tokens src, src.length⟩ (stE src) :=
  ⟨fun h => (by omega), fun i h => (by omega), fun i n _ _ h => (by omega), fun i _ _ => tok_stands src i, fun i j m _ _ _ => tok_stands src i, fun i k1 n1 v1 m1 f1 t1 k2 n2 v2 m2 f2 t2 _ _ _ h => (by omega)⟩
theorem stS_at (src : List UInt8) : AtS ⟨tokens src, src.length⟩ (stS src) :=
  ⟨fun h => (by omega), fun i s lb o j _ _ => named_stands src s, fun i j _ _ => tok_stands src i, fun k i j hk h => (by omega), fun i s j _ => named_stands src s⟩
/-- names of an item stand in the text. -/
structure ItS (s : List UInt8) (p : Nat) (q : List UInt8) (it : Itm) : Prop where
  at_ : it.at_ = p
  sub : ∀ a n, stands q a n → stands s (p + a) n
  body : stmsAll (stE q) (stS q) it.body
  params : ∀ x ∈ it.params, stands q x.at_ x.name
  sends : ∀ x ∈ it.sends, stands q x.at_ x.name
  mark : stands q it.mark it.name
def ItS0 (s : List UInt8) (it : Itm) : Prop := ∃ p q, ItS s p q it
theorem piece_stands (s : List UInt8) {c e : Nat} (hc : c ≤ s.length) (he : e ≤ s.length) {a : Nat} {n : List UInt8} (h : stands ((s.drop c).take (e - c)) a n) : stands s (c + a) n := by
  obtain ⟨h1, h2⟩ := h
  rw [List.length_take, List.length_drop] at h1
  refine ⟨by omega, ?_⟩
  rw [List.drop_take, List.take_take, List.drop_drop, Nat.min_eq_left (by omega)] at h2
  exact h2
theorem file_its (s : List UInt8) : ∀ it ∈ fileItems s, ItS0 s it := by
  intro it hit
  rw [fileItems] at hit
  split at hit
  · rw [items, List.mem_map] at hit
    obtain ⟨i, hi, rfl⟩ := hit
    have hi := List.mem_range.1 hi
    obtain ⟨c1, c2⟩ := cuts_at s hi
    have hall := item_all (src := piece s (cuts s) i) ((cuts s).getD i 0 : Nat) (stE_at _) (stS_at _) (r := fun x => stands (piece s (cuts s) i) x.at_ x.name) (t := fun x => stands (piece s (cuts s) i) x.at_ x.name) (fun s _ _ => named_stands _ s) (fun s => named_stands _ s)
    refine ⟨(cuts s).getD i 0, piece s (cuts s) i, ?_⟩
    rw [itemAt]
    refine ⟨item_at _ _, fun a n h => piece_stands s (by omega) c2 h, hall.body, hall.params, hall.sends, ?_⟩
    rcases hall.mark with ⟨h1, h2⟩ | ⟨st, h1, h2⟩
    · rw [h1]
      rcases h2 with ⟨j, h2⟩ | h2
      · rw [h2]; exact stands_nil (by have := (tok_stands (piece s (cuts s) i) j).1; omega)
      · rw [h2]; exact stands_nil (Nat.zero_le _)
    · rw [h1, h2]; exact named_stands _ st
  · cases hit
/-- a use: the name stands there, and where it is made. -/
def UseOk (s : List UInt8) (u : Us) : Prop := ∃ f d n, u.fr = ((f : Nat) : Int) ∧ u.to = ((f + n.length : Nat) : Int) ∧ u.df = ((d : Nat) : Int) ∧ n ≠ [] ∧ stands s f n ∧ stands s d n
def NW.ok (s : List UInt8) (w : NW) : Prop := ∀ u ∈ w.us, UseOk s u
theorem findIt_ok {s : List UInt8} {its : List Itm} (h : ∀ x ∈ its, ItS0 s x) {k : Int} {n : List UInt8} {j : Nat} (hf : findIt its k n = some j) : n ≠ [] ∧ ∃ d : Nat, (itNo its j).at_ + (itNo its j).mark = (d : Int) ∧ stands s d n := by
  obtain ⟨hj, h1, h2, h3, h4⟩ := findIt_lt hf
  obtain ⟨p, q, hi⟩ := h _ h4
  refine ⟨h3, p + (itNo its j).mark, by rw [hi.at_]; omega, ?_⟩
  have := hi.sub _ _ hi.mark
  rw [h2] at this
  exact this
end Go.Sp
end
section
namespace Go.Sp
section
variable {s q : List UInt8} {p : Nat} {its : List Itm} {sc : List Lc}
end
end Go.Sp
end
section
namespace Go.Sp
end Go.Sp
namespace Go.Fw
end Go.Fw
namespace Go.Proofs.YtkbiakajlfmakaaGreatDoor
open Go.Fw
abbrev encLn (l : Sp.Lc) : List Value := [str l.name, nt l.at_]
abbrev encUs (u : Sp.Us) : List Value := [.int .i64 u.fr, .int .i64 u.to, .int .i64 u.df]
abbrev usRow (us : List Sp.Us) (ua : Option Addr) (up : Nat) : HItem := .row (.slice ua us.length up) 39 3 us.length (us.flatMap encUs)
/-- what does not turn of it. -/
structure NRd (J : Imm) (bc bf : Nat) (pi : Value) (sc : List Sp.Lc) (sa : Option Addr) (sp : Nat) (v3 v4 : Value) : Prop where
  ptr : PtrI J bc 0 75 [ptr bf, pi, .slice sa sc.length sp, v3, v4]
  row : RowI J 142 2 (.slice sa sc.length sp) sc.length (sc.flatMap encLn)
theorem NRd.le {I J : Imm} (m : Le I J) {bc bf : Nat} {pi : Value} {sc : List Sp.Lc} {sa : Option Addr} {sp : Nat} {v3 v4 : Value} (h : NRd I bc bf pi sc sa sp v3 v4) : NRd J bc bf pi sc sa sp v3 v4 := ⟨h.ptr.le m, h.row.le m⟩
/-- what does not turn beside it; the text. -/
structure NC (I : Imm) (src : List UInt8) (p : Nat) (q : List UInt8) (its : List Sp.Itm) (it : Sp.Itm) (bf : Nat) (a : Option Addr) (cp : Nat) (xs : List Value) (pi : Value) : Prop where
  file : PtrI I bf 0 24 [.slice a its.length cp]
  fe : FE I its a cp xs
  item : ∃ bi oi tc ci, pi = .pointer (some ⟨bi, oi, none⟩) ∧ PtrI I bi oi tc ci ∧ ItAt I it ci
  len : src.length ≤ 4000
  st : Sp.ItS src p q it
  sts : ∀ x ∈ its, Sp.ItS0 src x
theorem NC.le {I J : Imm} (m : Le I J) {src : List UInt8} {p : Nat} {q : List UInt8} {its : List Sp.Itm} {it : Sp.Itm} {bf : Nat} {a : Option Addr} {cp : Nat} {xs : List Value} {pi : Value} (h : NC I src p q its it bf a cp xs pi) : NC J src p q its it bf a cp xs pi := by
  obtain ⟨h1, h2, ⟨bi, oi, tc, ci, e, h3, h4⟩, h5, h6, h7⟩ := h
  exact ⟨h1.le m, h2.le m, ⟨bi, oi, tc, ci, e, h3.le m, h4.le m⟩, h5, h6, h7⟩
section
variable {I : Imm} {bc bf sp dp up : Nat} {pi : Value} {sc : List Sp.Lc} {sa da ua : Option Addr} {s : Sp.NW}
end
end Go.Proofs.YtkbiakajlfmakaaGreatDoor
end
section
namespace Go.Sp
theorem locN_some {b : Int} {sc : List Lc} {a : Nat} {n : List UInt8} {s : NW} {l : Lc} (h : findLc sc n = some l) : locN b sc a n s = s.use b a n (b + l.at_) := by rw [locN, h]
theorem locN_none {b : Int} {sc : List Lc} {a : Nat} {n : List UInt8} {s : NW} (h : findLc sc n = none) : locN b sc a n s = if n = [] then s else s.tell a 6 n := by rw [locN, h]
theorem itmN_some {its : List Itm} {b k : Int} {a : Nat} {n : List UInt8} {s : NW} {j : Nat} (h : findIt its k n = some j) : itmN its b k a n s = s.use b a n ((itNo its j).at_ + (itNo its j).mark) := by rw [itmN, h]
theorem itmN_none {its : List Itm} {b k : Int} {a : Nat} {n : List UInt8} {s : NW} (h : findIt its k n = none) : itmN its b k a n s = if n = [] then s else s.tell a 6 n := by rw [itmN, h]
theorem mkN_some {n : List UInt8} {a : Nat} {sc : List Lc} {s : NW} {l : Lc} (hn : n ≠ []) (h : findLc sc n = some l) : mkN n a sc s = (sc ++ [⟨n, a⟩], s.tell a 7 n) := by rw [mkN, if_neg hn, h]
theorem mkN_none {n : List UInt8} {a : Nat} {sc : List Lc} {s : NW} (hn : n ≠ []) (h : findLc sc n = none) : mkN n a sc s = (sc ++ [⟨n, a⟩], s) := by rw [mkN, if_neg hn, h]
end Go.Sp
namespace Go.Proofs.YtkbiakajlfmakaaGreatDoor
open Go.Fw
section
variable {I : Imm} {bc bf sp dp up : Nat} {pi : Value} {sc : List Sp.Lc} {sa da ua : Option Addr} {s : Sp.NW}
variable {src : List UInt8} {p : Nat} {q : List UInt8} {its : List Sp.Itm} {it : Sp.Itm} {a : Option Addr} {cp : Nat} {xs : List Value}
end
end Go.Proofs.YtkbiakajlfmakaaGreatDoor
end
section
namespace Go.Fw
open Go
def mput (es : Ents) (s : List UInt8) (v : Value) : Ents := match es.findIdx? (fun p => decide (p.1 = s)) with
  | some i => es.set i (s, v)
  | none => es ++ [(s, v)]
theorem ents_modify (es : Ents) (i : Nat) (s : List UInt8) (v : Value) : (entsOf es 0).toArray.modify i (fun e => { e with key := str s, val := v }) = (entsOf (es.set i (s, v)) 0).toArray := by
  apply Array.ext_getElem?
  intro j
  rw [Array.getElem?_modify]
  simp only [entsOf, List.getElem?_toArray, List.getElem?_map, List.getElem?_zipIdx, List.getElem?_set]
  by_cases h : i = j
  · subst h
    rw [if_pos rfl, if_pos rfl]
    by_cases h2 : i < es.length
    · rw [if_pos h2, List.getElem?_eq_getElem h2]; rfl
    · rw [if_neg h2, List.getElem?_eq_none (by omega)]; rfl
  · rw [if_neg h, if_neg h]
theorem mput_nodup {es : Ents} {s : List UInt8} {v : Value} (h : (es.map (·.1)).Nodup) : ((mput es s v).map (·.1)).Nodup := by
  rw [mput]
  cases hf : es.findIdx? (fun p => decide (p.1 = s)) with
  | some i =>
    obtain ⟨hi, hs, _⟩ := List.findIdx?_eq_some_iff_getElem.1 hf
    have hs' : es[i].1 = s := by simpa using hs
    have : (es.set i (s, v)).map (·.1) = es.map (·.1) := by
      apply List.ext_getElem?
      intro j
      simp only [List.getElem?_map, List.getElem?_set]
      split
      · rename_i h
        subst h
        rw [List.getElem?_eq_getElem hi]
        simp [hs']
      · rfl
    dsimp only
    rw [this]
    exact h
  | none =>
    dsimp only
    rw [List.map_append, List.nodup_append]
    refine ⟨h, by simp, fun a h1 b h2 => ?_⟩
    simp only [List.map_cons, List.map_nil, List.mem_singleton] at h2
    subst h2
    rintro rfl
    obtain ⟨p, hp, hps⟩ := List.mem_map.1 h1
    have := List.findIdx?_eq_none_iff.1 hf p hp
    simp [hps] at this
section
variable {P : Program} {N : Nat} {ds : List Deferred} {Q : Exit → Act → World → Prop} {l : Log} {w : World} {ops : Array Oper} {os : List Oper}
variable {d : Nat} {ty : TypeId} {pos : String} {af : Array Edge} {g : Option (Nat × Bool)} {t t' : TypeId} {x y z : Operand} {E : Ent} {I : Imm} {H : List HItem}
theorem m_put {kt et : TypeId} [TyMap P t kt et] [TyStr P kt] {i b : Nat} {es : Ents} {s : List UInt8} {v : Value} {dst : Option Nat} (hm : Mem E I H w) (hd : dst = none) (hw : want ops l ⟨dst, .insert t x y z, ty, pos, af, g⟩ = some true)
    (hx : ev l x = some (.map (some b))) (hy : ev l y = some (str s)) (hz : ev l z = some v) (hi : H[i]? = some (.mp b es)) (hn : (es.map (·.1)).Nodup)
    (k : ∀ w', Mem E I (H.set i (.mp b (mput es s v))) w' → WL P N ds ops Q os l w') :
    WL P N ds ops Q (⟨dst, .insert t x y z, ty, pos, af, g⟩ :: os) l w := by
  cases hf : es.findIdx? (fun p => decide (p.1 = s)) with
  | none =>
    have hs : (es.map (·.1)).contains s = false := by
      rw [← Bool.not_eq_true, List.contains_iff_mem]
      intro h1
      obtain ⟨p, hp, hps⟩ := List.mem_map.1 h1
      have := List.findIdx?_eq_none_iff.1 hf p hp
      simp [hps] at this
    have e : mput es s v = es ++ [(s, v)] := by rw [mput, hf]
    rw [e] at k
    exact m_insertNew hm hd hw hx hy hz hi hn hs k
  | some j =>
    obtain ⟨hj, hsj, _⟩ := List.findIdx?_eq_some_iff_getElem.1 hf
    have hsj' : es[j].1 = s := by simpa using hsj
    have e : mput es s v = es.set j (s, v) := by rw [mput, hf]
    rw [e] at k
    have hget := hm.get hi
    subst hd
    refine wl_op hw fun a ha => ?_
    have h1 := run_underlying (P := P) (w := w) (TyMap.out (P := P) (t := t))
    have hk := TyStr.out (P := P) (t := kt)
    have h2 := run_findKey (P := P) (w := w) hk s es 0
    have h3 := run_checkKey (P := P) (w := w) hk s false
    have h4 := MapKept.run_getObj_map (P := P) hget
    rw [hf] at h2
    have hg : es[j]? = some es[j] := List.getElem?_eq_getElem hj
    simp only [Option.bind_some, hg, Option.map_some, Nat.zero_add] at h2
    have h5 := fun o' => MapKept.run_setObj_map (P := P) o' hget
    have hkey : (entsOf es 0).toArray[j]? = some { key := str s, val := es[j].2, born := j } := by
      simp [entsOf, List.getElem?_zipIdx, hg, hsj']
    have h6 : (Instr.keyThatStays (str s) (str s)).run P w = .ok (str s) w := by
      have : Instr.sameBits 10000 (str s) (str s) = true := (MapKept.bytes_beq _ _).2 rfl
      simp [Instr.keyThatStays, this]
    have hb := lt_of_heap hget
    have hkept : Kept [b] w { w with heap := w.heap.setIfInBounds b (.map ((entsOf es 0).toArray.modify j (fun e => { e with key := str s, val := v })) es.length) } :=
      ⟨rfl, rfl, rfl, by simp, fun i hi hx => by
        have : b ≠ i := by rintro rfl; simp at hx
        simp [Array.getElem?_setIfInBounds_ne this]⟩
    have hm' := hm.turn (h' := .mp b (es.set j (s, v))) hi (by simpa [HItem.blk] using hkept) (by
      show HItem.ok _ _
      have e2 := ents_modify es j s v
      simp only [HItem.ok, ← e2, List.length_set]
      simp [hb]) (.inl rfl)
    have h7 := (k _ hm').run _ ha
    simp only [Oper.wp, execOp, Instr.mapUpdate, ha.ev hx, ha.ev hy, ha.ev hz, Sem.run_bind, h1, Result.andThen_ok, h4, h3, h2, hkey, Option.map_some, Option.getD_some, h6, h5, Oper.upon_skip, Act.put, Sem.run_pure]
    simpa only [List.modify_toArray] using h7
theorem wl_mapUpdate {dst : Option Nat} (h : WL P N ds ops Q (⟨dst, .insert t x y z, ty, pos, af, g⟩ :: os) l w) : WL P N ds ops Q (⟨dst, .mapUpdate t x y z, ty, pos, af, g⟩ :: os) l w := ⟨fun a ha => h.run a ha⟩
end
end Go.Fw
end
