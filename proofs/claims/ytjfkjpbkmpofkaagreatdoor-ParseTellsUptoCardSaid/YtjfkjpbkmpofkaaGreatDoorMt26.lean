/- Own work: texts RpI, RpJ, FwFork, one behind the other. -/
import Derived.Test.YtjfkjpbkmpofkaaGreatDoorMt25
section
namespace Go.Proofs.YtjfkjpbkmpofkaaGreatDoor
open Go.Fw
set_option maxHeartbeats 8000000 in
theorem c_item (s : List UInt8) (at_ : Int) (I : Imm) (hs : s.length ≤ 1048576) : CalM Tryz.prog 9 #[str s, .int .i64 at_] I [] (ToIt (Sp.item s at_)) := by
  have hT := ok_tokens s hs
  rw [Sp.item_eq]
  generalize hTd : (Sp.Src.mk (Sp.tokens s) s.length) = T at hT ⊢
  have hsz : T.size = s.length := by rw [← hTd]
  have h2 := hT.size
  have h3 := hT.len
  obtain ⟨q, hq⟩ : ∃ q, q = Sp.itemQ T at_ s.length := ⟨_, rfl⟩
  rw [← hq]
  refine CalM.of fun w E hm => enter (N := 79) Tryz.func9 rfl [(0, str s), (1, .int .i64 at_)] args2 rfl ?_
  repeat' (first
    | (refine wc_midb 0 (fun x : ItX => [(4, ptr b4), (5, ptr b5), (6, ptr b17), (7, nt q.2.i)]) (fun x w' => q.2.i ≤ T.l.length ∧ q.2.ds.length ≤ 1099511626000 ∧ TokR x.I T ta tc ∧ RowI x.I 59 3 (.slice x.ap q.1.params.length x.cp) q.1.params.length (q.1.params.flatMap encPar) ∧ RowI x.I 61 2 (.slice x.as_ q.1.sends.length x.cs) q.1.sends.length (q.1.sends.flatMap encRf) ∧ RowI x.I 94 15 (.slice x.ab q.1.body.length x.cb) q.1.body.length x.xb ∧ StsAt x.I q.1.body x.xb ∧ Mem E x.I [pObj b17 ta tc T q.2.ds 0 x.da x.dc, dgRow q.2.ds x.da x.dc, .cell b5 (itV q.1 x) 36, .cell b4 (itCells 0 [] 0 nil0 nil0 nil0 0 0 0 nil0) 36] w') ?_ ?_)
    | (refine op_call (by rfl) (by rfl) (by rfl) (by exact c_rtokens s (by omega) _) ?_; rintro tv wt ⟨hto, hkt⟩; rw [Sp.rtokens_eq] at hto; obtain ⟨ta, tc, rfl⟩ := own_val hto; obtain ⟨I1, hle1, hm1, hrow⟩ := hm.take hkt hto; clear hm; have hm := hm1; clear hm1)
    | (refine m_allocS (d := 4) hm (by rfl) (by rfl) ?_; clear hm; intro b4 _ hm)
    | (refine m_varS (d := 5) hm (by rfl) (by rfl) (by rfl) (by rfl) (by rfl) ?_; clear hm; intro b5 _ hm)
    | (refine m_box (d := 17) hm (by rfl) (by rfl) (by rfl) (by rfl) ?_; clear hm; intro b17 _ hm)
    | refine op_move (by rfl) (by rfl) (by rfl) ?_
    | refine op_assign (by rfl) (by rfl) (by rfl) ?_
    | refine op_len_str (by rfl) (by rfl) (by rfl) ?_
    | refine op_struct (by rfl) (by rfl) (by rfl) (by rfl) ?_
    | refine wl_nil ?_
    | refine at_then_normal ?_
    | refine wc_seq ?_
    | refine wc_region ?_)
  · rename_i wB
    have hr : TokR I1 T ta tc := by rw [← hTd]; exact hrow
    have hm2 : Mem E I1 [pObj b17 ta tc T [] 0 none 0, .cell b5 (itCells 3 [] 0 nil0 nil0 nil0 at_ s.length 0 nil0) 36, .cell b4 (itCells 0 [] 0 nil0 nil0 nil0 0 0 0 nil0) 36] wB := by rw [← hTd]; exact hm
    have hm3 : Mem E I1 [pObj b17 ta tc T [] 0 none 0, dgRow [] none 0, .cell b5 (itCells 3 [] 0 nil0 nil0 nil0 at_ s.length 0 nil0) 36, .cell b4 (itCells 0 [] 0 nil0 nil0 nil0 0 0 0 nil0) 36] wB := (hm2.nil 83 4).swap
    clear hm hm2 hrow hto
    have hm := hm3
    clear hm3
    have hq1 := fun ds deep da dc => c_is (pb := b17) (ds := ds) (deep := deep) (da := da) (dc := dc) 0 [102, 110] hr
    have hq2 := fun ds deep da dc => c_is (pb := b17) (ds := ds) (deep := deep) (da := da) (dc := dc) 0 [99, 104, 97, 110] hr
    rw [Sp.itemQ] at hq
    by_cases hf : T.is 0 [102, 110] = true
    · rw [if_pos hf] at hq
      rw [hf] at hq1
      have hlt := Sp.is_lt hf
      have hfn := fun da dc => c_fn T b17 b5 hT I1 ta tc da dc ⟨1, []⟩ at_ s.length hr hlt rfl
      rw [← hq] at hfn
      repeat' (first
        | (refine m_readC hm (by rfl) (by rfl) (by rfl) (by first | exact sub_nil | exact sub1_0 | exact sub1_1 | exact sub1_2 | exact sub1_3 | exact sub2_0 | exact sub2_1 | exact sub2_2 | exact sub2_3 | exact sub2_4) (hq1 _ _ _ _) ?_; clear hm; intro _ hm)
        | (refine m_call hm (by rfl) (by rfl) (by rfl) (by first | exact pm0 | exact pm1_0 | exact pm1_1 | exact pm1_2 | exact pm1_3 | exact pm2_0 | exact pm2_1 | exact pm2_2 | exact pm2_3 | exact pm2_4 | exact pm3_0 | exact pm3_1 | exact pm3_2) (hfn _ _) ?_; clear hm; rintro _ I2 _ _ ⟨hqi, hqd, rfl, ap, cp, as_, cs, ab, cb, xb, da2, dc2, r1, r2, r3, r4, rfl⟩ hle hm; have hleI2 := hle; try simp only [setn] at hm)
        | refine op_move (by rfl) (by rfl) (by rfl) ?_
        | refine op_assign (by rfl) (by rfl) (by rfl) ?_
        | refine wl_nil ?_
        | refine at_then_normal ?_
        | refine at_block_normal ?_
        | refine wc_region ?_
        | refine wc_cond_true (by rfl) ?_)
      exact at_cut (⟨I2, da2, dc2, ap, cp, as_, cs, ab, cb, xb⟩ : ItX) (by exact ⟨rfl, rfl, rfl, rfl, trivial⟩) ⟨hqi, hqd, hr.le hleI2, r1, r2, r3, r4, hm⟩
    rw [if_neg hf] at hq
    rw [show T.is 0 [102, 110] = false by simpa using hf] at hq1
    by_cases hc : T.is 0 [99, 104, 97, 110] = true
    · rw [if_pos hc, Sp.chItm] at hq
      rw [hc] at hq2
      have hlt := Sp.is_lt hc
      dsimp only at hq
      have hnm := fun da dc => c_named (pb := b17) (deep := 0) (da := da) (dc := dc) ⟨1, []⟩ hr hT (by simp) hlt
      have hgn := Sp.goes_named T ⟨1, []⟩
      generalize (⟨1, []⟩ : Sp.St).named T = r at hnm hgn hq
      have hn1 := hgn.le
      have hn2 := hgn.top hlt
      have hn3 := hgn.ds
      dsimp only [List.length_nil] at hn1 hn3
      have hd1 := fun da dc => c_need (pb := b17) (deep := 0) (da := da) (dc := dc) r.2 [58] hr hT (by omega) hn2
      have hg1 := Sp.goes_need T r.2 [58]
      generalize (r.2.need T [58]) = s1 at hd1 hg1 hq
      have k1 := hg1.le
      have k2 := hg1.top hn2
      have k3 := hg1.ds
      have hlb := fun da dc => c_lab (pb := b17) (deep := 0) (da := da) (dc := dc) s1.2 hr hT k2 (by omega)
      have hgl := Sp.goes_lab T s1.2
      generalize Sp.lab T s1.2 = r2 at hlb hgl hq
      have k4 := hgl.le
      have k5 := hgl.top k2
      have k6 := hgl.ds
      have hd2 := fun da dc => c_need (pb := b17) (deep := 0) (da := da) (dc := dc) r2.2 [59] hr hT (by omega) k5
      have hg2 := Sp.goes_need T r2.2 [59]
      generalize (r2.2.need T [59]) = s3 at hd2 hg2 hq
      have k7 := hg2.le
      have k8 := hg2.top k5
      have k9 := hg2.ds
      subst hq
      repeat' (first
        | (refine m_readC hm (by rfl) (by rfl) (by rfl) (by first | exact sub_nil | exact sub1_0 | exact sub1_1 | exact sub1_2 | exact sub1_3 | exact sub2_0 | exact sub2_1 | exact sub2_2 | exact sub2_3 | exact sub2_4) (hq1 _ _ _ _) ?_; clear hm; intro _ hm)
        | (refine m_readC hm (by rfl) (by rfl) (by rfl) (by first | exact sub_nil | exact sub1_0 | exact sub1_1 | exact sub1_2 | exact sub1_3 | exact sub2_0 | exact sub2_1 | exact sub2_2 | exact sub2_3 | exact sub2_4) (hq2 _ _ _ _) ?_; clear hm; intro _ hm)
        | (refine m_readC hm (by rfl) (by rfl) (by rfl) (by first | exact sub_nil | exact sub1_0 | exact sub1_1 | exact sub1_2 | exact sub1_3 | exact sub2_0 | exact sub2_1 | exact sub2_2 | exact sub2_3 | exact sub2_4) (c_T 1 hr) ?_; clear hm; intro _ hm)
        | (refine m_call hm (by rfl) (by rfl) (by rfl) (by first | exact pm0 | exact pm1_0 | exact pm1_1 | exact pm1_2 | exact pm1_3 | exact pm2_0 | exact pm2_1 | exact pm2_2 | exact pm2_3 | exact pm2_4 | exact pm3_0 | exact pm3_1 | exact pm3_2) (hnm _ _) ?_; clear hm; rintro _ _ _ _ ⟨rfl, rfl, da1, dc1, rfl⟩ hle hm; try simp only [setn] at hm)
        | (refine m_call (d := 60) hm (by rfl) (by rfl) (by rfl) (by first | exact pm0 | exact pm1_0 | exact pm1_1 | exact pm1_2 | exact pm1_3 | exact pm2_0 | exact pm2_1 | exact pm2_2 | exact pm2_3 | exact pm2_4 | exact pm3_0 | exact pm3_1 | exact pm3_2) (hd2 _ _) ?_; clear hm; rintro _ _ _ _ ⟨rfl, rfl, da4, dc4, rfl⟩ hle hm; try simp only [setn] at hm)
        | (refine m_call hm (by rfl) (by rfl) (by rfl) (by first | exact pm0 | exact pm1_0 | exact pm1_1 | exact pm1_2 | exact pm1_3 | exact pm2_0 | exact pm2_1 | exact pm2_2 | exact pm2_3 | exact pm2_4 | exact pm3_0 | exact pm3_1 | exact pm3_2) (hd1 _ _) ?_; clear hm; rintro _ _ _ _ ⟨rfl, rfl, da2, dc2, rfl⟩ hle hm; try simp only [setn] at hm)
        | (refine m_call hm (by rfl) (by rfl) (by rfl) (by first | exact pm0 | exact pm1_0 | exact pm1_1 | exact pm1_2 | exact pm1_3 | exact pm2_0 | exact pm2_1 | exact pm2_2 | exact pm2_3 | exact pm2_4 | exact pm3_0 | exact pm3_1 | exact pm3_2) (hlb _ _) ?_; clear hm; rintro _ _ _ _ ⟨rfl, rfl, da3, dc3, rfl⟩ hle hm; try simp only [setn] at hm)
        | (refine m_store1 hm (by rfl) (by rfl) (by rfl) (by rfl) (by first | exact gt0 | exact gt1 | exact gt2 | exact gt3 | exact gt4 | exact gt5 | exact gt6) (by rfl) (by rfl) (by rfl) ?_; clear hm; intro _ hm; try simp only [setn] at hm)
        | refine op_move (by rfl) (by rfl) (by rfl) ?_
        | refine op_assign (by rfl) (by rfl) (by rfl) ?_
        | refine op_extract (by rfl) (by rfl) (by rfl) (by rfl) ?_
        | refine op_field1 (by rfl) (by rfl) (by rfl) (by rfl) ?_
        | refine op_fieldAddr (by rfl) (by rfl) (by rfl) ?_
        | refine wl_nil ?_
        | refine at_then_normal ?_
        | refine at_block_normal ?_
        | refine wc_seq ?_
        | refine wc_region ?_
        | refine wc_cond_true (by rfl) ?_
        | refine wc_cond_false (by rfl) ?_)
      exact at_cut (⟨I1, da4, dc4, none, 0, none, 0, none, 0, []⟩ : ItX) (by exact ⟨rfl, rfl, rfl, rfl, trivial⟩) ⟨k8, by dsimp only; omega, hr, rowI_nil _ _ _ _ _, rowI_nil _ _ _ _ _, rowI_nil _ _ _ _ _, .nil, hm⟩
    · rw [if_neg hc] at hq
      rw [show T.is 0 [99, 104, 97, 110] = false by simpa using hc] at hq2
      subst hq
      repeat' (first
        | (refine m_readC hm (by rfl) (by rfl) (by rfl) (by first | exact sub_nil | exact sub1_0 | exact sub1_1 | exact sub1_2 | exact sub1_3 | exact sub2_0 | exact sub2_1 | exact sub2_2 | exact sub2_3 | exact sub2_4) (hq1 _ _ _ _) ?_; clear hm; intro _ hm)
        | (refine m_readC hm (by rfl) (by rfl) (by rfl) (by first | exact sub_nil | exact sub1_0 | exact sub1_1 | exact sub1_2 | exact sub1_3 | exact sub2_0 | exact sub2_1 | exact sub2_2 | exact sub2_3 | exact sub2_4) (hq2 _ _ _ _) ?_; clear hm; intro _ hm)
        | (refine m_call hm (by rfl) (by rfl) (by rfl) (by first | exact pm0 | exact pm1_0 | exact pm1_1 | exact pm1_2 | exact pm1_3 | exact pm2_0 | exact pm2_1 | exact pm2_2 | exact pm2_3 | exact pm2_4 | exact pm3_0 | exact pm3_1 | exact pm3_2) (c_bad 0 2 hr hT (by simp)) ?_; clear hm; rintro _ _ _ _ ⟨rfl, rfl, da2, dc2, rfl⟩ hle hm; try simp only [setn] at hm)
        | refine m_load1 hm (by rfl) (by rfl) (by rfl) (by first | exact gt0 | exact gt1 | exact gt2 | exact gt3 | exact gt4 | exact gt5 | exact gt6) (by rfl) ?_
        | refine op_move (by rfl) (by rfl) (by rfl) ?_
        | refine op_assign (by rfl) (by rfl) (by rfl) ?_
        | refine op_len_slice (by rfl) (by rfl) (by rfl) ?_
        | refine op_nilCheck (by rfl) (by rfl) (by rfl) ?_
        | refine op_fieldAddr (by rfl) (by rfl) (by rfl) ?_
        | refine wl_nil ?_
        | refine at_then_normal ?_
        | refine at_block_normal ?_
        | refine wc_seq ?_
        | refine wc_region ?_
        | refine wc_cond_false (by rfl) ?_)
      exact at_cut (⟨I1, da2, dc2, none, 0, none, 0, none, 0, []⟩ : ItX) (by exact ⟨rfl, rfl, rfl, rfl, trivial⟩) ⟨Nat.le_refl _, by simp [Sp.St.bad], hr, rowI_nil _ _ _ _ _, rowI_nil _ _ _ _ _, rowI_nil _ _ _ _ _, .nil, hm⟩
  clear hm
  rintro ⟨I2, da, dc, ap, cp, as_, cs, ab, cb, xb⟩ w2 ⟨hi, hd, hr, r1, r2, r3, r4, hm⟩
  dsimp only [itV] at hi hd hr r1 r2 r3 r4 hm ⊢
  rw [Sp.itemT]
  by_cases hlt : q.2.i < T.l.length
  · rw [if_pos hlt]
    repeat' (first
      | (refine m_call hm (by rfl) (by rfl) (by rfl) (by first | exact pm0 | exact pm1_0 | exact pm1_1 | exact pm1_2 | exact pm1_3 | exact pm2_0 | exact pm2_1 | exact pm2_2 | exact pm2_3 | exact pm2_4 | exact pm3_0 | exact pm3_1 | exact pm3_2) (c_bad q.2.i 2 hr hT (by omega)) ?_; clear hm; rintro _ _ _ _ ⟨rfl, rfl, da2, dc2, rfl⟩ hle hm; try simp only [setn] at hm)
      | refine m_load1 hm (by rfl) (by rfl) (by rfl) (by first | exact gt0 | exact gt1 | exact gt2 | exact gt3 | exact gt4 | exact gt5 | exact gt6) (by rfl) ?_
      | refine m_loadAll hm (by rfl) (by rfl) (by rfl) (by first | exact gt0 | exact gt1 | exact gt2 | exact gt3 | exact gt4 | exact gt5 | exact gt6) (by rfl) ?_
      | (refine m_storeAll hm (by rfl) (by rfl) (by rfl) (by rfl) (by first | exact gt0 | exact gt1 | exact gt2 | exact gt3 | exact gt4 | exact gt5 | exact gt6) (by rfl) (by rfl) (by rfl) ?_; clear hm; intro _ hm; try simp only [setn] at hm)
      | (refine m_store1 hm (by rfl) (by rfl) (by rfl) (by rfl) (by first | exact gt0 | exact gt1 | exact gt2 | exact gt3 | exact gt4 | exact gt5 | exact gt6) (by rfl) (by rfl) (by rfl) ?_; clear hm; intro _ hm; try simp only [setn] at hm)
      | refine m_ret_agg hm (by rfl) (by rfl) (by first | exact gt0 | exact gt1 | exact gt2 | exact gt3 | exact gt4 | exact gt5 | exact gt6) (by rfl) ?_
      | refine op_move (by rfl) (by rfl) (by rfl) ?_
      | refine op_lss (by rfl) (by rfl) (by rfl) (by rfl) ?_
      | refine op_len_slice (by rfl) (by rfl) (by rfl) ?_
      | refine op_nilCheck (by rfl) (by rfl) (by rfl) ?_
      | refine op_fieldAddr (by rfl) (by rfl) (by rfl) ?_
      | refine wl_nil ?_
      | refine at_then_normal ?_
      | refine wc_seq ?_
      | refine wc_region ?_
      | refine wc_ret ?_
      | (refine wc_cond_dec (by rfl) (fun _ => ?_) (fun _ => ?_) <;> (try first | contradiction | (exfalso; omega))))
    all_goals try (exfalso; omega)
    obtain ⟨I3, hle3, hm3, hrow3⟩ := (hm.perm pm1_1).freeze
    exact ⟨I3, [], ⟨_, rfl, ⟨ap, cp, as_, cs, ab, cb, da2, dc2, xb, rfl, r1.le hle3, r2.le hle3, r3.le hle3, StsAt.le hle3 _ _ r4, hrow3⟩, rfl⟩, hm3.left (H := [])⟩
  · rw [if_neg hlt]
    repeat' (first
      | refine m_load1 hm (by rfl) (by rfl) (by rfl) (by first | exact gt0 | exact gt1 | exact gt2 | exact gt3 | exact gt4 | exact gt5 | exact gt6) (by rfl) ?_
      | refine m_loadAll hm (by rfl) (by rfl) (by rfl) (by first | exact gt0 | exact gt1 | exact gt2 | exact gt3 | exact gt4 | exact gt5 | exact gt6) (by rfl) ?_
      | (refine m_storeAll hm (by rfl) (by rfl) (by rfl) (by rfl) (by first | exact gt0 | exact gt1 | exact gt2 | exact gt3 | exact gt4 | exact gt5 | exact gt6) (by rfl) (by rfl) (by rfl) ?_; clear hm; intro _ hm; try simp only [setn] at hm)
      | (refine m_store1 hm (by rfl) (by rfl) (by rfl) (by rfl) (by first | exact gt0 | exact gt1 | exact gt2 | exact gt3 | exact gt4 | exact gt5 | exact gt6) (by rfl) (by rfl) (by rfl) ?_; clear hm; intro _ hm; try simp only [setn] at hm)
      | refine m_ret_agg hm (by rfl) (by rfl) (by first | exact gt0 | exact gt1 | exact gt2 | exact gt3 | exact gt4 | exact gt5 | exact gt6) (by rfl) ?_
      | refine op_move (by rfl) (by rfl) (by rfl) ?_
      | refine op_lss (by rfl) (by rfl) (by rfl) (by rfl) ?_
      | refine op_len_slice (by rfl) (by rfl) (by rfl) ?_
      | refine op_nilCheck (by rfl) (by rfl) (by rfl) ?_
      | refine op_fieldAddr (by rfl) (by rfl) (by rfl) ?_
      | refine wl_nil ?_
      | refine at_then_normal ?_
      | refine wc_seq ?_
      | refine wc_region ?_
      | refine wc_skip ?_
      | refine wc_ret ?_
      | (refine wc_cond_dec (by rfl) (fun _ => ?_) (fun _ => ?_) <;> (try first | contradiction | (exfalso; omega))))
    all_goals try (exfalso; omega)
    obtain ⟨I3, hle3, hm3, hrow3⟩ := (hm.perm pm1_1).freeze
    exact ⟨I3, [], ⟨_, rfl, ⟨ap, cp, as_, cs, ab, cb, da, dc, xb, rfl, r1.le hle3, r2.le hle3, r3.le hle3, StsAt.le hle3 _ _ r4, hrow3⟩, rfl⟩, hm3.left (H := [])⟩
end Go.Proofs.YtjfkjpbkmpofkaaGreatDoor
end
section
namespace Go.Proofs.YtjfkjpbkmpofkaaGreatDoor
open Go.Fw
structure FiX where
  k : Nat
  I : Imm
  a : Option Addr
  cp : Nat
  xs : List Value
set_option maxHeartbeats 8000000 in
theorem c_file (s : List UInt8) (I : Imm) (hs : s.length ≤ 9223372036854775807) : CalM Tryz.prog 5 #[str s] I [] (ToFile (Sp.fileErr s) (Sp.fileItems s)) := by
  refine CalM.of fun w E hm => enter (N := 51) Tryz.func5 rfl [(0, str s)] args1 rfl ?_
  by_cases hl : s.length > 4000
  · have he : Sp.fileErr s = 4 := by rw [Sp.fileErr, if_pos hl]
    have hi : Sp.fileItems s = [] := by rw [Sp.fileItems, he]; rfl
    rw [he, hi]
    repeat' (first
      | (refine m_allocS (d := 2) hm (by rfl) (by rfl) ?_; clear hm; intro b2 _ hm)
      | (refine m_storeAll hm (by rfl) (by rfl) (by rfl) (by rfl) (by first | exact gt0 | exact gt1 | exact gt2 | exact gt3 | exact gt4 | exact gt5 | exact gt6) (by rfl) (by rfl) (by rfl) ?_; clear hm; intro _ hm; try simp only [setn] at hm)
      | refine m_ret2_agg hm (by rfl) (by rfl) (by rfl) (by first | exact gt0 | exact gt1 | exact gt2 | exact gt3 | exact gt4 | exact gt5 | exact gt6) (by rfl) ?_
      | refine op_move (by rfl) (by rfl) (by rfl) ?_
      | refine op_assign (by rfl) (by rfl) (by rfl) ?_
      | refine op_gtr (by rfl) (by rfl) (by rfl) (by rfl) ?_
      | refine op_len_str (by rfl) (by rfl) (by rfl) ?_
      | refine op_struct (by rfl) (by rfl) (by rfl) (by rfl) ?_
      | refine wl_nil ?_
      | refine at_then_normal ?_
      | refine at_then_ret ?_
      | refine wc_seq ?_
      | refine wc_region ?_
      | refine wc_ret ?_
      | (refine wc_cond_dec (by rfl) (fun _ => ?_) (fun _ => ?_) <;> (try first | contradiction | (exfalso; omega))))
    all_goals try (exfalso; omega)
    exact ⟨_, _, ⟨none, 0, [], rfl, rowI_nil _ _ _ _ _, rfl, rfl⟩, hm.tl⟩
  have hts := Sp.cuts_sub s (Sp.tokens s) []
  by_cases hc : (Sp.cuts s).length > 30
  · have he : Sp.fileErr s = 5 := by rw [Sp.fileErr, if_neg hl, if_pos hc]
    have hi : Sp.fileItems s = [] := by rw [Sp.fileItems, he]; rfl
    rw [he, hi]
    repeat' (first
      | (refine op_call (by rfl) (by rfl) (by rfl) (by exact c_rcuts s (by omega) _) ?_; rintro tv wt ⟨hto, hkt⟩; obtain ⟨ta, tc, rfl⟩ := own_val hto; replace hm := hm.kept0 hkt)
      | (refine m_allocS (d := 2) hm (by rfl) (by rfl) ?_; clear hm; intro b2 _ hm)
      | (refine m_storeAll hm (by rfl) (by rfl) (by rfl) (by rfl) (by first | exact gt0 | exact gt1 | exact gt2 | exact gt3 | exact gt4 | exact gt5 | exact gt6) (by rfl) (by rfl) (by rfl) ?_; clear hm; intro _ hm; try simp only [setn] at hm)
      | refine m_ret2_agg hm (by rfl) (by rfl) (by rfl) (by first | exact gt0 | exact gt1 | exact gt2 | exact gt3 | exact gt4 | exact gt5 | exact gt6) (by rfl) ?_
      | refine op_move (by rfl) (by rfl) (by rfl) ?_
      | refine op_assign (by rfl) (by rfl) (by rfl) ?_
      | refine op_gtr (by rfl) (by rfl) (by rfl) (by rfl) ?_
      | refine op_len_str (by rfl) (by rfl) (by rfl) ?_
      | refine op_len_slice (by rfl) (by rfl) (by rfl) ?_
      | refine op_struct (by rfl) (by rfl) (by rfl) (by rfl) ?_
      | refine wl_nil ?_
      | refine at_then_normal ?_
      | refine at_then_ret ?_
      | refine wc_seq ?_
      | refine wc_region ?_
      | refine wc_skip ?_
      | refine wc_ret ?_
      | (refine wc_cond_dec (by rfl) (fun _ => ?_) (fun _ => ?_) <;> (try first | contradiction | (exfalso; omega))))
    all_goals try (exfalso; omega)
    exact ⟨_, _, ⟨none, 0, [], rfl, rowI_nil _ _ _ _ _, rfl, rfl⟩, hm.tl⟩
  have he : Sp.fileErr s = 0 := by rw [Sp.fileErr, if_neg hl, if_neg hc]
  have hi : Sp.fileItems s = Sp.items s (Sp.cuts s) := by rw [Sp.fileItems, he]; rfl
  rw [he, hi]
  clear he hi hts
  repeat' (first
    | (refine op_call (by rfl) (by rfl) (by rfl) (by exact c_rcuts s (by omega) _) ?_; rintro tv wt ⟨hto, hkt⟩; obtain ⟨ta, tc, rfl⟩ := own_val hto; obtain ⟨I1, hle1, hm1, hrow⟩ := hm.take hkt hto; clear hm; have hm := hm1; clear hm1)
    | (refine m_allocS (d := 2) hm (by rfl) (by rfl) ?_; clear hm; intro b2 _ hm)
    | (refine m_allocS (d := 5) hm (by rfl) (by rfl) ?_; clear hm; intro b5 _ hm)
    | refine op_move (by rfl) (by rfl) (by rfl) ?_
    | refine op_assign (by rfl) (by rfl) (by rfl) ?_
    | refine op_gtr (by rfl) (by rfl) (by rfl) (by rfl) ?_
    | refine op_len_str (by rfl) (by rfl) (by rfl) ?_
    | refine op_len_slice (by rfl) (by rfl) (by rfl) ?_
    | refine wl_nil ?_
    | refine at_then_normal ?_
    | refine wc_seq ?_
    | refine wc_region ?_
    | refine wc_block ?_
    | refine wc_skip ?_
    | (refine wc_cond_dec (by rfl) (fun _ => ?_) (fun _ => ?_) <;> (try first | contradiction | (exfalso; omega))))
  all_goals try (exfalso; omega)
  obtain ⟨n, hn⟩ : ∃ n, n = (Sp.cuts s).length := ⟨_, rfl⟩
  have hln : (Sp.items s (Sp.cuts s)).length = n := by simp [Sp.items, hn]
  have hcat : ∀ k, k < n → (Sp.cuts s).getD k 0 < (Sp.cuts s).getD (k + 1) s.length ∧ (Sp.cuts s).getD (k + 1) s.length ≤ s.length := fun k hk => Sp.cuts_at s (by omega)
  have hzz : ∀ k, k < n → ∀ d, (Sp.cuts s)[k]? = some ((Sp.cuts s).getD k d) := fun k hk d => by rw [List.getD_eq_getElem?_getD, List.getElem?_eq_getElem (by omega)]; rfl
  have hend : ∀ k, n ≤ k → ∀ d, (Sp.cuts s).getD k d = d := fun k hk d => by rw [List.getD_eq_getElem?_getD, List.getElem?_eq_none (by omega)]; rfl
  have hits0 : Sp.items s (Sp.cuts s) = (List.range n).map (Sp.itemAt s (Sp.cuts s)) := by rw [Sp.items, hn]
  rw [← hn] at hrow hc ⊢
  clear hn hto hkt
  generalize Sp.cuts s = cs at hrow hln hcat hzz hend hits0 ⊢
  have hm := hm.nil 36 10
  refine wc_loop (fun x : FiX => [(0, str s), (2, ptr b2), (4, .slice ta n tc), (5, ptr b5), (19, .slice ta n tc), (20, nt n), (21, nt x.k)])
    (fun x w' => Mem E x.I [itRow x.k x.a x.cp x.xs, .cell b5 [.slice x.a x.k x.cp] 26, .cell b2 [.slice none 0 0] 26] w' ∧ x.k ≤ n ∧ Le I1 x.I ∧ ItsAt x.I ((List.range x.k).map (Sp.itemAt s cs)) x.xs)
    (fun x => n - x.k) ⟨0, I1, none, 0, []⟩ (by exact ⟨rfl, rfl, rfl, rfl, rfl, rfl, rfl, trivial⟩) ⟨hm, Nat.zero_le _, Le.refl _, rfl⟩ ?_
  clear hm
  rintro ⟨k, I2, a, cp, xs⟩ w2 ⟨hm, hk, hle2, hits⟩
  dsimp only at hm hk hle2 hits ⊢
  have hrow2 := hrow.le hle2
  by_cases hlt : k < n
  · have hca := hcat k hlt
    have hz : cs[((k : Nat) : Int).toNat]? = some (cs.getD k 0) := by
      rw [Int.toNat_natCast]; exact hzz k hlt 0
    have hpl : (Sp.piece s cs k).length ≤ 1048576 := by
      rw [Sp.piece, List.length_take, List.length_drop]; omega
    have hit := c_item (Sp.piece s cs k) ((cs.getD k 0 : Nat) : Int) I2 hpl
    rw [show Sp.item (Sp.piece s cs k) ((cs.getD k 0 : Nat) : Int) = Sp.itemAt s cs k from rfl] at hit
    clear hpl
    by_cases hlt2 : k + 1 < n
    · have hz2 : cs[(((k : Nat) : Int) + 1).toNat]? = some (cs.getD (k + 1) s.length) := by
        rw [show (((k : Nat) : Int) + 1).toNat = k + 1 by omega]; exact hzz (k + 1) hlt2 _
      rw [Sp.piece] at hit
      generalize cs.getD (k + 1) s.length = e2 at hca hz2 hit
      generalize cs.getD k 0 = e1 at hca hz hit
      repeat' (first
        | (refine wc_semi 7 10 (itRow k a cp xs).blk.toList (by kernel_rfl) ?_; intro wd hkd; replace hm := hm.kept0 hkd; clear hkd; have hC := Kept.refl (itRow k a cp xs).blk.toList wd)
        | (refine i_indexFlat (d := 24) (enc := encInt) (z := e1) (by rfl) (by rfl) (by rfl) (by rfl) hrow2 (fun _ => rfl) (by omega) (by omega) hz ?_; intro bt ot hpt)
        | (refine i_indexFlat (d := 36) (enc := encInt) (z := e2) (by rfl) (by rfl) (by rfl) (by rfl) hrow2 (fun _ => rfl) (by omega) (by omega) hz2 ?_; intro bt2 ot2 hpt2)
        | (refine ms_call (d := 45) hm hC (by rfl) (by rfl) (by rfl) (hit) ?_; clear hm hC; rintro _ I3 _ _ ⟨_, rfl, ⟨ap, cp1, as_, cs1, ab, cb, ad, cd, xb, rfl, r1, r2, r3, r4, r5⟩, rfl⟩ hle hm hC; have hleI3 := hle; try simp only [setn] at hm)
        | refine mv_load1 hm (by first | exact gt0 | exact gt1 | exact gt2 | exact gt3 | exact gt4 | exact gt5 | exact gt6) (by rfl) (by rfl) (by rfl) (by first | exact gt0 | exact gt1 | exact gt2 | exact gt3 | exact gt4 | exact gt5 | exact gt6) (by rfl) (by rfl) ?_
        | (refine ms_push (d := 47) hm hC (by rfl) (by rfl) (by rfl) (by rfl) (by rfl) (by first | exact gt0 | exact gt1 | exact gt2 | exact gt3 | exact gt4 | exact gt5 | exact gt6) (by rfl) (by rfl) (by rfl) (by rfl) (by omega) (by omega) ?_; clear hm hC; intro a47 cp47 _ _ hm; try simp only [setn] at hm)
        | refine i_load1z hm (by rfl) (by rfl) (by rfl) (by assumption) (by rfl) ?_
        | (refine m_store1 hm (by rfl) (by rfl) (by rfl) (by rfl) (by first | exact gt0 | exact gt1 | exact gt2 | exact gt3 | exact gt4 | exact gt5 | exact gt6) (by rfl) (by rfl) (by rfl) ?_; clear hm; intro _ hm; try simp only [setn] at hm)
        | refine op_move (by rfl) (by rfl) (by rfl) ?_
        | refine op_assign (by rfl) (by rfl) (by rfl) ?_
        | refine op_lss (by rfl) (by rfl) (by rfl) (by rfl) ?_
        | refine op_len_str (by rfl) (by rfl) (by rfl) ?_
        | refine op_len_slice (by rfl) (by rfl) (by rfl) ?_
        | refine op_add (by rfl) (by rfl) (by rfl) (by rfl) (by omega) ?_
        | refine op_fieldAddr (by rfl) (by rfl) (by rfl) ?_
        | refine wl_nil ?_
        | refine at_then_normal ?_
        | refine at_block_normal ?_
        | refine wc_seq ?_
        | refine wc_region ?_
        | refine wc_block ?_
        | refine wc_skip ?_
        | (refine wc_cond_dec (by rfl) (fun _ => ?_) (fun _ => ?_) <;> (try first | contradiction | (exfalso; omega)))
        | refine v_move (by rfl) (by rfl) (by rfl) ?_
        | refine v_slice_str (by rfl) (by rfl) (by rfl) (by rfl) (by rfl) (by omega) ?_
        | refine v_fieldAddr (by rfl) (by rfl) (by rfl) ?_
        | refine wv_nil ?_)
      all_goals try (exfalso; omega)
      refine at_round (⟨k + 1, I3, _, _, _⟩ : FiX) (by exact ⟨rfl, rfl, rfl, rfl, rfl, rfl, rfl, trivial⟩) ⟨hm, by dsimp only; omega, hle2.trans hleI3, ?_⟩ (by dsimp only; omega)
      dsimp only
      rw [Sp.items_snoc]
      exact (hits.le hleI3).snoc ⟨ap, cp1, as_, cs1, ab, cb, ad, cd, xb, rfl, r1, r2, r3, r4, r5⟩
    · rw [Sp.piece, show cs.getD (k + 1) s.length = s.length from hend (k + 1) (by omega) _] at hit
      generalize cs.getD (k + 1) s.length = e2 at hca
      generalize cs.getD k 0 = e1 at hca hz hit
      repeat' (first
        | (refine wc_semi 7 10 (itRow k a cp xs).blk.toList (by kernel_rfl) ?_; intro wd hkd; replace hm := hm.kept0 hkd; clear hkd; have hC := Kept.refl (itRow k a cp xs).blk.toList wd)
        | (refine i_indexFlat (d := 24) (enc := encInt) (z := e1) (by rfl) (by rfl) (by rfl) (by rfl) hrow2 (fun _ => rfl) (by omega) (by omega) hz ?_; intro bt ot hpt)
        | (refine ms_call (d := 45) hm hC (by rfl) (by rfl) (by rfl) (hit) ?_; clear hm hC; rintro _ I3 _ _ ⟨_, rfl, ⟨ap, cp1, as_, cs1, ab, cb, ad, cd, xb, rfl, r1, r2, r3, r4, r5⟩, rfl⟩ hle hm hC; have hleI3 := hle; try simp only [setn] at hm)
        | refine mv_load1 hm (by first | exact gt0 | exact gt1 | exact gt2 | exact gt3 | exact gt4 | exact gt5 | exact gt6) (by rfl) (by rfl) (by rfl) (by first | exact gt0 | exact gt1 | exact gt2 | exact gt3 | exact gt4 | exact gt5 | exact gt6) (by rfl) (by rfl) ?_
        | (refine ms_push (d := 47) hm hC (by rfl) (by rfl) (by rfl) (by rfl) (by rfl) (by first | exact gt0 | exact gt1 | exact gt2 | exact gt3 | exact gt4 | exact gt5 | exact gt6) (by rfl) (by rfl) (by rfl) (by rfl) (by omega) (by omega) ?_; clear hm hC; intro a47 cp47 _ _ hm; try simp only [setn] at hm)
        | refine i_load1z hm (by rfl) (by rfl) (by rfl) (by assumption) (by rfl) ?_
        | (refine m_store1 hm (by rfl) (by rfl) (by rfl) (by rfl) (by first | exact gt0 | exact gt1 | exact gt2 | exact gt3 | exact gt4 | exact gt5 | exact gt6) (by rfl) (by rfl) (by rfl) ?_; clear hm; intro _ hm; try simp only [setn] at hm)
        | refine op_move (by rfl) (by rfl) (by rfl) ?_
        | refine op_assign (by rfl) (by rfl) (by rfl) ?_
        | refine op_lss (by rfl) (by rfl) (by rfl) (by rfl) ?_
        | refine op_len_str (by rfl) (by rfl) (by rfl) ?_
        | refine op_len_slice (by rfl) (by rfl) (by rfl) ?_
        | refine op_add (by rfl) (by rfl) (by rfl) (by rfl) (by omega) ?_
        | refine op_fieldAddr (by rfl) (by rfl) (by rfl) ?_
        | refine wl_nil ?_
        | refine at_then_normal ?_
        | refine at_block_normal ?_
        | refine wc_seq ?_
        | refine wc_region ?_
        | refine wc_block ?_
        | refine wc_skip ?_
        | (refine wc_cond_dec (by rfl) (fun _ => ?_) (fun _ => ?_) <;> (try first | contradiction | (exfalso; omega)))
        | refine v_move (by rfl) (by rfl) (by rfl) ?_
        | refine v_slice_str (by rfl) (by rfl) (by rfl) (by rfl) (by rfl) (by omega) ?_
        | refine v_fieldAddr (by rfl) (by rfl) (by rfl) ?_
        | refine wv_nil ?_)
      all_goals try (exfalso; omega)
      refine at_round (⟨k + 1, I3, _, _, _⟩ : FiX) (by exact ⟨rfl, rfl, rfl, rfl, rfl, rfl, rfl, trivial⟩) ⟨hm, by dsimp only; omega, hle2.trans hleI3, ?_⟩ (by dsimp only; omega)
      dsimp only
      rw [Sp.items_snoc]
      exact (hits.le hleI3).snoc ⟨ap, cp1, as_, cs1, ab, cb, ad, cd, xb, rfl, r1, r2, r3, r4, r5⟩
  · obtain rfl : k = n := by omega
    repeat' (first
      | refine m_loadAll hm (by rfl) (by rfl) (by rfl) (by first | exact gt0 | exact gt1 | exact gt2 | exact gt3 | exact gt4 | exact gt5 | exact gt6) (by rfl) ?_
      | (refine m_storeAll hm (by rfl) (by rfl) (by rfl) (by rfl) (by first | exact gt0 | exact gt1 | exact gt2 | exact gt3 | exact gt4 | exact gt5 | exact gt6) (by rfl) (by rfl) (by rfl) ?_; clear hm; intro _ hm; try simp only [setn] at hm)
      | refine m_ret2_agg hm (by rfl) (by rfl) (by rfl) (by first | exact gt0 | exact gt1 | exact gt2 | exact gt3 | exact gt4 | exact gt5 | exact gt6) (by rfl) ?_
      | refine op_assign (by rfl) (by rfl) (by rfl) ?_
      | refine op_lss (by rfl) (by rfl) (by rfl) (by rfl) ?_
      | refine wl_nil ?_
      | refine at_then_normal ?_
      | refine at_then_exit ?_
      | refine at_block_exit ?_
      | refine wc_seq ?_
      | refine wc_region ?_
      | refine wc_exit ?_
      | refine wc_ret ?_
      | (refine wc_cond_dec (by rfl) (fun _ => ?_) (fun _ => ?_) <;> (try first | contradiction | (exfalso; omega))))
    all_goals try (exfalso; omega)
    obtain ⟨I3, hle3, hm3, hrow3⟩ := (hm.perm pm1_0).freeze
    refine ⟨I3, [], ⟨a, cp, xs, ?_, ?_, by rw [hits0]; exact hits.le hle3, rfl⟩, hm3.left (H := [])⟩
    · rw [hln]; rfl
    · rw [hln]; exact hrow3
end Go.Proofs.YtjfkjpbkmpofkaaGreatDoor
end
section
namespace Go.Fw
open Go
section
variable {P : Program} {ops : Array Oper} {md : Region.Mode} {C : World → Prop}
/-- operation 'i' yields a value, or nothing. -/
def uOp (P : Program) (ops : Array Oper) (i : Nat) (K : Act → World → Prop) (a : Act) (w : World) : Prop :=
  match ops[i]? with
  | none => K a w
  | some o => if Region.wanted o (yielded ops a.tmps) then (∃ u w', (execOp a.eval o).run P w = .ok (.value u) w' ∧ K (a.put o.dst u) w') ∨
      (∃ f args, (execOp a.eval o).run P w = .ok (.enter f args) w ∧ Calls P f args w (fun e w' => ∃ u, e = .returned u ∧ K (a.put o.dst u) w')) ∨
      (∃ w', (execOp a.eval o).run P w = .ok .skip w' ∧ K (a.put o.dst undef) w') else K (a.put o.dst undef) w
theorem wpOp_of_uOp {Q : Exit → Act → World → Prop} {i : Nat} {K : Act → World → Prop} {a : Act} {w : World} (h : uOp P ops i K a w) : wpOp P ops Q i K a w := by
  unfold uOp at h
  unfold wpOp
  cases ho : ops[i]? with
  | none => simpa [ho] using h
  | some o =>
    simp only [ho] at h ⊢
    split
    · rename_i hw
      rw [if_pos hw] at h
      left
      rcases h with ⟨u, w', h1, h2⟩ | ⟨f, args, h1, h2⟩ | ⟨w', h1, h2⟩
      · unfold Oper.wp
        rw [h1, Oper.upon_value]
        exact h2
      · unfold Oper.wp
        rw [h1, Oper.upon_enter]
        exact Calls.mono h2 (fun e w' ⟨u, he, hk⟩ => by subst he; exact hk)
      · unfold Oper.wp
        rw [h1, Oper.upon_skip]
        exact h2
    · rename_i hw
      rw [if_neg hw] at h
      exact h
theorem uOp_mono {i : Nat} {K K' : Act → World → Prop} {a : Act} {w : World} (hk : ∀ a w, K a w → K' a w) (h : uOp P ops i K a w) : uOp P ops i K' a w := by
  unfold uOp at h ⊢
  cases ho : ops[i]? with
  | none => simp only [ho] at h ⊢; exact hk _ _ h
  | some o =>
    simp only [ho] at h ⊢
    split
    · rename_i hw
      rw [if_pos hw] at h
      rcases h with ⟨u, w', h1, h2⟩ | ⟨f, args, h1, h2⟩ | ⟨w', h1, h2⟩
      · exact .inl ⟨u, w', h1, hk _ _ h2⟩
      · exact .inr (.inl ⟨f, args, h1, Calls.mono h2 (fun e w' ⟨u, he, h⟩ => ⟨u, he, hk _ _ h⟩)⟩)
      · exact .inr (.inr ⟨w', h1, hk _ _ h2⟩)
    · rename_i hw
      rw [if_neg hw] at h
      exact hk _ _ h
theorem YieldsV.uOp {i : Nat} {o : Oper} {v : Value} {a : Act} {w : World} (hi : ops[i]? = some o) (hy : YieldsV P ops C o v a) (hC : C w) {K : Act → World → Prop} (h : K (a.put o.dst v) w) : uOp P ops i K a w := by
  unfold Fw.uOp
  simp only [hi]
  rcases hy with ⟨hw, hv⟩ | ⟨hw, rfl⟩
  · rw [if_pos hw]; exact .inl ⟨v, w, hv w hC, h⟩
  · rw [if_neg (by rw [hw]; simp)]; exact h
theorem uOp_put {j : Nat} {oi oj : Oper} {v : Value} (hj : ops[j]? = some oj) (hap : oi.apart ops oj = true)
    (hsi : ∀ cs b, oi.op ≠ .select cs b) (hsj : ∀ cs b, oj.op ≠ .select cs b) {K : Act → World → Prop} {a : Act} {w : World}
    (hy : YieldsV P ops C oi v a) (h : uOp P ops j K (a.put oi.dst v) w) :
    uOp P ops j (fun a' w' => YieldsV P ops C oi v a' ∧ K (a'.put oi.dst v) w') a w := by
  obtain ⟨h1, h2, h3⟩ := Oper.apart_spec hap
  have keep : ∀ (a : Act), YieldsV P ops C oi v a → ∀ u, YieldsV P ops C oi v (a.put oj.dst u) := fun a hy u => by
    unfold YieldsV at hy ⊢
    rw [execOp_put oi hsi a oj.dst u h3, wanted_put oi a oj.dst u h3]
    exact hy
  unfold uOp at *
  simp only [hj] at *
  rw [wanted_put oj a oi.dst v h1] at h
  split
  · rename_i hw
    rw [if_pos hw] at h
    rcases h with ⟨u, w', hu, hn⟩ | ⟨f, args, hu, hn⟩ | ⟨w', hu, hn⟩
    · rw [execOp_put oj hsj a oi.dst v h1] at hu
      exact .inl ⟨u, w', hu, keep a hy u, by rw [← Act.put_comm a v u h2]; exact hn⟩
    · rw [execOp_put oj hsj a oi.dst v h1] at hu
      exact .inr (.inl ⟨f, args, hu, Calls.mono hn (fun e w' ⟨u, he, h⟩ => ⟨u, he, keep a hy u, by rw [← Act.put_comm a v u h2]; exact h⟩)⟩)
    · rw [execOp_put oj hsj a oi.dst v h1] at hu
      exact .inr (.inr ⟨w', hu, keep a hy _, by rw [← Act.put_comm a v undef h2]; exact hn⟩)
  · rename_i hw
    rw [if_neg hw] at h
    exact ⟨keep a hy _, by rw [← Act.put_comm a v undef h2]; exact h⟩
/-- the first 'n', in any order; the class is kept. -/
def anyU (P : Program) (md : Region.Mode) (ops : Array Oper) (C : World → Prop) (n : Nat) (L : Array Bool → Act → World → Prop) : Nat → Array Bool → Act → World → Prop
  | 0, listed, a, w => L listed a w
  | f + 1, listed, a, w => Region.ready md ops listed ≠ [] ∧ ∀ i ∈ Region.ready md ops listed, i < n ∧ uOp P ops i (fun a' w' => C w' ∧ anyU P md ops C n L f (listed.setIfInBounds i true) a' w') a w
theorem any_of_u {n g : Nat} {L : Array Bool → Act → World → Prop} {Q' : Exit → Act → World → Prop} (hL : ∀ listed a w, L listed a w → wpAny P md ops Q' g listed a w) :
    ∀ (f : Nat) (listed : Array Bool) (a : Act) (w : World), anyU P md ops C n L f listed a w → wpAny P md ops Q' (f + g) listed a w
  | 0, listed, a, w, h => by rw [Nat.zero_add]; exact hL _ _ _ h
  | f + 1, listed, a, w, h => by
    rw [show f + 1 + g = (f + g) + 1 by omega]
    exact ⟨fun h0 => absurd h0 h.1, fun i hi => wpOp_of_uOp (uOp_mono (fun a' w' h' => any_of_u hL f _ a' w' h'.2) (h.2 i hi).2)⟩
theorem u_first {n i : Nat} {oi : Oper} {v : Value} {L : Array Bool → Act → World → Prop} (hi : ops[i]? = some oi) (hsel : ∀ (j : Nat) (o : Oper) cs b, ops[j]? = some o → o.op ≠ .select cs b)
    (hs : Region.sinkB md ops n = true) (hc : Region.chainB md ops n = true) (hn : n < ops.size) (hin : i < n)
    (hdone : ∀ listed a w, L listed a w → ∀ j ∈ Region.ready md ops listed, n ≤ j) :
    ∀ (f : Nat) (listed : Array Bool) (a : Act) (w : World), C w → HeadInv md ops n listed →
      (∀ j oj, ops[j]? = some oj → j ≠ i → listed.getD j true = false → (∀ e ∈ oj.after, Region.binds md e = true → e.on ≠ i) → oi.apart ops oj = true) →
      i ∈ Region.ready md ops listed → YieldsV P ops C oi v a →
      anyU P md ops C n L f (listed.setIfInBounds i true) (a.put oi.dst v) w → anyU P md ops C n L (f + 1) listed a w := by
  intro f
  induction f with
  | zero =>
    intro listed a w hC inv _ hr hy H
    have hun := (mem_ready.1 hr).1
    refine ⟨fun h => (by rw [h] at hr; cases hr), fun j hj => ?_⟩
    have hjn : j < n := by
      rcases Nat.lt_or_ge j n with h | h
      · exact h
      · exact absurd hj (tail_waits hs hc hn inv _ i rfl hin hun j h)
    refine ⟨hjn, ?_⟩
    by_cases hji : j = i
    · subst hji; exact hy.uOp hi hC ⟨hC, H⟩
    · have := hdone _ _ _ H j (ready_mono hj hji)
      omega
  | succ f ih =>
    intro listed a w hC inv hfree hr hy H
    have hun := (mem_ready.1 hr).1
    refine ⟨fun h => (by rw [h] at hr; cases hr), fun j hj => ?_⟩
    have hjn : j < n := by
      rcases Nat.lt_or_ge j n with h | h
      · exact h
      · exact absurd hj (tail_waits hs hc hn inv _ i rfl hin hun j h)
    refine ⟨hjn, ?_⟩
    by_cases hji : j = i
    · subst hji; exact hy.uOp hi hC ⟨hC, H⟩
    · have h1 := (H.2 j (ready_mono hj hji)).2
      obtain ⟨hjun, oj, hoj, hall⟩ := mem_ready.1 hj
      have hnot : ∀ e ∈ oj.after, Region.binds md e = true → e.on ≠ i := fun e he hb heq => by
        have h1 := hall e he hb
        rw [heq, getD_both hun] at h1
        cases h1
      have h2 := uOp_put hoj (hfree j oj hoj hji hjun hnot) (fun cs b => hsel i oi cs b hi) (fun cs b => hsel j oj cs b hoj) hy h1
      have hfree' : ∀ k ok, ops[k]? = some ok → k ≠ i → (listed.setIfInBounds j true).getD k true = false →
          (∀ e ∈ ok.after, Region.binds md e = true → e.on ≠ i) → oi.apart ops ok = true := fun k ok hk hki hun hno => by
        refine hfree k ok hk hki ?_ hno
        by_cases hjk : j = k
        · subst hjk; exact hjun
        · rw [getD_set_ne true hjk] at hun; exact hun
      refine uOp_mono (fun a' w' h3 => ⟨h3.2.1, ih (listed.setIfInBounds j true) a' w' h3.2.1 (inv.set hj hjn) hfree' (ready_mono hr (Ne.symm hji)) h3.1 ?_⟩) h2
      rw [Array.setIfInBounds_comm _ _ hji]
      exact h3.2.2

/-- the check of those that come first: each may, and none bears on it. -/
def lexQB (md : Region.Mode) (ops : Array Oper) (n : Nat) : List Nat → Array Bool → Bool
  | [], _ => true
  | k :: ks, listed => (Region.ready md ops listed).contains k && Region.free md ops listed k && decide (k < n) && lexQB md ops n ks (listed.setIfInBounds k true)
def listK : List Nat → Array Bool → Array Bool
  | [], l => l
  | k :: ks, l => listK ks (l.setIfInBounds k true)
theorem anyU_quiet {n g f : Nat} {Lq : Act → World → Prop} (hsel : Region.noSelect ops = true) (hs : Region.sinkB md ops n = true) (hc : Region.chainB md ops n = true) (hn : n < ops.size) :
    ∀ (ks : List Nat) (l : List Oper) (listed : Array Bool) (a : Act) (w : World), C w → ks.map (ops[·]?) = l.map some → HeadInv md ops n listed → lexQB md ops n ks listed = true →
    pureV P ops C (fun a' => anyU P md ops C n (fun listed' a' w' => Region.seqB md ops g n listed' = true ∧ Lq a' w') f (listK ks listed) a' w) l a →
    anyU P md ops C n (fun listed' a' w' => Region.seqB md ops g n listed' = true ∧ Lq a' w') (l.length + f) listed a w
  | [], [], listed, a, w, _, _, _, _, h => by rw [List.length_nil, Nat.zero_add]; exact h
  | k :: ks, o :: l, listed, a, w, hC, hl, inv, hB, h => by
    simp only [List.map_cons, List.cons.injEq] at hl
    obtain ⟨h0, hl'⟩ := hl
    simp only [lexQB, Bool.and_eq_true, decide_eq_true_eq] at hB
    obtain ⟨⟨⟨hr, hf⟩, hkn⟩, hB'⟩ := hB
    have hr' : k ∈ Region.ready md ops listed := by simpa using hr
    obtain ⟨v, hy, hK⟩ := h
    rw [show (o :: l).length + f = (l.length + f) + 1 by simp only [List.length_cons]; omega]
    exact u_first h0 (Region.noSelect_spec hsel) hs hc hn hkn (fun listed' a' w' hL => seqB_ready hL.1) (l.length + f) listed a w hC inv (Region.free_spec h0 hf) hr' hy
      (anyU_quiet hsel hs hc hn ks l _ _ w hC hl' (inv.set hr' hkn) hB' hK)
  | [], _ :: _, _, _, _, _, hl, _, _, _ => by simp at hl
  | _ :: _, [], _, _, _, _, hl, _, _, _ => by simp at hl
def forkOk (ops : Array Oper) (ks : List Nat) (n : Nat) : Bool :=
  Region.noSelect ops && decide (n < ops.size) && Region.sinkB .any ops n && Region.chainB .any ops n && lexQB .any ops n ks (Array.replicate ops.size false) && decide (ks.length ≤ n) && ks.all (fun k => Nat.blt k ops.size)
theorem wp_region_fork {id : Nat} {Q : Exit → Act → World → Prop} {a : Act} {w : World} {l : List Oper} (ks : List Nat) (n : Nat) (hm : P.follows .mixedOrders = true) (hB : forkOk l.toArray ks n = true)
    (hC : C { w with drawn := w.drawn + 1 })
    (h : pureV P l.toArray C (fun a' => anyU P .any l.toArray C n (fun listed' a' w' => Region.seqB .any l.toArray (l.length - n) n listed' = true ∧ wpList P l.toArray Q (l.drop n) a' w') (n - ks.length) (listK ks (Array.replicate l.length false)) a' { w with drawn := w.drawn + 1 }) (pickL l ks) a) :
    (Code.region id l.toArray true).wp P Q a w := by
  simp only [forkOk, Bool.and_eq_true, decide_eq_true_eq] at hB
  obtain ⟨⟨⟨⟨⟨⟨hsel, hn⟩, hs⟩, hc⟩, hlex⟩, hlen⟩, hks⟩ := hB
  have hn' : n < l.length := by simpa using hn
  have hdl : (l.drop n).length = l.length - n := by simp
  obtain ⟨k1, k2⟩ := pickL_map l ks (by simpa using hks)
  have inv0 : HeadInv .any l.toArray n (Array.replicate l.length false) :=
    ⟨by simp, fun j oj _ hl => (by rw [getD_replicate_false] at hl; cases hl), fun t _ ht => getD_in (by simpa using ht) (getD_replicate_false _ _)⟩
  have H := anyU_quiet (md := .any) (g := l.length - n) (f := n - ks.length) hsel hs hc hn ks (pickL l ks) _ a _ hC k1 inv0 (by simpa using hlex) h
  refine wp_region_any hm ?_
  have := any_of_u (Q' := Q) (g := l.length - n) (fun listed a' w' hL => by
    have := wpAny_of_seq (md := .any) (Q' := Q) (l.drop n) n listed a' w' (fun j => by simp [List.getElem?_drop]) (by rw [hdl]; exact hL.1) hL.2
    rwa [hdl] at this) _ _ _ _ H
  rw [k2, show ks.length + (n - ks.length) + (l.length - n) = l.length by omega] at this
  simpa using this
end
section
variable {P : Program} {N : Nat} {ds : List Deferred} {X : List Nat} {Q : Exit → Act → World → Prop} {l : Log} {w w' w0 : World} {os tail : List Oper} {ops : Array Oper} {E : Ent} {I : Imm} {G R H : List HItem} {o : Oper}
/-- what is still to come, in any order. -/
structure WA (P : Program) (N : Nat) (ds : List Deferred) (ops : Array Oper) (Q : Exit → Act → World → Prop) (X : List Nat) (w0 : World) (n f : Nat) (listed : Array Bool) (tail : List Oper) (l : Log) (w : World) : Prop where
  run : ∀ a, Fits N ds l a → anyU P .any ops (fun w' => Kept X w0 w') n (fun listed' a' w' => Region.seqB .any ops (ops.size - n) n listed' = true ∧ wpList P ops Q tail a' w') f listed a w
/-- one operation, now. -/
structure WU (P : Program) (N : Nat) (ds : List Deferred) (ops : Array Oper) (Q : Exit → Act → World → Prop) (X : List Nat) (w0 : World) (n f : Nat) (listed : Array Bool) (tail : List Oper) (o : Oper) (l : Log) (w : World) : Prop where
  run : ∀ a, Fits N ds l a → ∀ i, ops[i]? = some o → uOp P ops i (fun a' w' => Kept X w0 w' ∧ anyU P .any ops (fun w' => Kept X w0 w') n (fun listed' a' w' => Region.seqB .any ops (ops.size - n) n listed' = true ∧ wpList P ops Q tail a' w') f listed a' w') a w
theorem wc_fork_mem [Mixed P] {id : Nat} (hm : Mem E I (G ++ R) w) (ks : List Nat) (n : Nat) (hB : forkOk os.toArray ks n = true)
    (h : ∀ wd, Mem E I (G ++ R) wd → Mem ⟨wd, blks G, I⟩ I G wd → WV P N ds os.toArray (blks G) wd (fun a' => anyU P .any os.toArray (fun w' => Kept (blks G) wd w') n (fun listed' a' w' => Region.seqB .any os.toArray (os.toArray.size - n) n listed' = true ∧ wpList P os.toArray Q (os.drop n) a' w') (n - ks.length) (listK ks (Array.replicate os.length false)) a' wd) (pickL os ks) l) :
    WC P N ds (.region id os.toArray true) Q l w :=
  ⟨fun a ha => wp_region_fork (C := fun w' => Kept (blks G) { w with drawn := w.drawn + 1 } w') ks n Mixed.out hB (Kept.refl _ _) ((h _ (hm.kept0 (Kept.drew w)) (hm.kept0 (Kept.drew w)).sub).run a ha)⟩
theorem wv_nilA {n f : Nat} {listed : Array Bool} (h : WA P N ds ops Q X w n f listed tail l w) :
    WV P N ds ops X w (fun a' => anyU P .any ops (fun w' => Kept X w w') n (fun listed' a' w' => Region.seqB .any ops (ops.size - n) n listed' = true ∧ wpList P ops Q tail a' w') f listed a' w) [] l := ⟨fun a ha => h.run a ha⟩
theorem wa_nil {n : Nat} {listed : Array Bool} (hs : Region.seqB .any ops (ops.size - n) n listed = true) (h : WL P N ds ops Q tail l w) : WA P N ds ops Q X w0 n 0 listed tail l w := ⟨fun a ha => ⟨hs, h.run a ha⟩⟩
theorem wa_one {n f i : Nat} {listed : Array Bool} (hr : Region.ready .any ops listed = [i]) (hi : ops[i]? = some o) (hn : Nat.blt i n = true)
    (h : WU P N ds ops Q X w0 n f (listed.setIfInBounds i true) tail o l w) : WA P N ds ops Q X w0 n (f + 1) listed tail l w :=
  ⟨fun a ha => ⟨by rw [hr]; simp, fun j hj => by
    rw [hr] at hj
    obtain rfl : j = i := by simpa using hj
    exact ⟨by simpa [Nat.blt_eq] using hn, h.run a ha j hi⟩⟩⟩
theorem wa_two {n f i j : Nat} {o2 : Oper} {listed : Array Bool} (hr : Region.ready .any ops listed = [i, j]) (hi : ops[i]? = some o) (hj : ops[j]? = some o2) (hn : Nat.blt i n = true) (hn2 : Nat.blt j n = true)
    (h : WU P N ds ops Q X w0 n f (listed.setIfInBounds i true) tail o l w) (h2 : WU P N ds ops Q X w0 n f (listed.setIfInBounds j true) tail o2 l w) : WA P N ds ops Q X w0 n (f + 1) listed tail l w :=
  ⟨fun a ha => ⟨by rw [hr]; simp, fun k hk => by
    rw [hr] at hk
    rcases List.mem_cons.1 hk with rfl | hk
    · exact ⟨by simpa [Nat.blt_eq] using hn, h.run a ha _ hi⟩
    · obtain rfl : k = j := by simpa using hk
      exact ⟨by simpa [Nat.blt_eq] using hn2, h2.run a ha _ hj⟩⟩⟩
variable {d : Nat} {ty : TypeId} {pos : String} {af : Array Edge} {g : Option (Nat × Bool)} {t t' : TypeId} {x y z : Operand} {n f : Nat} {listed : Array Bool}
theorem wu_value {d : Nat} {v : Value} (hd : o.dst = some d) (hw : want ops l o = some true) (hN : Nat.blt d N = true) (hrun : ∀ a, Fits N ds l a → (execOp a.eval o).run P w = .ok (.value v) w') (hC : Kept X w0 w')
    (k : WA P N ds ops Q X w0 n f listed tail ((d, v) :: l) w') : WU P N ds ops Q X w0 n f listed tail o l w :=
  ⟨fun a ha i hi => by
    unfold uOp
    simp only [hi]
    rw [want_spec ha hw]
    exact .inl ⟨v, w', hrun a ha, hC, by rw [hd]; exact k.run _ (ha.put hN v)⟩⟩
theorem wu_skip (hd : o.dst = none) (hw : want ops l o = some true) (hrun : ∀ a, Fits N ds l a → (execOp a.eval o).run P w = .ok .skip w') (hC : Kept X w0 w')
    (k : WA P N ds ops Q X w0 n f listed tail l w') : WU P N ds ops Q X w0 n f listed tail o l w :=
  ⟨fun a ha i hi => by
    unfold uOp
    simp only [hi]
    rw [want_spec ha hw]
    exact .inr (.inr ⟨w', hrun a ha, hC, by rw [hd]; exact k.run _ ha⟩)⟩
theorem mu_allocS {pl : List (Nat × Nat)} {z : List Value} [hS : StructT P t pl z] {n' by_ : Nat} [Elem P t n' by_] {I0 : Imm} (hm : Mem ⟨w0, X, I0⟩ I H w) (hw : want ops l ⟨some d, .alloc t, ty, pos, af, g⟩ = some true) (hN : Nat.blt d N = true)
    (k : ∀ b w', Mem ⟨w0, X, I0⟩ I (.obj b (.cells z.toArray t (0, 0)) :: H) w' → WA P N ds ops Q X w0 n f listed tail ((d, .pointer (some ⟨b, 0, none⟩)) :: l) w') :
    WU P N ds ops Q X w0 n f listed tail ⟨some d, .alloc t, ty, pos, af, g⟩ l w := by
  obtain ⟨_, _, _, hz⟩ := hS.out
  cases hi : P.info? t with
  | none => simp [hi] at hz
  | some i =>
    simp only [hi, Option.bind_some] at hz
    have hk := Kept.alloc w (.cells z.toArray t (0, 0))
    have hm' := hm.add (x := .obj w.heap.size (.cells z.toArray t (0, 0))) hk (heap_alloc_new w _) (fun b hb => by simp only [HItem.blk, Option.some.injEq] at hb; omega)
    refine wu_value (w' := w.alloc (.cells z.toArray t (0, 0))) (v := .pointer (some ⟨w.heap.size, 0, none⟩)) rfl hw hN (fun a ha => ?_) hm'.kept (k _ _ hm')
    simp [execOp, Instr.alloc, newVar, newRow, newObj, zeroValue, typeInfo, hi, hz, Value.cells]; rfl
/-- a walk holds here. -/
structure WHold (p : Prop) : Prop where
  out : p
theorem wc_hold (id : Nat) {dr : Bool} (h : WHold (WC P N ds (.region id ops dr) Q l w)) : WC P N ds (.region id ops dr) Q l w := h.out
/-- such a region, cut at its end: the ways through it meet. -/
theorem wc_midF {α : Type} (id : Nat) (L : α → Log) (J : α → World → Prop)
    (h : WC P N ds (.region id os.toArray true) (Exit.then (fun a w => ∃ x, Fits N ds (L x) a ∧ J x w) Q) l w) (k : ∀ x w, J x w → At N ds Q .normal (L x) w) : WC P N ds (.region id os.toArray true) Q l w :=
  ⟨fun a ha => wp_mono (h.run a ha) (fun e a w q => by
    cases e <;> first | exact q | (obtain ⟨x, hx, hj⟩ := q; exact (k x w hj).run a hx))⟩
theorem iw_indexAddr {e : TypeId} {sz by_ : Nat} {KV : Act → Prop} [TySlice P t e] [Elem P e sz by_] {a : Option Addr} {m cp : Nat} {i : Int} {xs : List Value} (hw : want ops l ⟨some d, .indexAddr t x y, ty, pos, af, g⟩ = some true) (hN : Nat.blt d N = true)
    (hx : ev l x = some (.slice a m cp)) (hy : ev l y = some (.int .i64 i)) (hr : RowI I e sz (.slice a m cp) m xs) (h0 : 0 ≤ i) (h1 : i < m)
    (k : ∀ b off, PtrI I b off e ((xs.drop (i.toNat * sz)).take sz) → WV P N ds ops X w KV os ((d, .pointer (some ⟨b, off, none⟩)) :: l)) :
    WV P N ds ops X w KV (⟨some d, .indexAddr t x y, ty, pos, af, g⟩ :: os) l := by
  obtain ⟨b, off, rfl, hp⟩ := hr.at_ i.toNat (by omega)
  exact v_indexAddr hw hN hx hy h0 h1 (k b _ hp)
theorem mu_storeAll {i b n' by_ : Nat} [Elem P t n' by_] {c vs : List Value} {e : TypeId} {dst : Option Nat} {I0 : Imm} (hm : Mem ⟨w0, X, I0⟩ I H w) (hd : dst = none) (hw : want ops l ⟨dst, .store t x y, ty, pos, af, g⟩ = some true)
    (hx : ev l x = some (.pointer (some ⟨b, 0, none⟩))) (hy : ev l y = some (.agg vs.toArray)) (hb : H[i]? = some (.obj b (.cells c.toArray e (0, 0)))) (hn : vs.length = n') (ho : c.length = n')
    (h1 : vs.all (·.oneCell') = true)
    (k : ∀ w', Mem ⟨w0, X, I0⟩ I (H.set i (.obj b (.cells vs.toArray e (0, 0)))) w' → WA P N ds ops Q X w0 n f listed tail l w') :
    WU P N ds ops Q X w0 n f listed tail ⟨dst, .store t x y, ty, pos, af, g⟩ l w := by
  subst hd
  have hget := hm.get hb
  have h2 := run_storeVar (P := P) (t := t) (off := 0) (.agg vs.toArray) hget (by simpa [Value.cells] using hn) (by simp [ho]) (by simpa [Value.cells] using h1)
  generalize hc' : (c.toArray.toList.take 0 ++ (Value.agg vs.toArray).cells.toList ++ c.toArray.toList.drop (0 + n')).toArray = c' at h2
  have e0 : c' = vs.toArray := by
    rw [← hc', Nat.zero_add, ← ho]
    simp [Value.cells]
  rw [e0] at h2
  have hk : Kept [b] w (w.setRow b vs.toArray) := Kept.setRow hget _
  have hm' := hm.turn (h' := .obj b (.cells vs.toArray e (0, 0))) hb (by simpa [HItem.blk] using hk) (by
    show (w.setRow b vs.toArray).heap[b]? = _
    rw [setRow_heap w b c.toArray _ e (0, 0) hget]) (.inl rfl)
  refine wu_skip rfl hw (fun a ha => ?_) hm'.kept (k _ hm')
  simp only [execOp, Instr.storeAt, Instr.sureAddr, ha.ev hx, ha.ev hy, Sem.run_bind, Sem.run_pure, Result.andThen, h2]
end
end Go.Fw
end
