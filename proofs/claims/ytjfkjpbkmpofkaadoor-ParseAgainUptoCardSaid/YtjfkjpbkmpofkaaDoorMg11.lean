/- Own work: texts PpF, PpG, one behind the other. -/
import Derived.Test.YtjfkjpbkmpofkaaDoorMg10
section
namespace Go.Fw
theorem front_perm {α : Type} : ∀ (H : List α) (k : Nat) (x : α), H[k]? = some x → H.Perm (x :: H.eraseIdx k)
  | [], _, _, h => by simp at h
  | a :: H, 0, x, h => by
    simp only [List.getElem?_cons_zero, Option.some.injEq] at h
    subst h
    exact .refl _
  | a :: H, k + 1, x, h => ((front_perm H k x (by simpa using h)).cons a).trans (.swap _ _ _)
theorem Mem.front {E : Ent} {I : Imm} {H : List HItem} {w : World} (hm : Mem E I H w) (k : Nat) {x : HItem} (h : H[k]? = some x) : Mem E I (x :: H.eraseIdx k) w := by
  exact hm.perm (front_perm H k x h)
end Go.Fw
namespace Go.Proofs.YtjfkjpbkmpofkaaDoor
open Go.Fw
section
variable {T : Sp.Src} {pb f : Nat} {I : Imm} {la : Option Addr} {lc deep : Nat} {da : Option Addr} {dc : Nat} {s : Sp.St}
/-- the end of 'atom', its deferred step back. -/
theorem p_retA {E : Ent} {N i b1 b2 ec : Nat} {ea : Option Addr} {xs : List Value} {R : List HItem} {l : Log} {w : World} {e : Sp.Ex} {s' : Sp.St} (hdp : deep ≤ 12) (hx : lk l 2 = some (ptr b2))
    (hm : Mem E I (.cell b1 [ptr pb] 61 :: qObj pb la lc T s' (deep + 1) da dc :: dgRow s'.ds da dc :: R) w) (hb : R[i]? = some (.cell b2 (exCells e ea ec) 83))
    (hrow : RowI I 83 6 (.slice ea e.args.length ec) e.args.length xs) (hexs : ExsAt I e.args xs) :
    At N [⟨.fn (.func 57) #[ptr b1], #[]⟩] (bodyPostD Tryd.prog Tryd.f54 (Ret (fun v w' => ∃ I' H', ToQE pb la lc T deep (e, s') v I' H' ∧ Mem E I' H' w'))) .ret l w :=
  m_retD_cell (i := i + 3) (H' := .cell b1 [ptr pb] 61 :: qObj pb la lc T s' deep da dc :: dgRow s'.ds da dc :: R) rfl hx (p_decA hdp hm) hb rfl
    (fun w' hm' => ⟨I, _, ⟨⟨ea, ec, xs, rfl, hrow, hexs⟩, da, dc, rfl⟩, hm'.tl.left (H := [_, _])⟩)
theorem ex0_row (I : Imm) : RowI I 83 6 (.slice none ([] : List Sp.Ex).length 0) ([] : List Sp.Ex).length [] := rowI_nil _ _ _ _ _
set_option maxHeartbeats 4000000 in
theorem pa_end (hT : Ok T) (hr : TokR I T la lc) (hi : s.i ≤ T.l.length) (hd : s.ds.length + 4 ≤ 1099511627776) (hend : T.l.length ≤ s.i) :
    CalM Tryd.prog 54 #[ptr pb] I (QSt pb la lc T s deep da dc) (ToQE pb la lc T deep (Sp.none_ T s 2)) := by
  refine CalM.of fun w E hm => enter_defers (N := 153) Tryd.func54 rfl [(0, ptr pb)] args1 rfl ?_
  repeat' (first
    | (refine m_readC hm (by rfl) (by rfl) (by rfl) (by first | exact sub_nil | exact sub1_0 | exact sub1_1 | exact sub1_2 | exact sub1_3 | exact sub2_0 | exact sub2_1 | exact sub2_2 | exact sub2_3 | exact sub2_4) (p_here s hr) ?_; clear hm; intro _ hm)
    | (refine m_call hm (by rfl) (by rfl) (by rfl) (by first | exact pm0 | exact pm1_0 | exact pm1_1 | exact pm1_2 | exact pm1_3 | exact pm2_0 | exact pm2_1 | exact pm2_2 | exact pm2_3 | exact pm2_4 | exact pm3_0 | exact pm3_1 | exact pm3_2) (p_none s 2 hr hT hi (by omega)) ?_; clear hm; rintro _ _ _ _ ⟨⟨ea, ec, xs, rfl, hrow, hexs⟩, da', dc', rfl⟩ hle hm; try simp only [setn] at hm)
    | (refine at_retD0_cell hm (by rfl) (by rfl) (by first | exact gt0 | exact gt1 | exact gt2 | exact gt3 | exact gt4 | exact gt5 | exact gt6) (by rfl) ?_)
    | (refine m_box (d := 1) hm (by rfl) (by rfl) (by rfl) (by rfl) ?_; clear hm; intro b1 _ hm)
    | (refine m_allocS (d := 2) hm (by rfl) (by rfl) ?_; clear hm; intro b2 _ hm)
    | refine m_load1 hm (by rfl) (by rfl) (by rfl) (by first | exact gt0 | exact gt1 | exact gt2 | exact gt3 | exact gt4 | exact gt5 | exact gt6) (by rfl) ?_
    | refine mq_load1 hm (by rfl) (by rfl) (by rfl) (by first | exact gt0 | exact gt1 | exact gt2 | exact gt3 | exact gt4 | exact gt5 | exact gt6) (by rfl) ?_
    | (refine m_storeAll hm (by rfl) (by rfl) (by rfl) (by rfl) (by first | exact gt0 | exact gt1 | exact gt2 | exact gt3 | exact gt4 | exact gt5 | exact gt6) (by rfl) (by rfl) (by rfl) ?_; clear hm; intro _ hm; try simp only [setn] at hm)
    | refine op_assign (by rfl) (by rfl) (by rfl) ?_
    | refine wl_nil ?_
    | refine at_then_normal ?_
    | refine at_then_ret ?_
    | refine wc_seq ?_
    | refine wc_region ?_
    | refine wc_ret ?_
    | refine wc_quiet (by kernel_rfl) ?_
    | (refine wq_nil ?_; intro _ hkq; replace hm := hm.kept0 hkq; clear hkq)
    | (refine wc_cond_dec (by rfl) (fun _ => ?_) (fun _ => ?_) <;> (try first | contradiction | (exfalso; omega)))
    | refine q_eql (by rfl) (by rfl) (by rfl) (by rfl) ?_
    | refine q_len_slice (by rfl) (by rfl) (by rfl) ?_
    | refine q_nilCheck (by rfl) (by rfl) (by rfl) ?_
    | refine q_fieldAddr (by rfl) (by rfl) (by rfl) ?_)
  all_goals try (exfalso; omega)
  exact ⟨_, _, ⟨⟨ea, ec, xs, rfl, hrow, hexs⟩, da', dc', rfl⟩, hm.left (H := [_, _])⟩
set_option maxHeartbeats 4000000 in
theorem pa_deep (hT : Ok T) (hr : TokR I T la lc) (hi : s.i ≤ T.l.length) (hd : s.ds.length + 4 ≤ 1099511627776) (hend : s.i < T.l.length) (hdp : deep = 12) :
    CalM Tryd.prog 54 #[ptr pb] I (QSt pb la lc T s deep da dc) (ToQE pb la lc T deep (Sp.none_ T s 12)) := by
  refine CalM.of fun w E hm => enter_defers (N := 153) Tryd.func54 rfl [(0, ptr pb)] args1 rfl ?_
  repeat' (first
    | (refine m_readC hm (by rfl) (by rfl) (by rfl) (by first | exact sub_nil | exact sub1_0 | exact sub1_1 | exact sub1_2 | exact sub1_3 | exact sub2_0 | exact sub2_1 | exact sub2_2 | exact sub2_3 | exact sub2_4) (p_here s hr) ?_; clear hm; intro _ hm)
    | (refine m_call hm (by rfl) (by rfl) (by rfl) (by first | exact pm0 | exact pm1_0 | exact pm1_1 | exact pm1_2 | exact pm1_3 | exact pm2_0 | exact pm2_1 | exact pm2_2 | exact pm2_3 | exact pm2_4 | exact pm3_0 | exact pm3_1 | exact pm3_2) (p_none s 12 hr hT hi (by omega)) ?_; clear hm; rintro _ _ _ _ ⟨⟨ea, ec, xs, rfl, hrow, hexs⟩, da', dc', rfl⟩ hle hm; try simp only [setn] at hm)
    | (refine at_retD0_cell hm (by rfl) (by rfl) (by first | exact gt0 | exact gt1 | exact gt2 | exact gt3 | exact gt4 | exact gt5 | exact gt6) (by rfl) ?_)
    | (refine m_box (d := 1) hm (by rfl) (by rfl) (by rfl) (by rfl) ?_; clear hm; intro b1 _ hm)
    | (refine m_allocS (d := 2) hm (by rfl) (by rfl) ?_; clear hm; intro b2 _ hm)
    | refine m_load1 hm (by rfl) (by rfl) (by rfl) (by first | exact gt0 | exact gt1 | exact gt2 | exact gt3 | exact gt4 | exact gt5 | exact gt6) (by rfl) ?_
    | refine mq_load1 hm (by rfl) (by rfl) (by rfl) (by first | exact gt0 | exact gt1 | exact gt2 | exact gt3 | exact gt4 | exact gt5 | exact gt6) (by rfl) ?_
    | (refine m_storeAll hm (by rfl) (by rfl) (by rfl) (by rfl) (by first | exact gt0 | exact gt1 | exact gt2 | exact gt3 | exact gt4 | exact gt5 | exact gt6) (by rfl) (by rfl) (by rfl) ?_; clear hm; intro _ hm; try simp only [setn] at hm)
    | refine op_assign (by rfl) (by rfl) (by rfl) ?_
    | refine op_eql (by rfl) (by rfl) (by rfl) (by rfl) ?_
    | refine op_nilCheck (by rfl) (by rfl) (by rfl) ?_
    | refine op_fieldAddr (by rfl) (by rfl) (by rfl) ?_
    | refine wl_nil ?_
    | refine at_then_normal ?_
    | refine at_then_ret ?_
    | refine wc_seq ?_
    | refine wc_region ?_
    | refine wc_skip ?_
    | refine wc_ret ?_
    | refine wc_quiet (by kernel_rfl) ?_
    | (refine wq_nil ?_; intro _ hkq; replace hm := hm.kept0 hkq; clear hkq)
    | (refine wc_cond_dec (by rfl) (fun _ => ?_) (fun _ => ?_) <;> (try first | contradiction | (exfalso; omega)))
    | refine q_eql (by rfl) (by rfl) (by rfl) (by rfl) ?_
    | refine q_len_slice (by rfl) (by rfl) (by rfl) ?_
    | refine q_nilCheck (by rfl) (by rfl) (by rfl) ?_
    | refine q_fieldAddr (by rfl) (by rfl) (by rfl) ?_)
  all_goals try (exfalso; omega)
  exact ⟨_, _, ⟨⟨ea, ec, xs, rfl, hrow, hexs⟩, da', dc', rfl⟩, hm.left (H := [_, _])⟩
set_option maxHeartbeats 4000000 in
theorem pa_none (hT : Ok T) (hr : TokR I T la lc) (hi : s.i ≤ T.l.length) (hd : s.ds.length + 4 ≤ 1099511627776) (hend : s.i < T.l.length) (hdp : deep < 12) (hk : (T.tok s.i).kind ≠ 2) (hp : (T.tok s.i).text ≠ [40]) (hname : Sp.name (T.tok s.i).text = false) :
    CalM Tryd.prog 54 #[ptr pb] I (QSt pb la lc T s deep da dc) (ToQE pb la lc T deep (Sp.none_ T s 2)) := by
  have h1 := hT.at_ s.i
  have h2 := hT.size
  have htk := tok_get hend
  have hn := c_name (T.tok s.i).text (by omega)
  rw [hname] at hn
  refine CalM.of fun w E hm => enter_defers (N := 153) Tryd.func54 rfl [(0, ptr pb)] args1 rfl ?_
  repeat' (first
    | (refine m_readC hm (by rfl) (by rfl) (by rfl) (by first | exact sub_nil | exact sub1_0 | exact sub1_1 | exact sub1_2 | exact sub1_3 | exact sub2_0 | exact sub2_1 | exact sub2_2 | exact sub2_3 | exact sub2_4) (p_here s hr) ?_; clear hm; intro _ hm)
    | (refine wc_semi_mem (id := 8) (hm.perm pm0) 10 11 (by kernel_rfl) ?_; clear hm; intro wd hR hm)
    | (refine iw_indexFlat (by rfl) (by rfl) (by rfl) (by rfl) (by exact hr) (by intro _; rfl) (by omega) (by omega) (by exact htk) ?_; intro b1' o1 hp1)
    | (refine op_call (by rfl) (by rfl) (by rfl) (by exact hn _) ?_; rintro _ _ ⟨rfl, hk⟩; replace hm := hm.kept0 hk)
    | (refine m_call hm (by rfl) (by rfl) (by rfl) (by first | exact pm0 | exact pm1_0 | exact pm1_1 | exact pm1_2 | exact pm1_3 | exact pm2_0 | exact pm2_1 | exact pm2_2 | exact pm2_3 | exact pm2_4 | exact pm3_0 | exact pm3_1 | exact pm3_2) (p_none s 2 hr hT hi (by omega)) ?_; clear hm; rintro _ _ _ _ ⟨⟨ea, ec, xs, rfl, hrow, hexs⟩, da', dc', rfl⟩ hle hm; try simp only [setn] at hm)
    | refine mw_load1 hR (by rfl) (by rfl) (by rfl) (by first | exact gt0 | exact gt1 | exact gt2 | exact gt3 | exact gt4 | exact gt5 | exact gt6) (by rfl) ?_
    | refine iw_loadN hR (by rfl) (by rfl) (by rfl) (by assumption) (by rfl) ?_
    | (refine mt_allocS (d := 4) hm (by rfl) (by rfl) ?_; clear hm; intro b4 _ hm)
    | (refine ws_nil ?_; replace hm := hR.back hm; clear hR; try simp only [setn] at hm)
    | (refine m_box (d := 1) hm (by rfl) (by rfl) (by rfl) (by rfl) ?_; clear hm; intro b1 _ hm)
    | (refine m_allocS (d := 2) hm (by rfl) (by rfl) ?_; clear hm; intro b2 _ hm)
    | refine m_load1 hm (by rfl) (by rfl) (by rfl) (by first | exact gt0 | exact gt1 | exact gt2 | exact gt3 | exact gt4 | exact gt5 | exact gt6) (by rfl) ?_
    | refine mq_load1 hm (by rfl) (by rfl) (by rfl) (by first | exact gt0 | exact gt1 | exact gt2 | exact gt3 | exact gt4 | exact gt5 | exact gt6) (by rfl) ?_
    | (refine m_storeAll hm (by rfl) (by rfl) (by rfl) (by rfl) (by first | exact gt0 | exact gt1 | exact gt2 | exact gt3 | exact gt4 | exact gt5 | exact gt6) (by rfl) (by rfl) (by rfl) ?_; clear hm; intro _ hm; try simp only [setn] at hm)
    | (refine m_store1 hm (by rfl) (by rfl) (by rfl) (by rfl) (by first | exact gt0 | exact gt1 | exact gt2 | exact gt3 | exact gt4 | exact gt5 | exact gt6) (by rfl) (by rfl) (by rfl) ?_; clear hm; intro _ hm; try simp only [setn] at hm)
    | refine op_assign (by rfl) (by rfl) (by rfl) ?_
    | refine op_eql (by rfl) (by rfl) (by rfl) (by rfl) ?_
    | refine op_eql_str (by rfl) (by rfl) (by rfl) (by rfl) ?_
    | refine op_not (by rfl) (by rfl) (by rfl) ?_
    | refine op_nilCheck (by rfl) (by rfl) (by rfl) ?_
    | refine op_makeFunc (by rfl) (by rfl) (by rfl) ?_
    | refine op_add (by rfl) (by rfl) (by rfl) (by rfl) (by omega) ?_
    | refine op_fieldAddr (by rfl) (by rfl) (by rfl) ?_
    | refine wl_nil ?_
    | refine at_then_normal ?_
    | refine at_then_ret ?_
    | refine at_block_ret ?_
    | refine wc_seq ?_
    | refine wc_region ?_
    | refine wc_block ?_
    | refine wc_skip ?_
    | refine wc_ret ?_
    | refine op_defer (by rfl) (by rfl) (by rfl) ?_
    | refine wc_quiet (by kernel_rfl) ?_
    | (refine wq_nil ?_; intro _ hkq; replace hm := hm.kept0 hkq; clear hkq)
    | refine wc_cond_true (by rfl) ?_
    | (refine wc_cond_dec (by rfl) (fun _ => ?_) (fun _ => ?_) <;> (try first | contradiction | (exfalso; omega)))
    | refine q_eql (by rfl) (by rfl) (by rfl) (by rfl) ?_
    | refine q_len_slice (by rfl) (by rfl) (by rfl) ?_
    | refine q_nilCheck (by rfl) (by rfl) (by rfl) ?_
    | refine q_fieldAddr (by rfl) (by rfl) (by rfl) ?_
    | refine v_nilCheck (by rfl) (by rfl) (by rfl) ?_
    | refine v_fieldAddr (by rfl) (by rfl) (by rfl) ?_
    | refine wv_nil ?_)
  all_goals try (exfalso; first | omega | contradiction)
  exact p_retA (i := 1) (by omega) rfl (hm.front 4 rfl) rfl hrow hexs
set_option maxHeartbeats 4000000 in
theorem pa_num (hT : Ok T) (hC : Conv I) (hr : TokR I T la lc) (hi : s.i ≤ T.l.length) (hd : s.ds.length + 4 ≤ 1099511627776) (hend : s.i < T.l.length) (hdp : deep < 12) (hk : (T.tok s.i).kind = 2) :
    CalM Tryd.prog 54 #[ptr pb] I (QSt pb la lc T s deep da dc) (ToQE pb la lc T deep
      (if 1000000000 < Sp.digits (T.tok s.i).text then (.mk 1 [] 0 [] (T.tok s.i).pos ((T.tok s.i).pos + (T.tok s.i).text.length), (s.bad T 3).next) else (.mk 1 [] (Sp.digits (T.tok s.i).text) [] (T.tok s.i).pos ((T.tok s.i).pos + (T.tok s.i).text.length), s.next))) := by
  have h1 := hT.at_ s.i
  have h2 := hT.size
  have h3 := hT.len
  have htk := tok_get hend
  have hl1 : 1 ≤ (T.tok s.i).text.length := by
    rw [Sp.Src.tok, List.getD_eq_getElem?_getD, List.getElem?_eq_getElem hend]
    exact hT.len1 _ (List.getElem_mem hend)
  have hat := p_atoi (I := I) (T.tok s.i).text hl1 (by omega) (hT.digs hk) hC
  have hbi : (s.bad T 3).i = s.i := rfl
  have hen : T.endOf (s.i + 1) = (T.tok s.i).pos + (T.tok s.i).text.length := rfl
  have hls := p_last (pb := pb) (deep := deep + 1) (da := da) (dc := dc) s.next hr hT (by rw [Sp.next_i]; omega)
  have hlb := fun da dc => p_last (pb := pb) (deep := deep + 1) (da := da) (dc := dc) (s.bad T 3).next hr hT (by rw [Sp.next_i]; omega)
  rw [show T.endOf s.next.i = (T.tok s.i).pos + (T.tok s.i).text.length from hen] at hls
  rw [show T.endOf (s.bad T 3).next.i = (T.tok s.i).pos + (T.tok s.i).text.length from hen] at hlb
  refine CalM.of fun w E hm => enter_defers (N := 153) Tryd.func54 rfl [(0, ptr pb)] args1 rfl ?_
  by_cases hbig : 1000000000 < Sp.digits (T.tok s.i).text
  · rw [if_pos hbig]
    repeat' (first
      | (refine m_readC hm (by rfl) (by rfl) (by rfl) (by first | exact sub_nil | exact sub1_0 | exact sub1_1 | exact sub1_2 | exact sub1_3 | exact sub2_0 | exact sub2_1 | exact sub2_2 | exact sub2_3 | exact sub2_4) (p_here s hr) ?_; clear hm; intro _ hm)
      | (refine wc_semi_mem (id := 8) (hm.perm pm0) 10 11 (by kernel_rfl) ?_; clear hm; intro wd hR hm)
      | (refine iw_indexFlat (by rfl) (by rfl) (by rfl) (by rfl) (by exact hr) (by intro _; rfl) (by omega) (by omega) (by exact htk) ?_; intro b1' o1 hp1)
      | (refine m_call hm (by rfl) (by rfl) (by rfl) (by first | exact pm0 | exact pm1_0 | exact pm1_1 | exact pm1_2 | exact pm1_3 | exact pm2_0 | exact pm2_1 | exact pm2_2 | exact pm2_3 | exact pm2_4 | exact pm3_0 | exact pm3_1 | exact pm3_2) (hat) ?_; clear hm; rintro _ _ _ _ ⟨rfl, rfl, (⟨hsm, rfl⟩ | ⟨_, nv, ev, rfl, (⟨rfl, hnv⟩ | ⟨te, pe, rfl⟩)⟩)⟩ hle hm; try simp only [setn] at hm)
      | (refine op_neq_held (by rfl) (by rfl) (by rfl) (by rfl) (by kernel_rfl) ?_)
      | (refine op_neq_none (by rfl) (by rfl) (by rfl) (by rfl) (by kernel_rfl) ?_)
      | (refine m_call hm (by rfl) (by rfl) (by rfl) (by first | exact pm0 | exact pm1_0 | exact pm1_1 | exact pm1_2 | exact pm1_3 | exact pm2_0 | exact pm2_1 | exact pm2_2 | exact pm2_3 | exact pm2_4 | exact pm3_0 | exact pm3_1 | exact pm3_2) (p_tell s 3 hr hT hi (by omega)) ?_; clear hm; rintro _ _ _ _ ⟨rfl, rfl, da', dc', rfl⟩ hle hm; try simp only [setn] at hm)
      | (refine m_readC hm (by rfl) (by rfl) (by rfl) (by first | exact sub_nil | exact sub1_0 | exact sub1_1 | exact sub1_2 | exact sub1_3 | exact sub2_0 | exact sub2_1 | exact sub2_2 | exact sub2_3 | exact sub2_4) (hlb _ _) ?_; clear hm; intro _ hm)
      | refine mw_load1 hR (by rfl) (by rfl) (by rfl) (by first | exact gt0 | exact gt1 | exact gt2 | exact gt3 | exact gt4 | exact gt5 | exact gt6) (by rfl) ?_
      | refine iw_loadN hR (by rfl) (by rfl) (by rfl) (by assumption) (by rfl) ?_
      | (refine mt_allocS (d := 4) hm (by rfl) (by rfl) ?_; clear hm; intro b4 _ hm)
      | (refine ws_nil ?_; replace hm := hR.back hm; clear hR; try simp only [setn] at hm)
      | (refine m_box (d := 1) hm (by rfl) (by rfl) (by rfl) (by rfl) ?_; clear hm; intro b1 _ hm)
      | (refine m_allocS (d := 2) hm (by rfl) (by rfl) ?_; clear hm; intro b2 _ hm)
      | refine m_load1 hm (by rfl) (by rfl) (by rfl) (by first | exact gt0 | exact gt1 | exact gt2 | exact gt3 | exact gt4 | exact gt5 | exact gt6) (by rfl) ?_
      | refine mq_load1 hm (by rfl) (by rfl) (by rfl) (by first | exact gt0 | exact gt1 | exact gt2 | exact gt3 | exact gt4 | exact gt5 | exact gt6) (by rfl) ?_
      | (refine m_storeAll hm (by rfl) (by rfl) (by rfl) (by rfl) (by first | exact gt0 | exact gt1 | exact gt2 | exact gt3 | exact gt4 | exact gt5 | exact gt6) (by rfl) (by rfl) (by rfl) ?_; clear hm; intro _ hm; try simp only [setn] at hm)
      | (refine m_store1 hm (by rfl) (by rfl) (by rfl) (by rfl) (by first | exact gt0 | exact gt1 | exact gt2 | exact gt3 | exact gt4 | exact gt5 | exact gt6) (by rfl) (by rfl) (by rfl) ?_; clear hm; intro _ hm; try simp only [setn] at hm)
      | refine op_move (by rfl) (by rfl) (by rfl) ?_
      | refine op_assign (by rfl) (by rfl) (by rfl) ?_
      | refine op_pick_true (by rfl) (by rfl) (by rfl) (by rfl) ?_
      | refine op_pick_false (by rfl) (by rfl) (by rfl) (by rfl) ?_
      | refine op_gtr (by rfl) (by rfl) (by rfl) (by rfl) ?_
      | refine op_eql (by rfl) (by rfl) (by rfl) (by rfl) ?_
      | refine op_extract (by rfl) (by rfl) (by rfl) (by rfl) ?_
      | refine op_nilCheck (by rfl) (by rfl) (by rfl) ?_
      | refine op_makeFunc (by rfl) (by rfl) (by rfl) ?_
      | refine op_add (by rfl) (by rfl) (by rfl) (by rfl) (by omega) ?_
      | refine op_fieldAddr (by rfl) (by rfl) (by rfl) ?_
      | refine op_struct (by rfl) (by rfl) (by rfl) (by rfl) ?_
      | refine wl_skip (by rfl) (by rfl) (by rfl) ?_
      | refine wl_nil ?_
      | refine at_then_normal ?_
      | refine at_then_ret ?_
      | refine at_block_ret ?_
      | refine wc_seq ?_
      | refine wc_region ?_
      | refine wc_block ?_
      | refine wc_skip ?_
      | refine wc_ret ?_
      | refine op_defer (by rfl) (by rfl) (by rfl) ?_
      | refine wc_quiet (by kernel_rfl) ?_
      | (refine wq_nil ?_; intro _ hkq; replace hm := hm.kept0 hkq; clear hkq)
      | refine wc_cond_true (by rfl) ?_
      | (refine wc_cond_dec (by rfl) (fun _ => ?_) (fun _ => ?_) <;> (try first | contradiction | (exfalso; omega)))
      | refine q_eql (by rfl) (by rfl) (by rfl) (by rfl) ?_
      | refine q_len_slice (by rfl) (by rfl) (by rfl) ?_
      | refine q_nilCheck (by rfl) (by rfl) (by rfl) ?_
      | refine q_fieldAddr (by rfl) (by rfl) (by rfl) ?_
      | refine v_nilCheck (by rfl) (by rfl) (by rfl) ?_
      | refine v_fieldAddr (by rfl) (by rfl) (by rfl) ?_
      | refine wv_nil ?_)
    all_goals try (exfalso; first | omega | contradiction)
    all_goals exact p_retA (i := 1) (e := .mk 1 [] 0 [] (T.tok s.i).pos ((T.tok s.i).pos + (T.tok s.i).text.length)) (s' := (s.bad T 3).next) (by omega) rfl (hm.front 4 rfl) rfl (ex0_row _) .nil
  · rw [if_neg hbig]
    repeat' (first
      | (refine m_readC hm (by rfl) (by rfl) (by rfl) (by first | exact sub_nil | exact sub1_0 | exact sub1_1 | exact sub1_2 | exact sub1_3 | exact sub2_0 | exact sub2_1 | exact sub2_2 | exact sub2_3 | exact sub2_4) (p_here s hr) ?_; clear hm; intro _ hm)
      | (refine wc_semi_mem (id := 8) (hm.perm pm0) 10 11 (by kernel_rfl) ?_; clear hm; intro wd hR hm)
      | (refine iw_indexFlat (by rfl) (by rfl) (by rfl) (by rfl) (by exact hr) (by intro _; rfl) (by omega) (by omega) (by exact htk) ?_; intro b1' o1 hp1)
      | (refine m_call hm (by rfl) (by rfl) (by rfl) (by first | exact pm0 | exact pm1_0 | exact pm1_1 | exact pm1_2 | exact pm1_3 | exact pm2_0 | exact pm2_1 | exact pm2_2 | exact pm2_3 | exact pm2_4 | exact pm3_0 | exact pm3_1 | exact pm3_2) (hat) ?_; clear hm; rintro _ _ _ _ ⟨rfl, rfl, (⟨hsm, rfl⟩ | ⟨hbg, nv, ev, rfl, _⟩)⟩ hle hm; try simp only [setn] at hm)
      | (refine op_neq_none (by rfl) (by rfl) (by rfl) (by rfl) (by kernel_rfl) ?_)
      | (refine m_readC hm (by rfl) (by rfl) (by rfl) (by first | exact sub_nil | exact sub1_0 | exact sub1_1 | exact sub1_2 | exact sub1_3 | exact sub2_0 | exact sub2_1 | exact sub2_2 | exact sub2_3 | exact sub2_4) (hls) ?_; clear hm; intro _ hm)
      | refine mw_load1 hR (by rfl) (by rfl) (by rfl) (by first | exact gt0 | exact gt1 | exact gt2 | exact gt3 | exact gt4 | exact gt5 | exact gt6) (by rfl) ?_
      | refine iw_loadN hR (by rfl) (by rfl) (by rfl) (by assumption) (by rfl) ?_
      | (refine mt_allocS (d := 4) hm (by rfl) (by rfl) ?_; clear hm; intro b4 _ hm)
      | (refine ws_nil ?_; replace hm := hR.back hm; clear hR; try simp only [setn] at hm)
      | (refine m_box (d := 1) hm (by rfl) (by rfl) (by rfl) (by rfl) ?_; clear hm; intro b1 _ hm)
      | (refine m_allocS (d := 2) hm (by rfl) (by rfl) ?_; clear hm; intro b2 _ hm)
      | refine m_load1 hm (by rfl) (by rfl) (by rfl) (by first | exact gt0 | exact gt1 | exact gt2 | exact gt3 | exact gt4 | exact gt5 | exact gt6) (by rfl) ?_
      | refine mq_load1 hm (by rfl) (by rfl) (by rfl) (by first | exact gt0 | exact gt1 | exact gt2 | exact gt3 | exact gt4 | exact gt5 | exact gt6) (by rfl) ?_
      | (refine m_storeAll hm (by rfl) (by rfl) (by rfl) (by rfl) (by first | exact gt0 | exact gt1 | exact gt2 | exact gt3 | exact gt4 | exact gt5 | exact gt6) (by rfl) (by rfl) (by rfl) ?_; clear hm; intro _ hm; try simp only [setn] at hm)
      | (refine m_store1 hm (by rfl) (by rfl) (by rfl) (by rfl) (by first | exact gt0 | exact gt1 | exact gt2 | exact gt3 | exact gt4 | exact gt5 | exact gt6) (by rfl) (by rfl) (by rfl) ?_; clear hm; intro _ hm; try simp only [setn] at hm)
      | refine op_move (by rfl) (by rfl) (by rfl) ?_
      | refine op_assign (by rfl) (by rfl) (by rfl) ?_
      | refine op_pick_false (by rfl) (by rfl) (by rfl) (by rfl) ?_
      | refine op_gtr (by rfl) (by rfl) (by rfl) (by rfl) ?_
      | refine op_eql (by rfl) (by rfl) (by rfl) (by rfl) ?_
      | refine op_extract (by rfl) (by rfl) (by rfl) (by rfl) ?_
      | refine op_nilCheck (by rfl) (by rfl) (by rfl) ?_
      | refine op_makeFunc (by rfl) (by rfl) (by rfl) ?_
      | refine op_add (by rfl) (by rfl) (by rfl) (by rfl) (by omega) ?_
      | refine op_fieldAddr (by rfl) (by rfl) (by rfl) ?_
      | refine op_struct (by rfl) (by rfl) (by rfl) (by rfl) ?_
      | refine wl_nil ?_
      | refine at_then_normal ?_
      | refine at_then_ret ?_
      | refine at_block_ret ?_
      | refine wc_seq ?_
      | refine wc_region ?_
      | refine wc_block ?_
      | refine wc_skip ?_
      | refine wc_ret ?_
      | refine op_defer (by rfl) (by rfl) (by rfl) ?_
      | refine wc_quiet (by kernel_rfl) ?_
      | (refine wq_nil ?_; intro _ hkq; replace hm := hm.kept0 hkq; clear hkq)
      | (refine wc_cond_dec (by rfl) (fun _ => ?_) (fun _ => ?_) <;> (try first | contradiction | (exfalso; omega)))
      | refine q_eql (by rfl) (by rfl) (by rfl) (by rfl) ?_
      | refine q_len_slice (by rfl) (by rfl) (by rfl) ?_
      | refine q_nilCheck (by rfl) (by rfl) (by rfl) ?_
      | refine q_fieldAddr (by rfl) (by rfl) (by rfl) ?_
      | refine v_nilCheck (by rfl) (by rfl) (by rfl) ?_
      | refine v_fieldAddr (by rfl) (by rfl) (by rfl) ?_
      | refine wv_nil ?_)
    all_goals try (exfalso; first | omega | contradiction)
    exact p_retA (i := 1) (e := .mk 1 [] (Sp.digits (T.tok s.i).text) [] (T.tok s.i).pos ((T.tok s.i).pos + (T.tok s.i).text.length)) (s' := s.next) (by omega) rfl (((hm.front 4 rfl).front 4 rfl).front 4 rfl) rfl (ex0_row _) .nil
end
end Go.Proofs.YtjfkjpbkmpofkaaDoor
end
section
namespace Go.Proofs.YtjfkjpbkmpofkaaDoor
open Go.Fw
section
variable {T : Sp.Src} {pb f : Nat} {I : Imm} {la : Option Addr} {lc deep : Nat} {da : Option Addr} {dc : Nat} {s : Sp.St}
set_option maxHeartbeats 4000000 in
theorem pa_par (hT : Ok T) (hC : Conv I) (hr : TokR I T la lc) (hf : 3 * (T.l.length - s.i) + 2 ≤ f + 1) (ih : ExprQ T pb f)
    (hd : s.ds.length + 2 * (T.l.length - s.i) + 4 ≤ 1099511627776) (hend : s.i < T.l.length) (hdp : deep < 12) (hk : (T.tok s.i).kind ≠ 2) (hpar : (T.tok s.i).text = [40]) :
    CalM Tryd.prog 54 #[ptr pb] I (QSt pb la lc T s deep da dc) (ToQE pb la lc T deep ((Sp.expr T f (deep + 1) 1 s.next).1, ((Sp.expr T f (deep + 1) 1 s.next).2.need T [41]).2)) := by
  have h1 := hT.at_ s.i
  have h2 := hT.size
  have h3 := hT.len
  have htk := tok_get hend
  have hex := fun da dc => ih I la lc (deep + 1) da dc s.next 1 hC hr (by rw [Sp.next_i]; omega) (by rw [Sp.next_i]; omega) (by rw [Sp.next_i, Sp.next_ds]; omega) (by omega)
  have hg := (Sp.goes_expr T f).2.2.1 (deep + 1) 1 s.next
  generalize Sp.expr T f (deep + 1) 1 s.next = r at hex hg ⊢
  have hg1 := hg.le
  have hg2 := hg.top (by rw [Sp.next_i]; omega)
  have hg3 := hg.ds
  rw [Sp.next_i] at hg1 hg3
  rw [Sp.next_ds] at hg3
  refine CalM.of fun w E hm => enter_defers (N := 153) Tryd.func54 rfl [(0, ptr pb)] args1 rfl ?_
  repeat' (first
    | (refine m_readC hm (by rfl) (by rfl) (by rfl) (by first | exact sub_nil | exact sub1_0 | exact sub1_1 | exact sub1_2 | exact sub1_3 | exact sub2_0 | exact sub2_1 | exact sub2_2 | exact sub2_3 | exact sub2_4) (p_here s hr) ?_; clear hm; intro _ hm)
    | (refine wc_semi_mem (id := 8) (hm.perm pm0) 10 11 (by kernel_rfl) ?_; clear hm; intro wd hR hm)
    | (refine iw_indexFlat (by rfl) (by rfl) (by rfl) (by rfl) (by exact hr) (by intro _; rfl) (by omega) (by omega) (by exact htk) ?_; intro b1' o1 hp1)
    | (refine m_call hm (by rfl) (by rfl) (by rfl) (by first | exact pm0 | exact pm1_0 | exact pm1_1 | exact pm1_2 | exact pm1_3 | exact pm2_0 | exact pm2_1 | exact pm2_2 | exact pm2_3 | exact pm2_4 | exact pm3_0 | exact pm3_1 | exact pm3_2) (hex _ _) ?_; clear hm; rintro _ I2 _ _ ⟨⟨ea, ec, xs, rfl, hrow, hexs⟩, da', dc', rfl⟩ hle hm; have hleI2 := hle; try simp only [setn] at hm)
    | (refine m_call hm (by rfl) (by rfl) (by rfl) (by first | exact pm0 | exact pm1_0 | exact pm1_1 | exact pm1_2 | exact pm1_3 | exact pm2_0 | exact pm2_1 | exact pm2_2 | exact pm2_3 | exact pm2_4 | exact pm3_0 | exact pm3_1 | exact pm3_2) (p_must r.2 [41] (by simp) (hr.le hleI2) hT (by omega) hg2) ?_; clear hm; rintro _ _ _ _ ⟨rfl, rfl, da2, dc2, rfl⟩ hle hm; try simp only [setn] at hm)
    | refine mw_load1 hR (by rfl) (by rfl) (by rfl) (by first | exact gt0 | exact gt1 | exact gt2 | exact gt3 | exact gt4 | exact gt5 | exact gt6) (by rfl) ?_
    | refine iw_loadN hR (by rfl) (by rfl) (by rfl) (by assumption) (by rfl) ?_
    | (refine mt_allocS (d := 4) hm (by rfl) (by rfl) ?_; clear hm; intro b4 _ hm)
    | (refine ws_nil ?_; replace hm := hR.back hm; clear hR; try simp only [setn] at hm)
    | (refine m_box (d := 1) hm (by rfl) (by rfl) (by rfl) (by rfl) ?_; clear hm; intro b1 _ hm)
    | (refine m_allocS (d := 2) hm (by rfl) (by rfl) ?_; clear hm; intro b2 _ hm)
    | (refine m_varS (d := 7) hm (by rfl) (by rfl) (by rfl) (by rfl) (by rfl) ?_; clear hm; intro b7 _ hm)
    | refine m_load1 hm (by rfl) (by rfl) (by rfl) (by first | exact gt0 | exact gt1 | exact gt2 | exact gt3 | exact gt4 | exact gt5 | exact gt6) (by rfl) ?_
    | refine m_loadAll hm (by rfl) (by rfl) (by rfl) (by first | exact gt0 | exact gt1 | exact gt2 | exact gt3 | exact gt4 | exact gt5 | exact gt6) (by rfl) ?_
    | refine mq_load1 hm (by rfl) (by rfl) (by rfl) (by first | exact gt0 | exact gt1 | exact gt2 | exact gt3 | exact gt4 | exact gt5 | exact gt6) (by rfl) ?_
    | (refine m_storeAll hm (by rfl) (by rfl) (by rfl) (by rfl) (by first | exact gt0 | exact gt1 | exact gt2 | exact gt3 | exact gt4 | exact gt5 | exact gt6) (by rfl) (by rfl) (by rfl) ?_; clear hm; intro _ hm; try simp only [setn] at hm)
    | (refine m_store1 hm (by rfl) (by rfl) (by rfl) (by rfl) (by first | exact gt0 | exact gt1 | exact gt2 | exact gt3 | exact gt4 | exact gt5 | exact gt6) (by rfl) (by rfl) (by rfl) ?_; clear hm; intro _ hm; try simp only [setn] at hm)
    | refine op_assign (by rfl) (by rfl) (by rfl) ?_
    | refine op_eql (by rfl) (by rfl) (by rfl) (by rfl) ?_
    | refine op_eql_str (by rfl) (by rfl) (by rfl) (by rfl) ?_
    | refine op_nilCheck (by rfl) (by rfl) (by rfl) ?_
    | refine op_makeFunc (by rfl) (by rfl) (by rfl) ?_
    | refine op_add (by rfl) (by rfl) (by rfl) (by rfl) (by omega) ?_
    | refine op_fieldAddr (by rfl) (by rfl) (by rfl) ?_
    | refine wl_nil ?_
    | refine at_then_normal ?_
    | refine at_then_ret ?_
    | refine at_block_ret ?_
    | refine wc_seq ?_
    | refine wc_region ?_
    | refine wc_block ?_
    | refine wc_skip ?_
    | refine wc_ret ?_
    | refine op_defer (by rfl) (by rfl) (by rfl) ?_
    | refine wc_quiet (by kernel_rfl) ?_
    | (refine wq_nil ?_; intro _ hkq; replace hm := hm.kept0 hkq; clear hkq)
    | (refine wc_cond_dec (by rfl) (fun _ => ?_) (fun _ => ?_) <;> (try first | contradiction | (exfalso; omega)))
    | refine q_eql (by rfl) (by rfl) (by rfl) (by rfl) ?_
    | refine q_len_slice (by rfl) (by rfl) (by rfl) ?_
    | refine q_nilCheck (by rfl) (by rfl) (by rfl) ?_
    | refine q_fieldAddr (by rfl) (by rfl) (by rfl) ?_
    | refine v_nilCheck (by rfl) (by rfl) (by rfl) ?_
    | refine v_fieldAddr (by rfl) (by rfl) (by rfl) ?_
    | refine wv_nil ?_)
  all_goals try (exfalso; first | omega | contradiction)
  exact p_retA (i := 2) (e := r.1) (s' := (r.2.need T [41]).2) (by omega) rfl (hm.front 5 rfl) rfl hrow hexs
set_option maxHeartbeats 4000000 in
theorem pa_var (hT : Ok T) (hr : TokR I T la lc) (hi : s.i ≤ T.l.length) (hd : s.ds.length + 4 ≤ 1099511627776) (hend : s.i < T.l.length) (hdp : deep < 12) (hk : (T.tok s.i).kind ≠ 2) (hp : (T.tok s.i).text ≠ [40]) (hname : Sp.name (T.tok s.i).text = true) (hopen : T.is (s.i + 1) [40] = false) :
    CalM Tryd.prog 54 #[ptr pb] I (QSt pb la lc T s deep da dc) (ToQE pb la lc T deep (.mk 2 (T.tok s.i).text 0 [] (T.tok s.i).pos ((T.tok s.i).pos + (T.tok s.i).text.length), s.next)) := by
  have h1 := hT.at_ s.i
  have h2 := hT.size
  have h3 := hT.len
  have htk := tok_get hend
  have hn := c_name (T.tok s.i).text (by omega)
  rw [hname] at hn
  have he := fun da dc => p_eat (pb := pb) (deep := deep + 1) (da := da) (dc := dc) s.next [40] (by simp) hr hT (by rw [Sp.next_i]; omega)
  rw [show T.is s.next.i [40] = false from hopen, if_neg (by simp)] at he
  have hen : T.endOf (s.i + 1) = (T.tok s.i).pos + (T.tok s.i).text.length := rfl
  have hls := fun da dc => p_last (pb := pb) (deep := deep + 1) (da := da) (dc := dc) s.next hr hT (by rw [Sp.next_i]; omega)
  rw [show T.endOf s.next.i = (T.tok s.i).pos + (T.tok s.i).text.length from hen] at hls
  refine CalM.of fun w E hm => enter_defers (N := 153) Tryd.func54 rfl [(0, ptr pb)] args1 rfl ?_
  repeat' (first
    | (refine m_readC hm (by rfl) (by rfl) (by rfl) (by first | exact sub_nil | exact sub1_0 | exact sub1_1 | exact sub1_2 | exact sub1_3 | exact sub2_0 | exact sub2_1 | exact sub2_2 | exact sub2_3 | exact sub2_4) (p_here s hr) ?_; clear hm; intro _ hm)
    | (refine wc_semi_mem (id := 8) (hm.perm pm0) 10 11 (by kernel_rfl) ?_; clear hm; intro wd hR hm)
    | (refine iw_indexFlat (by rfl) (by rfl) (by rfl) (by rfl) (by exact hr) (by intro _; rfl) (by omega) (by omega) (by exact htk) ?_; intro b1' o1 hp1)
    | (refine op_call (by rfl) (by rfl) (by rfl) (by exact hn _) ?_; rintro _ _ ⟨rfl, hk⟩; replace hm := hm.kept0 hk)
    | (refine m_call hm (by rfl) (by rfl) (by rfl) (by first | exact pm0 | exact pm1_0 | exact pm1_1 | exact pm1_2 | exact pm1_3 | exact pm2_0 | exact pm2_1 | exact pm2_2 | exact pm2_3 | exact pm2_4 | exact pm3_0 | exact pm3_1 | exact pm3_2) (he _ _) ?_; clear hm; rintro _ _ _ _ ⟨rfl, rfl, da', dc', rfl⟩ hle hm; try simp only [setn] at hm)
    | (refine m_readC hm (by rfl) (by rfl) (by rfl) (by first | exact sub_nil | exact sub1_0 | exact sub1_1 | exact sub1_2 | exact sub1_3 | exact sub2_0 | exact sub2_1 | exact sub2_2 | exact sub2_3 | exact sub2_4) (hls _ _) ?_; clear hm; intro _ hm)
    | refine mw_load1 hR (by rfl) (by rfl) (by rfl) (by first | exact gt0 | exact gt1 | exact gt2 | exact gt3 | exact gt4 | exact gt5 | exact gt6) (by rfl) ?_
    | refine iw_loadN hR (by rfl) (by rfl) (by rfl) (by assumption) (by rfl) ?_
    | (refine mt_allocS (d := 4) hm (by rfl) (by rfl) ?_; clear hm; intro b4 _ hm)
    | (refine ws_nil ?_; replace hm := hR.back hm; clear hR; try simp only [setn] at hm)
    | (refine m_box (d := 1) hm (by rfl) (by rfl) (by rfl) (by rfl) ?_; clear hm; intro b1 _ hm)
    | (refine m_allocS (d := 2) hm (by rfl) (by rfl) ?_; clear hm; intro b2 _ hm)
    | (refine m_varS (d := 8) hm (by rfl) (by rfl) (by rfl) (by rfl) (by rfl) ?_; clear hm; intro b8 _ hm)
    | refine m_load1 hm (by rfl) (by rfl) (by rfl) (by first | exact gt0 | exact gt1 | exact gt2 | exact gt3 | exact gt4 | exact gt5 | exact gt6) (by rfl) ?_
    | refine m_loadAll hm (by rfl) (by rfl) (by rfl) (by first | exact gt0 | exact gt1 | exact gt2 | exact gt3 | exact gt4 | exact gt5 | exact gt6) (by rfl) ?_
    | refine mq_load1 hm (by rfl) (by rfl) (by rfl) (by first | exact gt0 | exact gt1 | exact gt2 | exact gt3 | exact gt4 | exact gt5 | exact gt6) (by rfl) ?_
    | (refine m_storeAll hm (by rfl) (by rfl) (by rfl) (by rfl) (by first | exact gt0 | exact gt1 | exact gt2 | exact gt3 | exact gt4 | exact gt5 | exact gt6) (by rfl) (by rfl) (by rfl) ?_; clear hm; intro _ hm; try simp only [setn] at hm)
    | (refine m_store1 hm (by rfl) (by rfl) (by rfl) (by rfl) (by first | exact gt0 | exact gt1 | exact gt2 | exact gt3 | exact gt4 | exact gt5 | exact gt6) (by rfl) (by rfl) (by rfl) ?_; clear hm; intro _ hm; try simp only [setn] at hm)
    | refine op_move (by rfl) (by rfl) (by rfl) ?_
    | refine op_assign (by rfl) (by rfl) (by rfl) ?_
    | refine op_eql (by rfl) (by rfl) (by rfl) (by rfl) ?_
    | refine op_eql_str (by rfl) (by rfl) (by rfl) (by rfl) ?_
    | refine op_not (by rfl) (by rfl) (by rfl) ?_
    | refine op_nilCheck (by rfl) (by rfl) (by rfl) ?_
    | refine op_makeFunc (by rfl) (by rfl) (by rfl) ?_
    | refine op_add (by rfl) (by rfl) (by rfl) (by rfl) (by omega) ?_
    | refine op_fieldAddr (by rfl) (by rfl) (by rfl) ?_
    | refine op_struct (by rfl) (by rfl) (by rfl) (by rfl) ?_
    | refine wl_nil ?_
    | refine at_then_normal ?_
    | refine at_block_normal ?_
    | refine wc_seq ?_
    | refine wc_region ?_
    | refine wc_block ?_
    | refine wc_skip ?_
    | refine wc_ret ?_
    | refine op_defer (by rfl) (by rfl) (by rfl) ?_
    | refine wc_quiet (by kernel_rfl) ?_
    | (refine wq_nil ?_; intro _ hkq; replace hm := hm.kept0 hkq; clear hkq)
    | refine wc_cond_false (by rfl) ?_
    | (refine wc_cond_dec (by rfl) (fun _ => ?_) (fun _ => ?_) <;> (try first | contradiction | (exfalso; omega)))
    | refine q_eql (by rfl) (by rfl) (by rfl) (by rfl) ?_
    | refine q_len_slice (by rfl) (by rfl) (by rfl) ?_
    | refine q_nilCheck (by rfl) (by rfl) (by rfl) ?_
    | refine q_fieldAddr (by rfl) (by rfl) (by rfl) ?_
    | refine v_nilCheck (by rfl) (by rfl) (by rfl) ?_
    | refine v_fieldAddr (by rfl) (by rfl) (by rfl) ?_
    | refine wv_nil ?_)
  all_goals try (exfalso; first | omega | contradiction)
  exact p_retA (i := 2) (e := .mk 2 (T.tok s.i).text 0 [] (T.tok s.i).pos ((T.tok s.i).pos + (T.tok s.i).text.length)) (s' := s.next) (by omega) rfl (hm.front 5 rfl) rfl (ex0_row _) .nil
end
end Go.Proofs.YtjfkjpbkmpofkaaDoor
end
