/- Own work: texts PpL, PpM, one behind the other. -/
import Derived.Test.YtkbiakajlfmakaaDoorNm13
section
namespace Go.Proofs.YtkbiakajlfmakaaDoor
open Go.Fw
structure QBl where
  f : Nat
  l : List Sp.Stm
  n : Nat
  s : Sp.St
  I : Imm
  a : Option Addr
  cp : Nat
  xs : List Value
  da : Option Addr
  dc : Nat
abbrev stRow (n : Nat) (a : Option Addr) (cp : Nat) (xs : List Value) : HItem := .row (.slice a n cp) 122 15 n xs
theorem p_retB {E : Ent} {N b1 cp lc deep dc pb : Nat} {I : Imm} {T : Sp.Src} {la da a : Option Addr} {xs : List Value} {R : List HItem} {l : Log} {w : World} {b : List Sp.Stm} {s' : Sp.St} (hdp : deep ≤ 12) (hx : lk l 2 = some (.slice a b.length cp))
    (hm : Mem E I (.cell b1 [ptr pb] 189 :: qObj pb la lc T s' (deep + 1) da dc :: dgRow s'.ds da dc :: R) w)
    (hrow : RowI I 122 15 (.slice a b.length cp) b.length xs) (hsts : StsAt I b xs) :
    At N [⟨.fn (.func 185) #[ptr b1], #[]⟩] (bodyPostD Tryd.prog Tryd.f153 (Ret (fun v w' => ∃ I' H', ToQB pb la lc T deep (b, s') v I' H' ∧ Mem E I' H' w'))) .ret l w :=
  at_retD_tmp rfl hx (p_decB hdp hm) (fun w' hm' => ⟨I, _, ⟨⟨a, cp, xs, rfl, hrow, hsts⟩, da, dc, rfl⟩, hm'.tl.left (H := [_, _])⟩)
set_option maxHeartbeats 4000000 in
theorem p_block_step (T : Sp.Src) (pb : Nat) (hT : Ok T) (n : Nat) (ih : ∀ g, g < n → StmQ T pb g) : BlockQ T pb n := by
  intro I la lc deep da dc s hC hr hi hf hd hdp
  obtain ⟨f, rfl⟩ : ∃ f, n = f + 1 := ⟨n - 1, by omega⟩
  have h2 := hT.size
  have h3 := hT.len
  have hn := fun da dc => p_must (pb := pb) (deep := deep) (da := da) (dc := dc) s [123] (by simp) hr hT (by omega) hi
  rw [Sp.St.need] at hn
  rw [Sp.block]
  refine CalM.of fun w E hm => enter_defers (N := 68) Tryd.func153 rfl [(0, ptr pb)] args1 rfl ?_
  by_cases hq : T.is s.i [123] = true
  case neg =>
    rw [if_neg hq] at hn
    rw [show T.is s.i [123] = false by simpa using hq, if_pos (by rfl)]
    repeat' (first
      | (refine m_call hm (by rfl) (by rfl) (by rfl) (by first | exact pm0 | exact pm1_0 | exact pm1_1 | exact pm1_2 | exact pm1_3 | exact pm2_0 | exact pm2_1 | exact pm2_2 | exact pm2_3 | exact pm2_4 | exact pm3_0 | exact pm3_1 | exact pm3_2) (hn _ _) ?_; clear hm; rintro _ _ _ _ ⟨rfl, rfl, da', dc', rfl⟩ hle hm; try simp only [setn] at hm)
      | (refine at_retD0_tmp (by rfl) (by rfl) ?_)
      | (refine m_box (d := 1) hm (by rfl) (by rfl) (by rfl) (by rfl) ?_; clear hm; intro b1 _ hm)
      | refine m_load1 hm (by rfl) (by rfl) (by rfl) (by first | exact gt0 | exact gt1 | exact gt2 | exact gt3 | exact gt4 | exact gt5 | exact gt6) (by rfl) ?_
      | refine op_assign (by rfl) (by rfl) (by rfl) ?_
      | refine op_not (by rfl) (by rfl) (by rfl) ?_
      | refine wl_nil ?_
      | refine at_then_normal ?_
      | refine at_then_ret ?_
      | refine wc_seq ?_
      | refine wc_region ?_
      | refine wc_ret ?_
      | refine wc_cond_true (by rfl) ?_)
    exact ⟨I, _, ⟨⟨none, 0, [], rfl, st_row0 _, .nil⟩, da', dc', rfl⟩, hm.left (H := [_, _])⟩
  rw [if_pos hq] at hn
  rw [hq, if_neg (by simp)]
  have hlt := Sp.is_lt hq
  have hni : s.next.i = s.i + 1 := rfl
  have hnd : s.next.ds.length = s.ds.length := rfl
  by_cases hdeep : 12 ≤ deep
  · rw [if_pos hdeep]
    have hd12 : deep = 12 := by omega
    repeat' (first
      | (refine m_call hm (by rfl) (by rfl) (by rfl) (by first | exact pm0 | exact pm1_0 | exact pm1_1 | exact pm1_2 | exact pm1_3 | exact pm2_0 | exact pm2_1 | exact pm2_2 | exact pm2_3 | exact pm2_4 | exact pm3_0 | exact pm3_1 | exact pm3_2) (hn _ _) ?_; clear hm; rintro _ _ _ _ ⟨rfl, rfl, da', dc', rfl⟩ hle hm; try simp only [setn] at hm)
      | (refine m_call hm (by rfl) (by rfl) (by rfl) (by first | exact pm0 | exact pm1_0 | exact pm1_1 | exact pm1_2 | exact pm1_3 | exact pm2_0 | exact pm2_1 | exact pm2_2 | exact pm2_3 | exact pm2_4 | exact pm3_0 | exact pm3_1 | exact pm3_2) (p_tell s.next 12 hr hT (by omega) (by omega)) ?_; clear hm; rintro _ _ _ _ ⟨rfl, rfl, da2, dc2, rfl⟩ hle hm; try simp only [setn] at hm)
      | (refine at_retD0_tmp (by rfl) (by rfl) ?_)
      | (refine m_box (d := 1) hm (by rfl) (by rfl) (by rfl) (by rfl) ?_; clear hm; intro b1 _ hm)
      | refine m_load1 hm (by rfl) (by rfl) (by rfl) (by first | exact gt0 | exact gt1 | exact gt2 | exact gt3 | exact gt4 | exact gt5 | exact gt6) (by rfl) ?_
      | refine op_assign (by rfl) (by rfl) (by rfl) ?_
      | refine op_eql (by rfl) (by rfl) (by rfl) (by rfl) ?_
      | refine op_not (by rfl) (by rfl) (by rfl) ?_
      | refine op_nilCheck (by rfl) (by rfl) (by rfl) ?_
      | refine op_fieldAddr (by rfl) (by rfl) (by rfl) ?_
      | refine wl_nil ?_
      | refine at_then_normal ?_
      | refine at_then_ret ?_
      | refine wc_seq ?_
      | refine wc_region ?_
      | refine wc_skip ?_
      | refine wc_ret ?_
      | refine wc_cond_false (by rfl) ?_
      | (refine wc_cond_dec (by rfl) (fun _ => ?_) (fun _ => ?_) <;> (try first | contradiction | (exfalso; omega))))
    all_goals try (exfalso; omega)
    exact ⟨I, _, ⟨⟨none, 0, [], rfl, st_row0 _, .nil⟩, da2, dc2, rfl⟩, hm.left (H := [_, _])⟩
  rw [if_neg hdeep]
  dsimp only
  have hg := (Sp.goes_block T f).2.1 (deep + 1) [] s.next
  have hg1 := hg.le
  have hg2 := hg.top (by omega)
  have hg3 := hg.ds
  obtain ⟨R, hR⟩ : ∃ R, R = Sp.stmL T f (deep + 1) [] s.next := ⟨_, rfl⟩
  rw [← hR] at hg hg1 hg2 hg3 ⊢
  repeat' (first
    | (refine wc_midb 0 (fun x : QBl => [(1, ptr b1), (3, .slice x.a x.n x.cp)]) (fun x w' => Mem E x.I [qObj pb la lc T R.2 (deep + 1) x.da x.dc, dgRow R.2.ds x.da x.dc, stRow x.n x.a x.cp x.xs, .cell b1 [ptr pb] 189] w' ∧ Le I x.I ∧ StsAt x.I R.1 x.xs ∧ R.1.length = x.n) ?_ ?_)
    | (refine m_call hm (by rfl) (by rfl) (by rfl) (by first | exact pm0 | exact pm1_0 | exact pm1_1 | exact pm1_2 | exact pm1_3 | exact pm2_0 | exact pm2_1 | exact pm2_2 | exact pm2_3 | exact pm2_4 | exact pm3_0 | exact pm3_1 | exact pm3_2) (hn _ _) ?_; clear hm; rintro _ _ _ _ ⟨rfl, rfl, da', dc', rfl⟩ hle hm; try simp only [setn] at hm)
    | (refine m_box (d := 1) hm (by rfl) (by rfl) (by rfl) (by rfl) ?_; clear hm; intro b1 _ hm)
    | refine m_load1 hm (by rfl) (by rfl) (by rfl) (by first | exact gt0 | exact gt1 | exact gt2 | exact gt3 | exact gt4 | exact gt5 | exact gt6) (by rfl) ?_
    | (refine m_store1 hm (by rfl) (by rfl) (by rfl) (by rfl) (by first | exact gt0 | exact gt1 | exact gt2 | exact gt3 | exact gt4 | exact gt5 | exact gt6) (by rfl) (by rfl) (by rfl) ?_; clear hm; intro _ hm; try simp only [setn] at hm)
    | refine op_assign (by rfl) (by rfl) (by rfl) ?_
    | refine op_eql (by rfl) (by rfl) (by rfl) (by rfl) ?_
    | refine op_not (by rfl) (by rfl) (by rfl) ?_
    | refine op_nilCheck (by rfl) (by rfl) (by rfl) ?_
    | refine op_makeFunc (by rfl) (by rfl) (by rfl) ?_
    | refine op_add (by rfl) (by rfl) (by rfl) (by rfl) (by omega) ?_
    | refine op_fieldAddr (by rfl) (by rfl) (by rfl) ?_
    | refine wl_nil ?_
    | refine at_then_normal ?_
    | refine wc_seq ?_
    | refine wc_region ?_
    | refine wc_skip ?_
    | refine op_defer (by rfl) (by rfl) (by rfl) ?_
    | refine wc_cond_false (by rfl) ?_
    | (refine wc_cond_dec (by rfl) (fun _ => ?_) (fun _ => ?_) <;> (try first | contradiction | (exfalso; omega))))
  all_goals try (exfalso; omega)
  · have hm2 := hm.nil 122 15
    clear hm
    refine wc_loop (fun x : QBl => [(1, ptr b1), (3, .slice x.a x.n x.cp)])
      (fun x w' => Mem E x.I [qObj pb la lc T x.s (deep + 1) x.da x.dc, dgRow x.s.ds x.da x.dc, stRow x.n x.a x.cp x.xs, .cell b1 [ptr pb] 189] w' ∧
        Le I x.I ∧ StsAt x.I x.l x.xs ∧ x.l.length = x.n ∧ x.n ≤ 40 ∧ x.f ≤ f ∧ x.s.i ≤ T.l.length ∧ x.s.ds.length + 8 * (T.l.length - x.s.i) ≤ s.ds.length + 8 * (T.l.length - s.i) ∧
        Sp.stmL T x.f (deep + 1) x.l x.s = R ∧ 5 * (T.l.length - x.s.i) + 6 ≤ x.f)
      (fun x => T.l.length - x.s.i) ⟨f, [], 0, s.next, I, none, 0, [], da', dc'⟩ (by exact ⟨rfl, rfl, trivial⟩)
      ⟨hm2.perm pm2_1, Le.refl _, .nil, rfl, by dsimp only; omega, Nat.le_refl _, by dsimp only; omega, by dsimp only; omega, hR.symm, by dsimp only; omega⟩ ?_
    clear hm2 hn
    rintro ⟨f1, l1, n1, s1, I1, a1, cp1, xs1, da1, dc1⟩ w2 ⟨hm, hle0, hsts, hn1, hn40, hff, hi1, hd1, hL, hf1⟩
    dsimp only at hm hle0 hsts hn1 hn40 hff hi1 hd1 hL hf1 ⊢
    have hr1 := hr.le hle0
    have hC1 := hC.le hle0
    obtain ⟨f1, rfl⟩ : ∃ f', f1 = f' + 1 := ⟨f1 - 1, by omega⟩
    rw [Sp.stmL] at hL
    have hpk := p_peek (pb := pb) (deep := deep + 1) (da := da1) (dc := dc1) s1 hr1
    by_cases hend : T.l.length ≤ s1.i ∨ T.is s1.i [125] = true
    · rw [if_pos hend] at hL
      subst hL
      by_cases hl1 : T.l.length ≤ s1.i
      · skip
        repeat' (first
          | refine mq_load1 hm (by rfl) (by rfl) (by rfl) (by first | exact gt0 | exact gt1 | exact gt2 | exact gt3 | exact gt4 | exact gt5 | exact gt6) (by rfl) ?_
          | refine at_then_normal ?_
          | refine at_then_exit ?_
          | refine at_block_exit ?_
          | refine wc_seq ?_
          | refine wc_exit ?_
          | refine wc_quiet (by kernel_rfl) ?_
          | (refine wq_nil ?_; intro _ hkq; replace hm := hm.kept0 hkq; clear hkq)
          | refine wc_cond_false (by rfl) ?_
          | refine q_move (by rfl) (by rfl) (by rfl) ?_
          | refine q_pick_false (by rfl) (by rfl) (by rfl) (by rfl) ?_
          | refine q_lss (by rfl) (by rfl) (by rfl) (by rfl) ?_
          | refine q_len_slice (by rfl) (by rfl) (by rfl) ?_
          | refine q_nilCheck (by rfl) (by rfl) (by rfl) ?_
          | refine q_fieldAddr (by rfl) (by rfl) (by rfl) ?_
          | refine wq_skip (by rfl) (by rfl) (by rfl) ?_
          | (refine wq_split_dec (by rfl) (by rfl) (by rfl) (fun _ => ?_) (fun _ => ?_) <;> (try first | contradiction | (exfalso; omega))))
        all_goals try (exfalso; first | omega | contradiction)
        exact at_cut (⟨0, [], n1, s1, I1, a1, cp1, xs1, da1, dc1⟩ : QBl) (by exact ⟨rfl, rfl, trivial⟩) ⟨hm, hle0, hsts, hn1⟩
      · rw [Sp.is_text (hend.resolve_left hl1)] at hpk
        repeat' (first
          | (refine mq_readC hm (by rfl) (by rfl) (by rfl) (by first | exact sub_nil | exact sub1_0 | exact sub1_1 | exact sub1_2 | exact sub1_3 | exact sub2_0 | exact sub2_1 | exact sub2_2 | exact sub2_3 | exact sub2_4) (hpk) ?_)
          | refine mq_load1 hm (by rfl) (by rfl) (by rfl) (by first | exact gt0 | exact gt1 | exact gt2 | exact gt3 | exact gt4 | exact gt5 | exact gt6) (by rfl) ?_
          | refine at_then_normal ?_
          | refine at_then_exit ?_
          | refine at_block_exit ?_
          | refine wc_seq ?_
          | refine wc_exit ?_
          | refine wc_quiet (by kernel_rfl) ?_
          | (refine wq_nil ?_; intro _ hkq; replace hm := hm.kept0 hkq; clear hkq)
          | refine wc_cond_false (by rfl) ?_
          | refine q_move (by rfl) (by rfl) (by rfl) ?_
          | refine q_pick_true (by rfl) (by rfl) (by rfl) (by rfl) ?_
          | refine q_lss (by rfl) (by rfl) (by rfl) (by rfl) ?_
          | refine q_neq_str (by rfl) (by rfl) (by rfl) (by rfl) ?_
          | refine q_len_slice (by rfl) (by rfl) (by rfl) ?_
          | refine q_nilCheck (by rfl) (by rfl) (by rfl) ?_
          | refine q_fieldAddr (by rfl) (by rfl) (by rfl) ?_
          | (refine wq_split_dec (by rfl) (by rfl) (by rfl) (fun _ => ?_) (fun _ => ?_) <;> (try first | contradiction | (exfalso; omega))))
        all_goals try (exfalso; first | omega | contradiction)
        exact at_cut (⟨0, [], n1, s1, I1, a1, cp1, xs1, da1, dc1⟩ : QBl) (by exact ⟨rfl, rfl, trivial⟩) ⟨hm, hle0, hsts, hn1⟩
    rw [if_neg hend] at hL
    have hlt1 : s1.i < T.l.length := by omega
    have htt : (T.tok s1.i).text ≠ [125] := fun e => hend (.inr (Sp.is_of e (by simp)))
    by_cases h40 : 40 ≤ l1.length
    · rw [if_pos h40] at hL
      subst hL
      repeat' (first
        | (refine mq_readC hm (by rfl) (by rfl) (by rfl) (by first | exact sub_nil | exact sub1_0 | exact sub1_1 | exact sub1_2 | exact sub1_3 | exact sub2_0 | exact sub2_1 | exact sub2_2 | exact sub2_3 | exact sub2_4) (hpk) ?_)
        | (refine m_call hm (by rfl) (by rfl) (by rfl) (by first | exact pm0 | exact pm1_0 | exact pm1_1 | exact pm1_2 | exact pm1_3 | exact pm2_0 | exact pm2_1 | exact pm2_2 | exact pm2_3 | exact pm2_4 | exact pm3_0 | exact pm3_1 | exact pm3_2) (p_tell s1 5 hr1 hT hi1 (by omega)) ?_; clear hm; rintro _ _ _ _ ⟨rfl, rfl, da2, dc2, rfl⟩ hle hm; try simp only [setn] at hm)
        | refine m_load1 hm (by rfl) (by rfl) (by rfl) (by first | exact gt0 | exact gt1 | exact gt2 | exact gt3 | exact gt4 | exact gt5 | exact gt6) (by rfl) ?_
        | refine mq_load1 hm (by rfl) (by rfl) (by rfl) (by first | exact gt0 | exact gt1 | exact gt2 | exact gt3 | exact gt4 | exact gt5 | exact gt6) (by rfl) ?_
        | refine op_move (by rfl) (by rfl) (by rfl) ?_
        | refine op_eql (by rfl) (by rfl) (by rfl) (by rfl) ?_
        | refine op_len_slice (by rfl) (by rfl) (by rfl) ?_
        | refine wl_nil ?_
        | refine at_then_normal ?_
        | refine at_then_exit ?_
        | refine at_block_exit ?_
        | refine at_block_other (by rfl) ?_
        | refine wc_seq ?_
        | refine wc_region ?_
        | refine wc_block ?_
        | refine wc_skip ?_
        | refine wc_exit ?_
        | refine wc_quiet (by kernel_rfl) ?_
        | (refine wq_nil ?_; intro _ hkq; replace hm := hm.kept0 hkq; clear hkq)
        | (refine wc_cond_dec (by rfl) (fun _ => ?_) (fun _ => ?_) <;> (try first | contradiction | (exfalso; omega)))
        | refine q_move (by rfl) (by rfl) (by rfl) ?_
        | refine q_pick_true (by rfl) (by rfl) (by rfl) (by rfl) ?_
        | refine q_lss (by rfl) (by rfl) (by rfl) (by rfl) ?_
        | refine q_neq_str (by rfl) (by rfl) (by rfl) (by rfl) ?_
        | refine q_len_slice (by rfl) (by rfl) (by rfl) ?_
        | refine q_nilCheck (by rfl) (by rfl) (by rfl) ?_
        | refine q_fieldAddr (by rfl) (by rfl) (by rfl) ?_
        | (refine wq_split_dec (by rfl) (by rfl) (by rfl) (fun _ => ?_) (fun _ => ?_) <;> (try first | contradiction | (exfalso; omega))))
      all_goals try (exfalso; first | omega | contradiction)
      exact at_cut (⟨0, [], n1, s1, I1, a1, cp1, xs1, da2, dc2⟩ : QBl) (by exact ⟨rfl, rfl, trivial⟩) ⟨hm, hle0, hsts, hn1⟩
    rw [if_neg h40] at hL
    dsimp only at hL
    have hst := fun da dc => ih f1 (by omega) I1 la lc (deep + 1) da dc s1 hC1 hr1 hi1 (by omega) (by omega) (by omega)
    have hgr := (Sp.goes_block T f1).2.2 (deep + 1) s1
    generalize Sp.stm T f1 (deep + 1) s1 = r at hL hst hgr
    have hgr1 := hgr.le
    have hgr2 := hgr.top hi1
    have hgr3 := hgr.ds0
    have hgr4 := hgr.ds1
    have hnl : (l1 ++ [r.1]).length = n1 + 1 := by simp [hn1]
    have hni : r.2.next.i = r.2.i + 1 := rfl
    have hnd : r.2.next.ds.length = r.2.ds.length := rfl
    repeat' (first
      | (refine mq_readC hm (by rfl) (by rfl) (by rfl) (by first | exact sub_nil | exact sub1_0 | exact sub1_1 | exact sub1_2 | exact sub1_3 | exact sub2_0 | exact sub2_1 | exact sub2_2 | exact sub2_3 | exact sub2_4) (hpk) ?_)
      | (refine m_call hm (by rfl) (by rfl) (by rfl) (by first | exact pm0 | exact pm1_0 | exact pm1_1 | exact pm1_2 | exact pm1_3 | exact pm2_0 | exact pm2_1 | exact pm2_2 | exact pm2_3 | exact pm2_4 | exact pm3_0 | exact pm3_1 | exact pm3_2) (hst _ _) ?_; clear hm; rintro _ I2 _ _ ⟨⟨ea, ec, ex, a3, c3, xs3, a4, c4, xs4, rfl, hrow, hexs, hrow3, hsts3, hrow4, hsts4⟩, da', dc', rfl⟩ hle hm; have hleI2 := hle; try simp only [setn] at hm)
      | (refine m_push (d := 51) hm (by rfl) (by rfl) (by rfl) (by rfl) (by rfl) (by first | exact gt0 | exact gt1 | exact gt2 | exact gt3 | exact gt4 | exact gt5 | exact gt6) (by rfl) (by rfl) (by rfl) (by rfl) (by omega) (by omega) ?_; clear hm; intro a51 cp51 _ _ hm; try simp only [setn] at hm)
      | refine m_load1 hm (by rfl) (by rfl) (by rfl) (by first | exact gt0 | exact gt1 | exact gt2 | exact gt3 | exact gt4 | exact gt5 | exact gt6) (by rfl) ?_
      | refine mq_load1 hm (by rfl) (by rfl) (by rfl) (by first | exact gt0 | exact gt1 | exact gt2 | exact gt3 | exact gt4 | exact gt5 | exact gt6) (by rfl) ?_
      | (refine m_store1 hm (by rfl) (by rfl) (by rfl) (by rfl) (by first | exact gt0 | exact gt1 | exact gt2 | exact gt3 | exact gt4 | exact gt5 | exact gt6) (by rfl) (by rfl) (by rfl) ?_; clear hm; intro _ hm; try simp only [setn] at hm)
      | refine op_move (by rfl) (by rfl) (by rfl) ?_
      | refine op_assign (by rfl) (by rfl) (by rfl) ?_
      | refine op_eql (by rfl) (by rfl) (by rfl) (by rfl) ?_
      | refine op_len_slice (by rfl) (by rfl) (by rfl) ?_
      | refine op_nilCheck (by rfl) (by rfl) (by rfl) ?_
      | refine op_add (by rfl) (by rfl) (by rfl) (by rfl) (by omega) ?_
      | refine op_fieldAddr (by rfl) (by rfl) (by rfl) ?_
      | refine wl_nil ?_
      | refine at_then_normal ?_
      | refine at_block_normal ?_
      | refine wc_seq ?_
      | refine wc_region ?_
      | refine wc_block ?_
      | refine wc_skip ?_
      | refine wc_quiet (by kernel_rfl) ?_
      | (refine wq_nil ?_; intro _ hkq; replace hm := hm.kept0 hkq; clear hkq)
      | (refine wc_cond_dec (by rfl) (fun _ => ?_) (fun _ => ?_) <;> (try first | contradiction | (exfalso; omega)))
      | refine q_move (by rfl) (by rfl) (by rfl) ?_
      | refine q_pick_true (by rfl) (by rfl) (by rfl) (by rfl) ?_
      | refine q_lss (by rfl) (by rfl) (by rfl) (by rfl) ?_
      | refine q_neq_str (by rfl) (by rfl) (by rfl) (by rfl) ?_
      | refine q_len_slice (by rfl) (by rfl) (by rfl) ?_
      | refine q_nilCheck (by rfl) (by rfl) (by rfl) ?_
      | refine q_fieldAddr (by rfl) (by rfl) (by rfl) ?_
      | (refine wq_split_dec (by rfl) (by rfl) (by rfl) (fun _ => ?_) (fun _ => ?_) <;> (try first | contradiction | (exfalso; omega))))
    all_goals try (exfalso; first | omega | contradiction)
    · rename_i hsame
      have hsame : r.2.i = s1.i := by omega
      rw [if_pos hsame] at hL
      have := hgr3 hsame
      exact at_round (⟨f1, l1 ++ [r.1], n1 + 1, r.2.next, I2, _, _, _, da', dc'⟩ : QBl) (by exact ⟨rfl, rfl, trivial⟩) ⟨hm, hle0.trans hleI2, (StsAt.le hleI2 _ _ hsts).snoc (stAt_cells hrow hexs hrow3 hsts3 hrow4 hsts4), hnl, by dsimp only; omega, by dsimp only; omega, by dsimp only; omega, by dsimp only; omega, hL, by dsimp only; omega⟩ (by dsimp only; omega)
    · rename_i hsame
      have hsame : ¬ r.2.i = s1.i := by omega
      rw [if_neg hsame] at hL
      have := hgr4 (by omega)
      exact at_round (⟨f1, l1 ++ [r.1], n1 + 1, r.2, I2, _, _, _, da', dc'⟩ : QBl) (by exact ⟨rfl, rfl, trivial⟩) ⟨hm, hle0.trans hleI2, (StsAt.le hleI2 _ _ hsts).snoc (stAt_cells hrow hexs hrow3 hsts3 hrow4 hsts4), hnl, by dsimp only; omega, by dsimp only; omega, hgr2, by dsimp only; omega, hL, by dsimp only; omega⟩ (by dsimp only; omega)
  · clear hm hn
    rintro ⟨_, _, n1, _, I1, a1, cp1, xs1, da1, dc1⟩ w2 ⟨hm, hle0, hsts, hn1⟩
    dsimp only at hm hle0 hsts hn1 ⊢
    have hr1 := hr.le hle0
    subst hn1
    repeat' (first
      | (refine m_call hm (by rfl) (by rfl) (by rfl) (by first | exact pm0 | exact pm1_0 | exact pm1_1 | exact pm1_2 | exact pm1_3 | exact pm2_0 | exact pm2_1 | exact pm2_2 | exact pm2_3 | exact pm2_4 | exact pm3_0 | exact pm3_1 | exact pm3_2) (p_must R.2 [125] (by simp) hr1 hT (by omega) hg2) ?_; clear hm; rintro _ _ _ _ ⟨rfl, rfl, da2, dc2, rfl⟩ hle hm; try simp only [setn] at hm)
      | refine m_load1 hm (by rfl) (by rfl) (by rfl) (by first | exact gt0 | exact gt1 | exact gt2 | exact gt3 | exact gt4 | exact gt5 | exact gt6) (by rfl) ?_
      | refine op_move (by rfl) (by rfl) (by rfl) ?_
      | refine op_assign (by rfl) (by rfl) (by rfl) ?_
      | refine wl_nil ?_
      | refine at_then_normal ?_
      | refine wc_seq ?_
      | refine wc_region ?_
      | refine wc_ret ?_)
    all_goals try (exfalso; first | omega | contradiction)
    obtain ⟨I3, hle3, hm3, hrow3⟩ := (hm.front 2 rfl).freeze
    exact p_retB (b := R.1) (s' := (R.2.need T [125]).2) (by omega) rfl (hm3.front 2 rfl) hrow3 (StsAt.le hle3 _ _ hsts)
theorem p_stm_step (T : Sp.Src) (pb : Nat) (hT : Ok T) (n : Nat) (ih : ∀ g, g < n → BlockQ T pb g) : StmQ T pb n := by
  intro I la lc deep da dc s hC hr hi hf hd hdp
  obtain ⟨f, rfl⟩ : ∃ f, n = f + 1 := ⟨n - 1, by omega⟩
  have ihb : ∀ g, g ≤ f → BlockQ T pb g := fun g hg => ih g (by omega)
  by_cases h1 : (T.tok s.i).text = [108, 101, 116]
  · cases h6 : T.is (s.next.named T).2.i [58] with
    | true => exact ps_let1 hT hC hr hi hf hd hdp h1 h6
    | false => exact ps_let0 hT hC hr hi hf hd hdp h1 h6
  by_cases h2 : (T.tok s.i).text = [105, 102]
  · cases h6 : T.is (Sp.block T f deep (Sp.expr T f deep 1 s.next).2).2.i [101, 108, 115, 101] with
    | true => exact ps_if1 hT hC hr hi hf hd hdp ihb h2 h6
    | false => exact ps_if0 hT hC hr hi hf hd hdp ihb h2 h6
  by_cases h3 : (T.tok s.i).text = [119, 104, 105, 108, 101]
  · exact ps_while hT hC hr hi hf hd hdp ihb h3
  by_cases h4 : (T.tok s.i).text = [115, 101, 110, 100]
  · exact ps_send hT hC hr hi hf hd hdp h4
  by_cases h5 : (T.tok s.i).text = [114, 101, 116, 117, 114, 110]
  · exact ps_back hT hC hr hi hf hd hdp h5
  cases h6 : Sp.name (T.tok s.i).text with
  | false => exact ps_bad hT hC hr hi hf hd hdp h1 h2 h3 h4 h5 h6
  | true =>
    cases h7 : T.is (s.i + 1) [61] with
    | true => exact ps_set hT hC hr hi hf hd hdp h1 h2 h3 h4 h5 h6 h7
    | false => exact ps_do hT hC hr hi hf hd hdp h1 h2 h3 h4 h5 h6 h7
/-- the program's parser reads statements as 'Sp.stm' and 'Sp.block' do. -/
theorem p_stmblock (T : Sp.Src) (pb : Nat) (hT : Ok T) (n : Nat) : StmQ T pb n ∧ BlockQ T pb n := by
  induction n using Nat.strongRecOn with
  | _ n ih => exact ⟨p_stm_step T pb hT n (fun g hg => (ih g hg).2), p_block_step T pb hT n (fun g hg => (ih g hg).1)⟩
end Go.Proofs.YtkbiakajlfmakaaDoor
end
section
namespace Go.Proofs.YtkbiakajlfmakaaDoor
open Go.Fw
structure QPar where
  f : Nat
  l : List Sp.Par
  n : Nat
  s : Sp.St
  a : Option Addr
  cp : Nat
  da : Option Addr
  dc : Nat
structure QSnd where
  f : Nat
  l : List Sp.Rf
  n : Nat
  s : Sp.St
  a : Option Addr
  cp : Nat
  da : Option Addr
  dc : Nat
def parRes (T : Sp.Src) (s : Sp.St) : List Sp.Par × Sp.St := ((Sp.parL T 6 [] (s.need T [40]).2).1, ((Sp.parL T 6 [] (s.need T [40]).2).2.need T [41]).2)
/-- what comes of a function's parameters. -/
abbrev ToQP (pb : Nat) (la : Option Addr) (lc : Nat) (T : Sp.Src) (deep : Nat) (r : List Sp.Par × Sp.St) : Value → Imm → List HItem → Prop := fun v I' H' =>
  r.2.i ≤ T.l.length ∧ r.2.ds.length ≤ 2 * r.2.i + 60 ∧ (∃ a c, v = .slice a r.1.length c ∧ RowI I' 60 3 (.slice a r.1.length c) r.1.length (r.1.flatMap encPar)) ∧ ∃ da dc, H' = QSt pb la lc T r.2 deep da dc
set_option maxHeartbeats 8000000 in
theorem p_params (T : Sp.Src) (pb : Nat) (hT : Ok T) (I : Imm) (la : Option Addr) (lc deep : Nat) (da : Option Addr) (dc : Nat) (s : Sp.St) (hr : TokR I T la lc) (hi : s.i ≤ T.l.length) (hd : s.ds.length ≤ 2 * s.i + 10) :
    CalM Tryd.prog 152 #[ptr pb] I (QSt pb la lc T s deep da dc) (ToQP pb la lc T deep (parRes T s)) := by
  have h2 := hT.size
  have h3 := hT.len
  have hmu := fun da dc => p_must (pb := pb) (deep := deep) (da := da) (dc := dc) s [40] (by simp) hr hT (by omega) hi
  have hgm := Sp.goes_need T s [40]
  rw [parRes]
  generalize s.need T [40] = s0 at hmu hgm ⊢
  have he1 := hgm.le
  have he2 := hgm.top hi
  have he3 := hgm.ds
  obtain ⟨R, hR⟩ : ∃ R, R = Sp.parL T 6 [] s0.2 := ⟨_, rfl⟩
  rw [← hR]
  refine CalM.of fun w E hm => enter (N := 49) Tryd.func152 rfl [(0, ptr pb)] args1 rfl ?_
  repeat' (first
    | (refine wc_midb 0 (fun x : QPar => [(0, ptr pb), (3, .slice x.a x.n x.cp)]) (fun x w' => x.n = R.1.length ∧ R.2.i ≤ T.l.length ∧ R.2.ds.length ≤ 2 * R.2.i + 50 ∧ Mem E I [qObj pb la lc T R.2 deep x.da x.dc, dgRow R.2.ds x.da x.dc, parRow R.1 x.n x.a x.cp] w') ?_ ?_)
    | (refine m_call hm (by rfl) (by rfl) (by rfl) (by first | exact pm0 | exact pm1_0 | exact pm1_1 | exact pm1_2 | exact pm1_3 | exact pm2_0 | exact pm2_1 | exact pm2_2 | exact pm2_3 | exact pm2_4 | exact pm3_0 | exact pm3_1 | exact pm3_2) (hmu _ _) ?_; clear hm; rintro _ _ _ _ ⟨rfl, rfl, da1, dc1, rfl⟩ hle hm; try simp only [setn] at hm)
    | refine op_move (by rfl) (by rfl) (by rfl) ?_
    | refine op_assign (by rfl) (by rfl) (by rfl) ?_
    | refine wl_nil ?_
    | refine at_then_normal ?_
    | refine wc_seq ?_
    | refine wc_region ?_)
  · have hm2 := hm.nil 60 3
    clear hm hmu
    refine wc_loop (fun x : QPar => [(0, ptr pb), (3, .slice x.a x.n x.cp)])
      (fun x w' => Mem E I [qObj pb la lc T x.s deep x.da x.dc, dgRow x.s.ds x.da x.dc, parRow x.l x.n x.a x.cp] w' ∧
        x.l.length = x.n ∧ x.n ≤ 5 ∧ x.f + x.n = 6 ∧ x.s.i ≤ T.l.length ∧ x.s.ds.length ≤ 2 * x.s.i + 3 * x.n + 20 ∧ Sp.parL T x.f x.l x.s = R)
      (fun x => x.f) ⟨6, [], 0, s0.2, none, 0, da1, dc1⟩ (by exact ⟨rfl, rfl, trivial⟩) ⟨hm2.perm pm2_1, rfl, by dsimp only; omega, rfl, he2, by dsimp only; omega, hR.symm⟩ ?_
    clear hm2
    rintro ⟨f1, l1, n1, s2, a1, cp1, da3, dc3⟩ w2 ⟨hm, hl, hn5, hf, hi2, hd2, hL⟩
    dsimp only at hm hl hn5 hf hi2 hd2 hL ⊢
    obtain ⟨f1, rfl⟩ : ∃ f', f1 = f' + 1 := ⟨f1 - 1, by omega⟩
    rw [Sp.parL] at hL
    have hpk := p_peek (pb := pb) (deep := deep) (da := da3) (dc := dc3) s2 hr
    by_cases hend : T.l.length ≤ s2.i ∨ T.is s2.i [41] = true
    · rw [if_pos hend] at hL
      subst hL
      by_cases hl1 : T.l.length ≤ s2.i
      · skip
        repeat' (first
          | refine mq_load1 hm (by rfl) (by rfl) (by rfl) (by first | exact gt0 | exact gt1 | exact gt2 | exact gt3 | exact gt4 | exact gt5 | exact gt6) (by rfl) ?_
          | refine at_then_normal ?_
          | refine at_then_exit ?_
          | refine at_block_exit ?_
          | refine wc_seq ?_
          | refine wc_exit ?_
          | refine wc_quiet (by kernel_rfl) ?_
          | (refine wq_nil ?_; intro _ hkq; replace hm := hm.kept0 hkq; clear hkq)
          | refine wc_cond_false (by rfl) ?_
          | refine q_move (by rfl) (by rfl) (by rfl) ?_
          | refine q_pick_false (by rfl) (by rfl) (by rfl) (by rfl) ?_
          | refine q_lss (by rfl) (by rfl) (by rfl) (by rfl) ?_
          | refine q_len_slice (by rfl) (by rfl) (by rfl) ?_
          | refine q_nilCheck (by rfl) (by rfl) (by rfl) ?_
          | refine q_fieldAddr (by rfl) (by rfl) (by rfl) ?_
          | refine wq_skip (by rfl) (by rfl) (by rfl) ?_
          | (refine wq_split_dec (by rfl) (by rfl) (by rfl) (fun _ => ?_) (fun _ => ?_) <;> (try first | contradiction | (exfalso; omega))))
        all_goals try (exfalso; first | omega | contradiction)
        exact at_cut (⟨0, [], n1, s2, a1, cp1, da3, dc3⟩ : QPar) (by exact ⟨rfl, rfl, trivial⟩) ⟨hl.symm, hi2, by dsimp only; omega, hm⟩
      · rw [Sp.is_text (hend.resolve_left hl1)] at hpk
        repeat' (first
          | (refine mq_readC hm (by rfl) (by rfl) (by rfl) (by first | exact sub_nil | exact sub1_0 | exact sub1_1 | exact sub1_2 | exact sub1_3 | exact sub2_0 | exact sub2_1 | exact sub2_2 | exact sub2_3 | exact sub2_4) (hpk) ?_)
          | refine mq_load1 hm (by rfl) (by rfl) (by rfl) (by first | exact gt0 | exact gt1 | exact gt2 | exact gt3 | exact gt4 | exact gt5 | exact gt6) (by rfl) ?_
          | refine at_then_normal ?_
          | refine at_then_exit ?_
          | refine at_block_exit ?_
          | refine wc_seq ?_
          | refine wc_exit ?_
          | refine wc_quiet (by kernel_rfl) ?_
          | (refine wq_nil ?_; intro _ hkq; replace hm := hm.kept0 hkq; clear hkq)
          | refine wc_cond_false (by rfl) ?_
          | refine q_move (by rfl) (by rfl) (by rfl) ?_
          | refine q_pick_true (by rfl) (by rfl) (by rfl) (by rfl) ?_
          | refine q_lss (by rfl) (by rfl) (by rfl) (by rfl) ?_
          | refine q_neq_str (by rfl) (by rfl) (by rfl) (by rfl) ?_
          | refine q_len_slice (by rfl) (by rfl) (by rfl) ?_
          | refine q_nilCheck (by rfl) (by rfl) (by rfl) ?_
          | refine q_fieldAddr (by rfl) (by rfl) (by rfl) ?_
          | (refine wq_split_dec (by rfl) (by rfl) (by rfl) (fun _ => ?_) (fun _ => ?_) <;> (try first | contradiction | (exfalso; omega))))
        all_goals try (exfalso; first | omega | contradiction)
        exact at_cut (⟨0, [], n1, s2, a1, cp1, da3, dc3⟩ : QPar) (by exact ⟨rfl, rfl, trivial⟩) ⟨hl.symm, hi2, by dsimp only; omega, hm⟩
    rw [if_neg hend] at hL
    have hlt1 : s2.i < T.l.length := by omega
    have htt : (T.tok s2.i).text ≠ [41] := fun e => hend (.inr (Sp.is_of e (by simp)))
    by_cases h5 : 5 ≤ l1.length
    · rw [if_pos h5] at hL
      subst hL
      repeat' (first
        | (refine mq_readC hm (by rfl) (by rfl) (by rfl) (by first | exact sub_nil | exact sub1_0 | exact sub1_1 | exact sub1_2 | exact sub1_3 | exact sub2_0 | exact sub2_1 | exact sub2_2 | exact sub2_3 | exact sub2_4) (hpk) ?_)
        | (refine m_call hm (by rfl) (by rfl) (by rfl) (by first | exact pm0 | exact pm1_0 | exact pm1_1 | exact pm1_2 | exact pm1_3 | exact pm2_0 | exact pm2_1 | exact pm2_2 | exact pm2_3 | exact pm2_4 | exact pm3_0 | exact pm3_1 | exact pm3_2) (p_tell s2 5 hr hT hi2 (by omega)) ?_; clear hm; rintro _ _ _ _ ⟨rfl, rfl, da4, dc4, rfl⟩ hle hm; try simp only [setn] at hm)
        | refine mq_load1 hm (by rfl) (by rfl) (by rfl) (by first | exact gt0 | exact gt1 | exact gt2 | exact gt3 | exact gt4 | exact gt5 | exact gt6) (by rfl) ?_
        | refine op_move (by rfl) (by rfl) (by rfl) ?_
        | refine op_eql (by rfl) (by rfl) (by rfl) (by rfl) ?_
        | refine op_len_slice (by rfl) (by rfl) (by rfl) ?_
        | refine wl_nil ?_
        | refine at_then_normal ?_
        | refine at_then_exit ?_
        | refine at_block_exit ?_
        | refine at_block_other (by rfl) ?_
        | refine wc_seq ?_
        | refine wc_region ?_
        | refine wc_block ?_
        | refine wc_skip ?_
        | refine wc_exit ?_
        | refine wc_quiet (by kernel_rfl) ?_
        | (refine wq_nil ?_; intro _ hkq; replace hm := hm.kept0 hkq; clear hkq)
        | (refine wc_cond_dec (by rfl) (fun _ => ?_) (fun _ => ?_) <;> (try first | contradiction | (exfalso; omega)))
        | refine q_move (by rfl) (by rfl) (by rfl) ?_
        | refine q_pick_true (by rfl) (by rfl) (by rfl) (by rfl) ?_
        | refine q_lss (by rfl) (by rfl) (by rfl) (by rfl) ?_
        | refine q_neq_str (by rfl) (by rfl) (by rfl) (by rfl) ?_
        | refine q_len_slice (by rfl) (by rfl) (by rfl) ?_
        | refine q_nilCheck (by rfl) (by rfl) (by rfl) ?_
        | refine q_fieldAddr (by rfl) (by rfl) (by rfl) ?_
        | (refine wq_split_dec (by rfl) (by rfl) (by rfl) (fun _ => ?_) (fun _ => ?_) <;> (try first | contradiction | (exfalso; omega))))
      all_goals try (exfalso; first | omega | contradiction)
      exact at_cut (⟨0, [], n1, s2, a1, cp1, da4, dc4⟩ : QPar) (by exact ⟨rfl, rfl, trivial⟩) ⟨hl.symm, hi2, by simp [Sp.St.bad]; omega, hm⟩
    rw [if_neg h5] at hL
    dsimp only at hL
    have hnm := fun da dc => p_name (pb := pb) (deep := deep) (da := da) (dc := dc) s2 hr hT (by omega) hi2
    have hgn := Sp.goes_named T s2
    generalize s2.named T = q at hnm hgn hL
    have hq1 := hgn.le
    have hq2 := hgn.top hi2
    have hq3 := hgn.ds
    have hnd := fun da dc => p_must (pb := pb) (deep := deep) (da := da) (dc := dc) q.2 [58] (by simp) hr hT (by omega) hq2
    have hgd := Sp.goes_need T q.2 [58]
    generalize (q.2.need T [58]) = q4 at hnd hgd hL
    have hd4 := hgd.le
    have hd5 := hgd.top hq2
    have hd6 := hgd.ds
    by_cases hcol : q4.1 = true
    case neg =>
      have hcol' : q4.1 = false := by simpa using hcol
      rw [hcol', if_pos (by rfl)] at hL
      rw [hcol'] at hnd
      subst hL
      repeat' (first
        | (refine mq_readC hm (by rfl) (by rfl) (by rfl) (by first | exact sub_nil | exact sub1_0 | exact sub1_1 | exact sub1_2 | exact sub1_3 | exact sub2_0 | exact sub2_1 | exact sub2_2 | exact sub2_3 | exact sub2_4) (hpk) ?_)
        | (refine m_readC hm (by rfl) (by rfl) (by rfl) (by first | exact sub_nil | exact sub1_0 | exact sub1_1 | exact sub1_2 | exact sub1_3 | exact sub2_0 | exact sub2_1 | exact sub2_2 | exact sub2_3 | exact sub2_4) (p_here s2 hr) ?_; clear hm; intro _ hm)
        | (refine m_call hm (by rfl) (by rfl) (by rfl) (by first | exact pm0 | exact pm1_0 | exact pm1_1 | exact pm1_2 | exact pm1_3 | exact pm2_0 | exact pm2_1 | exact pm2_2 | exact pm2_3 | exact pm2_4 | exact pm3_0 | exact pm3_1 | exact pm3_2) (hnm _ _) ?_; clear hm; rintro _ _ _ _ ⟨rfl, rfl, da4, dc4, rfl⟩ hle hm; try simp only [setn] at hm)
        | (refine m_call hm (by rfl) (by rfl) (by rfl) (by first | exact pm0 | exact pm1_0 | exact pm1_1 | exact pm1_2 | exact pm1_3 | exact pm2_0 | exact pm2_1 | exact pm2_2 | exact pm2_3 | exact pm2_4 | exact pm3_0 | exact pm3_1 | exact pm3_2) (hnd _ _) ?_; clear hm; rintro _ _ _ _ ⟨rfl, rfl, da5, dc5, rfl⟩ hle hm; try simp only [setn] at hm)
        | (refine m_varS (d := 4) hm (by rfl) (by rfl) (by rfl) (by rfl) (by rfl) ?_; clear hm; intro b4 _ hm)
        | refine mq_load1 hm (by rfl) (by rfl) (by rfl) (by first | exact gt0 | exact gt1 | exact gt2 | exact gt3 | exact gt4 | exact gt5 | exact gt6) (by rfl) ?_
        | (refine m_store1 hm (by rfl) (by rfl) (by rfl) (by rfl) (by first | exact gt0 | exact gt1 | exact gt2 | exact gt3 | exact gt4 | exact gt5 | exact gt6) (by rfl) (by rfl) (by rfl) ?_; clear hm; intro _ hm; try simp only [setn] at hm)
        | refine op_move (by rfl) (by rfl) (by rfl) ?_
        | refine op_eql (by rfl) (by rfl) (by rfl) (by rfl) ?_
        | refine op_len_slice (by rfl) (by rfl) (by rfl) ?_
        | refine op_not (by rfl) (by rfl) (by rfl) ?_
        | refine op_fieldAddr (by rfl) (by rfl) (by rfl) ?_
        | refine op_struct (by rfl) (by rfl) (by rfl) (by rfl) ?_
        | refine wl_nil ?_
        | refine at_then_normal ?_
        | refine at_then_exit ?_
        | refine at_block_exit ?_
        | refine at_block_other (by rfl) ?_
        | refine wc_seq ?_
        | refine wc_region ?_
        | refine wc_block ?_
        | refine wc_skip ?_
        | refine wc_exit ?_
        | refine wc_quiet (by kernel_rfl) ?_
        | (refine wq_nil ?_; intro _ hkq; replace hm := hm.kept0 hkq; clear hkq)
        | refine wc_cond_true (by rfl) ?_
        | (refine wc_cond_dec (by rfl) (fun _ => ?_) (fun _ => ?_) <;> (try first | contradiction | (exfalso; omega)))
        | refine q_move (by rfl) (by rfl) (by rfl) ?_
        | refine q_pick_true (by rfl) (by rfl) (by rfl) (by rfl) ?_
        | refine q_lss (by rfl) (by rfl) (by rfl) (by rfl) ?_
        | refine q_neq_str (by rfl) (by rfl) (by rfl) (by rfl) ?_
        | refine q_len_slice (by rfl) (by rfl) (by rfl) ?_
        | refine q_nilCheck (by rfl) (by rfl) (by rfl) ?_
        | refine q_fieldAddr (by rfl) (by rfl) (by rfl) ?_
        | (refine wq_split_dec (by rfl) (by rfl) (by rfl) (fun _ => ?_) (fun _ => ?_) <;> (try first | contradiction | (exfalso; omega))))
      all_goals try (exfalso; first | omega | contradiction)
      exact at_cut (⟨0, [], n1, s2, a1, cp1, da5, dc5⟩ : QPar) (by exact ⟨rfl, rfl, trivial⟩) ⟨hl.symm, hd5, by dsimp only; omega, (hm.front 2 rfl).tl⟩
    rw [hcol, if_neg (by simp)] at hL
    rw [hcol] at hnd
    have hlb := fun da dc => p_label (pb := pb) (deep := deep) (da := da) (dc := dc) q4.2 hr hT hd5 (by omega)
    have hgl := Sp.goes_lab T q4.2
    generalize Sp.lab T q4.2 = lb at hlb hgl hL
    have hl1 := hgl.le
    have hl2 := hgl.top hd5
    have hl3 := hgl.ds
    have hnl : (l1 ++ [(⟨q.1, lb.1, (T.tok s2.i).pos⟩ : Sp.Par)]).length = n1 + 1 := by simp [hl]
    have hfm : (l1 ++ [(⟨q.1, lb.1, (T.tok s2.i).pos⟩ : Sp.Par)]).flatMap encPar = l1.flatMap encPar ++ [str q.1, nt lb.1, nt (T.tok s2.i).pos] := by simp [List.flatMap_append]
    have hcm := fun da dc => p_eat (pb := pb) (deep := deep) (da := da) (dc := dc) lb.2 [44] (by simp) hr hT hl2
    have hn4 : n1 < 5 := by omega
    have hni : lb.2.next.i = lb.2.i + 1 := rfl
    have hnd2 : lb.2.next.ds.length = lb.2.ds.length := rfl
    by_cases hcomma : T.is lb.2.i [44] = true
    · rw [if_pos hcomma] at hL
      rw [hcomma, if_pos (by rfl)] at hcm
      have hlt2 := Sp.is_lt hcomma
      repeat' (first
        | (refine mq_readC hm (by rfl) (by rfl) (by rfl) (by first | exact sub_nil | exact sub1_0 | exact sub1_1 | exact sub1_2 | exact sub1_3 | exact sub2_0 | exact sub2_1 | exact sub2_2 | exact sub2_3 | exact sub2_4) (hpk) ?_)
        | (refine m_readC hm (by rfl) (by rfl) (by rfl) (by first | exact sub_nil | exact sub1_0 | exact sub1_1 | exact sub1_2 | exact sub1_3 | exact sub2_0 | exact sub2_1 | exact sub2_2 | exact sub2_3 | exact sub2_4) (p_here s2 hr) ?_; clear hm; intro _ hm)
        | (refine m_call hm (by rfl) (by rfl) (by rfl) (by first | exact pm0 | exact pm1_0 | exact pm1_1 | exact pm1_2 | exact pm1_3 | exact pm2_0 | exact pm2_1 | exact pm2_2 | exact pm2_3 | exact pm2_4 | exact pm3_0 | exact pm3_1 | exact pm3_2) (hnm _ _) ?_; clear hm; rintro _ _ _ _ ⟨rfl, rfl, da4, dc4, rfl⟩ hle hm; try simp only [setn] at hm)
        | (refine m_call hm (by rfl) (by rfl) (by rfl) (by first | exact pm0 | exact pm1_0 | exact pm1_1 | exact pm1_2 | exact pm1_3 | exact pm2_0 | exact pm2_1 | exact pm2_2 | exact pm2_3 | exact pm2_4 | exact pm3_0 | exact pm3_1 | exact pm3_2) (hnd _ _) ?_; clear hm; rintro _ _ _ _ ⟨rfl, rfl, da5, dc5, rfl⟩ hle hm; try simp only [setn] at hm)
        | (refine m_call hm (by rfl) (by rfl) (by rfl) (by first | exact pm0 | exact pm1_0 | exact pm1_1 | exact pm1_2 | exact pm1_3 | exact pm2_0 | exact pm2_1 | exact pm2_2 | exact pm2_3 | exact pm2_4 | exact pm3_0 | exact pm3_1 | exact pm3_2) (hlb _ _) ?_; clear hm; rintro _ _ _ _ ⟨rfl, rfl, da6, dc6, rfl⟩ hle hm; try simp only [setn] at hm)
        | (refine m_call hm (by rfl) (by rfl) (by rfl) (by first | exact pm0 | exact pm1_0 | exact pm1_1 | exact pm1_2 | exact pm1_3 | exact pm2_0 | exact pm2_1 | exact pm2_2 | exact pm2_3 | exact pm2_4 | exact pm3_0 | exact pm3_1 | exact pm3_2) (hcm _ _) ?_; clear hm; rintro _ _ _ _ ⟨rfl, rfl, da7, dc7, rfl⟩ hle hm; try simp only [setn] at hm)
        | (refine m_varS (d := 4) hm (by rfl) (by rfl) (by rfl) (by rfl) (by rfl) ?_; clear hm; intro b4 _ hm)
        | (refine m_push (d := 42) hm (by rfl) (by rfl) (by rfl) (by rfl) (by rfl) (by first | exact gt0 | exact gt1 | exact gt2 | exact gt3 | exact gt4 | exact gt5 | exact gt6) (by rfl) (by rfl) (by rfl) (by rfl) (by omega) (by omega) ?_; clear hm; intro a42 cp42 _ _ hm; try simp only [setn] at hm)
        | refine m_loadAll hm (by rfl) (by rfl) (by rfl) (by first | exact gt0 | exact gt1 | exact gt2 | exact gt3 | exact gt4 | exact gt5 | exact gt6) (by rfl) ?_
        | refine mq_load1 hm (by rfl) (by rfl) (by rfl) (by first | exact gt0 | exact gt1 | exact gt2 | exact gt3 | exact gt4 | exact gt5 | exact gt6) (by rfl) ?_
        | (refine m_store1 hm (by rfl) (by rfl) (by rfl) (by rfl) (by first | exact gt0 | exact gt1 | exact gt2 | exact gt3 | exact gt4 | exact gt5 | exact gt6) (by rfl) (by rfl) (by rfl) ?_; clear hm; intro _ hm; try simp only [setn] at hm)
        | refine op_move (by rfl) (by rfl) (by rfl) ?_
        | refine op_assign (by rfl) (by rfl) (by rfl) ?_
        | refine op_eql (by rfl) (by rfl) (by rfl) (by rfl) ?_
        | refine op_len_slice (by rfl) (by rfl) (by rfl) ?_
        | refine op_not (by rfl) (by rfl) (by rfl) ?_
        | refine op_fieldAddr (by rfl) (by rfl) (by rfl) ?_
        | refine op_struct (by rfl) (by rfl) (by rfl) (by rfl) ?_
        | refine wl_nil ?_
        | refine at_then_normal ?_
        | refine at_block_normal ?_
        | refine wc_seq ?_
        | refine wc_region ?_
        | refine wc_block ?_
        | refine wc_skip ?_
        | refine wc_quiet (by kernel_rfl) ?_
        | (refine wq_nil ?_; intro _ hkq; replace hm := hm.kept0 hkq; clear hkq)
        | refine wc_cond_false (by rfl) ?_
        | (refine wc_cond_dec (by rfl) (fun _ => ?_) (fun _ => ?_) <;> (try first | contradiction | (exfalso; omega)))
        | refine q_move (by rfl) (by rfl) (by rfl) ?_
        | refine q_pick_true (by rfl) (by rfl) (by rfl) (by rfl) ?_
        | refine q_lss (by rfl) (by rfl) (by rfl) (by rfl) ?_
        | refine q_neq_str (by rfl) (by rfl) (by rfl) (by rfl) ?_
        | refine q_len_slice (by rfl) (by rfl) (by rfl) ?_
        | refine q_nilCheck (by rfl) (by rfl) (by rfl) ?_
        | refine q_fieldAddr (by rfl) (by rfl) (by rfl) ?_
        | (refine wq_split_dec (by rfl) (by rfl) (by rfl) (fun _ => ?_) (fun _ => ?_) <;> (try first | contradiction | (exfalso; omega))))
      all_goals try (exfalso; first | omega | contradiction)
      refine at_round (⟨f1, _, n1 + 1, lb.2.next, a42, cp42, da7, dc7⟩ : QPar) (by exact ⟨rfl, rfl, trivial⟩) ⟨?_, hnl, by dsimp only; omega, by dsimp only; omega, by dsimp only; omega, by dsimp only; omega, hL⟩ (by dsimp only; omega)
      dsimp only [parRow]
      rw [hfm]
      exact (hm.front 2 rfl).tl
    · rw [if_neg hcomma] at hL
      rw [show T.is lb.2.i [44] = false by simpa using hcomma, if_neg (by simp)] at hcm
      subst hL
      repeat' (first
        | (refine mq_readC hm (by rfl) (by rfl) (by rfl) (by first | exact sub_nil | exact sub1_0 | exact sub1_1 | exact sub1_2 | exact sub1_3 | exact sub2_0 | exact sub2_1 | exact sub2_2 | exact sub2_3 | exact sub2_4) (hpk) ?_)
        | (refine m_readC hm (by rfl) (by rfl) (by rfl) (by first | exact sub_nil | exact sub1_0 | exact sub1_1 | exact sub1_2 | exact sub1_3 | exact sub2_0 | exact sub2_1 | exact sub2_2 | exact sub2_3 | exact sub2_4) (p_here s2 hr) ?_; clear hm; intro _ hm)
        | (refine m_call hm (by rfl) (by rfl) (by rfl) (by first | exact pm0 | exact pm1_0 | exact pm1_1 | exact pm1_2 | exact pm1_3 | exact pm2_0 | exact pm2_1 | exact pm2_2 | exact pm2_3 | exact pm2_4 | exact pm3_0 | exact pm3_1 | exact pm3_2) (hnm _ _) ?_; clear hm; rintro _ _ _ _ ⟨rfl, rfl, da4, dc4, rfl⟩ hle hm; try simp only [setn] at hm)
        | (refine m_call hm (by rfl) (by rfl) (by rfl) (by first | exact pm0 | exact pm1_0 | exact pm1_1 | exact pm1_2 | exact pm1_3 | exact pm2_0 | exact pm2_1 | exact pm2_2 | exact pm2_3 | exact pm2_4 | exact pm3_0 | exact pm3_1 | exact pm3_2) (hnd _ _) ?_; clear hm; rintro _ _ _ _ ⟨rfl, rfl, da5, dc5, rfl⟩ hle hm; try simp only [setn] at hm)
        | (refine m_call hm (by rfl) (by rfl) (by rfl) (by first | exact pm0 | exact pm1_0 | exact pm1_1 | exact pm1_2 | exact pm1_3 | exact pm2_0 | exact pm2_1 | exact pm2_2 | exact pm2_3 | exact pm2_4 | exact pm3_0 | exact pm3_1 | exact pm3_2) (hlb _ _) ?_; clear hm; rintro _ _ _ _ ⟨rfl, rfl, da6, dc6, rfl⟩ hle hm; try simp only [setn] at hm)
        | (refine m_call hm (by rfl) (by rfl) (by rfl) (by first | exact pm0 | exact pm1_0 | exact pm1_1 | exact pm1_2 | exact pm1_3 | exact pm2_0 | exact pm2_1 | exact pm2_2 | exact pm2_3 | exact pm2_4 | exact pm3_0 | exact pm3_1 | exact pm3_2) (hcm _ _) ?_; clear hm; rintro _ _ _ _ ⟨rfl, rfl, da7, dc7, rfl⟩ hle hm; try simp only [setn] at hm)
        | (refine m_varS (d := 4) hm (by rfl) (by rfl) (by rfl) (by rfl) (by rfl) ?_; clear hm; intro b4 _ hm)
        | (refine m_push (d := 42) hm (by rfl) (by rfl) (by rfl) (by rfl) (by rfl) (by first | exact gt0 | exact gt1 | exact gt2 | exact gt3 | exact gt4 | exact gt5 | exact gt6) (by rfl) (by rfl) (by rfl) (by rfl) (by omega) (by omega) ?_; clear hm; intro a42 cp42 _ _ hm; try simp only [setn] at hm)
        | refine m_loadAll hm (by rfl) (by rfl) (by rfl) (by first | exact gt0 | exact gt1 | exact gt2 | exact gt3 | exact gt4 | exact gt5 | exact gt6) (by rfl) ?_
        | refine mq_load1 hm (by rfl) (by rfl) (by rfl) (by first | exact gt0 | exact gt1 | exact gt2 | exact gt3 | exact gt4 | exact gt5 | exact gt6) (by rfl) ?_
        | (refine m_store1 hm (by rfl) (by rfl) (by rfl) (by rfl) (by first | exact gt0 | exact gt1 | exact gt2 | exact gt3 | exact gt4 | exact gt5 | exact gt6) (by rfl) (by rfl) (by rfl) ?_; clear hm; intro _ hm; try simp only [setn] at hm)
        | refine op_move (by rfl) (by rfl) (by rfl) ?_
        | refine op_assign (by rfl) (by rfl) (by rfl) ?_
        | refine op_eql (by rfl) (by rfl) (by rfl) (by rfl) ?_
        | refine op_len_slice (by rfl) (by rfl) (by rfl) ?_
        | refine op_not (by rfl) (by rfl) (by rfl) ?_
        | refine op_fieldAddr (by rfl) (by rfl) (by rfl) ?_
        | refine op_struct (by rfl) (by rfl) (by rfl) (by rfl) ?_
        | refine wl_nil ?_
        | refine at_then_normal ?_
        | refine at_then_exit ?_
        | refine at_block_exit ?_
        | refine at_block_other (by rfl) ?_
        | refine wc_seq ?_
        | refine wc_region ?_
        | refine wc_block ?_
        | refine wc_skip ?_
        | refine wc_exit ?_
        | refine wc_quiet (by kernel_rfl) ?_
        | (refine wq_nil ?_; intro _ hkq; replace hm := hm.kept0 hkq; clear hkq)
        | refine wc_cond_true (by rfl) ?_
        | refine wc_cond_false (by rfl) ?_
        | (refine wc_cond_dec (by rfl) (fun _ => ?_) (fun _ => ?_) <;> (try first | contradiction | (exfalso; omega)))
        | refine q_move (by rfl) (by rfl) (by rfl) ?_
        | refine q_pick_true (by rfl) (by rfl) (by rfl) (by rfl) ?_
        | refine q_lss (by rfl) (by rfl) (by rfl) (by rfl) ?_
        | refine q_neq_str (by rfl) (by rfl) (by rfl) (by rfl) ?_
        | refine q_len_slice (by rfl) (by rfl) (by rfl) ?_
        | refine q_nilCheck (by rfl) (by rfl) (by rfl) ?_
        | refine q_fieldAddr (by rfl) (by rfl) (by rfl) ?_
        | (refine wq_split_dec (by rfl) (by rfl) (by rfl) (fun _ => ?_) (fun _ => ?_) <;> (try first | contradiction | (exfalso; omega))))
      all_goals try (exfalso; first | omega | contradiction)
      refine at_cut (⟨0, [], n1 + 1, s2, a42, cp42, da7, dc7⟩ : QPar) (by exact ⟨rfl, rfl, trivial⟩) ⟨hnl.symm, hl2, by dsimp only; omega, ?_⟩
      dsimp only [parRow]
      rw [hfm]
      exact (hm.front 2 rfl).tl
  clear hm hmu
  rintro ⟨_, _, n1, _, a1, cp1, da3, dc3⟩ w2 ⟨hn, hi2, hd2, hm⟩
  dsimp only at hn hm ⊢
  subst hn
  have hgd := Sp.goes_need T R.2 [41]
  have k1 := hgd.le
  have k2 := hgd.top hi2
  have k3 := hgd.ds
  repeat' (first
    | (refine m_call hm (by rfl) (by rfl) (by rfl) (by first | exact pm0 | exact pm1_0 | exact pm1_1 | exact pm1_2 | exact pm1_3 | exact pm2_0 | exact pm2_1 | exact pm2_2 | exact pm2_3 | exact pm2_4 | exact pm3_0 | exact pm3_1 | exact pm3_2) (p_must R.2 [41] (by simp) hr hT (by omega) hi2) ?_; clear hm; rintro _ _ _ _ ⟨rfl, rfl, da4, dc4, rfl⟩ hle hm; try simp only [setn] at hm)
    | refine op_move (by rfl) (by rfl) (by rfl) ?_
    | refine op_assign (by rfl) (by rfl) (by rfl) ?_
    | refine wl_nil ?_
    | refine at_then_normal ?_
    | refine wc_seq ?_
    | refine wc_region ?_
    | refine wc_ret ?_
    | refine at_ret1 (by rfl) (by rfl) ?_)
  obtain ⟨I3, hle3, hm3, hrow3⟩ := (hm.front 2 rfl).freeze
  exact ⟨I3, _, ⟨k2, by dsimp only; omega, ⟨a1, cp1, rfl, hrow3⟩, da4, dc4, rfl⟩, hm3⟩
end Go.Proofs.YtkbiakajlfmakaaDoor
end
