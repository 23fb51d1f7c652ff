/- Own work: texts PpM, PpN, FwTyM, PpO, one behind the other. -/
import Derived.Test.YthmdffgiockcbaaGreatDoorRb22
section
namespace Go.Proofs.YthmdffgiockcbaaGreatDoor
open Go.Fw
structure QPar where
  f : Nat
  l : List Sp.Par
  n : Nat
  s : Sp.St
  a : Option Addr
  cp : Nat
  da : Option Addr
  dc : Nat
structure QSnd where
  f : Nat
  l : List Sp.Rf
  n : Nat
  s : Sp.St
  a : Option Addr
  cp : Nat
  da : Option Addr
  dc : Nat
def parRes (T : Sp.Src) (s : Sp.St) : List Sp.Par × Sp.St := ((Sp.parL T 6 [] (s.need T [40]).2).1, ((Sp.parL T 6 [] (s.need T [40]).2).2.need T [41]).2)
abbrev ToQP (pb : Nat) (la : Option Addr) (lc : Nat) (T : Sp.Src) (deep : Nat) (r : List Sp.Par × Sp.St) : Value → Imm → List HItem → Prop := fun v I' H' =>
  r.2.i ≤ T.l.length ∧ r.2.ds.length ≤ 2 * r.2.i + 60 ∧ (∃ a c, v = .slice a r.1.length c ∧ RowI I' 65 3 (.slice a r.1.length c) r.1.length (r.1.flatMap encPar)) ∧ ∃ da dc, H' = QSt pb la lc T r.2 deep da dc
set_option maxHeartbeats 8000000 in
theorem p_params (T : Sp.Src) (pb : Nat) (hT : Ok T) (I : Imm) (la : Option Addr) (lc deep : Nat) (da : Option Addr) (dc : Nat) (s : Sp.St) (hr : TokR I T la lc) (hi : s.i ≤ T.l.length) (hd : s.ds.length ≤ 2 * s.i + 10) :
    CalM Tryz.prog 129 #[ptr pb] I (QSt pb la lc T s deep da dc) (ToQP pb la lc T deep (parRes T s)) := by
  have h2 := hT.size
  have h3 := hT.len
  have hmu := fun da dc => p_must (pb := pb) (deep := deep) (da := da) (dc := dc) s [40] (by simp) hr hT (by omega) hi
  have hgm := Sp.goes_need T s [40]
  rw [parRes]
  generalize s.need T [40] = s0 at hmu hgm ⊢
  have he1 := hgm.le
  have he2 := hgm.top hi
  have he3 := hgm.ds
  obtain ⟨R, hR⟩ : ∃ R, R = Sp.parL T 6 [] s0.2 := ⟨_, rfl⟩
  rw [← hR]
  refine CalM.of fun w E hm => enter (N := 49) Tryz.func129 rfl [(0, ptr pb)] args1 rfl ?_
  repeat' (first|(refine wc_midb 0 (fun x : QPar => [(0, ptr pb), (3, .slice x.a x.n x.cp)]) (fun x w' => x.n = R.1.length ∧ R.2.i ≤ T.l.length ∧ R.2.ds.length ≤ 2 * R.2.i + 50 ∧ Mem E I [qObj pb la lc T R.2 deep x.da x.dc, dgRow R.2.ds x.da x.dc, parRow R.1 x.n x.a x.cp] w') ?_ ?_)|(refine m_call hm (hc:=hmu _ _) (k:=?_); clear hm; rintro _ _ _ _ ⟨rfl, rfl, da1, dc1, rfl⟩ hle hm; try simp only [setn] at hm)|refine op_move (k:=?_)|refine op_assign (k:=?_)|refine wl_nil ?_|refine at_then_normal ?_|refine wc_seq ?_|refine wc_region ?_)
  · have hm2 := hm.nil 65 3
    clear hm hmu
    refine wc_loop (fun x : QPar => [(0, ptr pb), (3, .slice x.a x.n x.cp)])
      (fun x w' => Mem E I [qObj pb la lc T x.s deep x.da x.dc, dgRow x.s.ds x.da x.dc, parRow x.l x.n x.a x.cp] w' ∧
        x.l.length = x.n ∧ x.n ≤ 5 ∧ x.f + x.n = 6 ∧ x.s.i ≤ T.l.length ∧ x.s.ds.length ≤ 2 * x.s.i + 3 * x.n + 20 ∧ Sp.parL T x.f x.l x.s = R)
      (fun x => x.f) ⟨6, [], 0, s0.2, none, 0, da1, dc1⟩ (by exact ⟨rfl, rfl, trivial⟩) ⟨hm2.perm pm2_1, rfl, by dsimp only; omega, rfl, he2, by dsimp only; omega, hR.symm⟩ ?_
    clear hm2
    rintro ⟨f1, l1, n1, s2, a1, cp1, da3, dc3⟩ w2 ⟨hm, hl, hn5, hf, hi2, hd2, hL⟩
    dsimp only at hm hl hn5 hf hi2 hd2 hL ⊢
    obtain ⟨f1, rfl⟩ : ∃ f', f1 = f' + 1 := ⟨f1 - 1, by omega⟩
    rw [Sp.parL] at hL
    have hpk := p_peek (pb := pb) (deep := deep) (da := da3) (dc := dc3) s2 hr
    by_cases hend : T.l.length ≤ s2.i ∨ T.is s2.i [41] = true
    · rw [if_pos hend] at hL
      subst hL
      by_cases hl1 : T.l.length ≤ s2.i
      · skip
        repeat' (first|refine mq_load1 hm (k:=?_)|refine at_then_normal ?_|refine at_then_exit ?_|refine at_block_exit ?_|refine wc_seq ?_|refine wc_exit ?_|refine wc_quiet (h:=?_)|(refine wq_nil ?_; intro _ hkq; replace hm := hm.kept0 hkq; clear hkq)|refine wc_cond_false (hf:=?_)|refine q_move (k:=?_)|refine q_pick_false (k:=?_)|refine q_lss (k:=?_)|refine q_len_slice (k:=?_)|refine q_nilCheck (k:=?_)|refine q_fieldAddr (k:=?_)|refine wq_skip (k:=?_)|(refine wq_split_dec (h1:=fun _ => ?_) (h0:=fun _ => ?_)<;> (try first | contradiction | (exfalso; omega))))
        all_goals try (exfalso; first | omega | contradiction)
        exact at_cut (⟨0, [], n1, s2, a1, cp1, da3, dc3⟩ : QPar) (by exact ⟨rfl, rfl, trivial⟩) ⟨hl.symm, hi2, by dsimp only; omega, hm⟩
      · rw [Sp.is_text (hend.resolve_left hl1)] at hpk
        repeat' (first|(refine mq_readC hm (hc:=hpk) (k:=?_))|refine mq_load1 hm (k:=?_)|refine at_then_normal ?_|refine at_then_exit ?_|refine at_block_exit ?_|refine wc_seq ?_|refine wc_exit ?_|refine wc_quiet (h:=?_)|(refine wq_nil ?_; intro _ hkq; replace hm := hm.kept0 hkq; clear hkq)|refine wc_cond_false (hf:=?_)|refine q_move (k:=?_)|refine q_pick_true (k:=?_)|refine q_lss (k:=?_)|refine q_neq_str (k:=?_)|refine q_len_slice (k:=?_)|refine q_nilCheck (k:=?_)|refine q_fieldAddr (k:=?_)|(refine wq_split_dec (h1:=fun _ => ?_) (h0:=fun _ => ?_)<;> (try first | contradiction | (exfalso; omega))))
        all_goals try (exfalso; first | omega | contradiction)
        exact at_cut (⟨0, [], n1, s2, a1, cp1, da3, dc3⟩ : QPar) (by exact ⟨rfl, rfl, trivial⟩) ⟨hl.symm, hi2, by dsimp only; omega, hm⟩
    rw [if_neg hend] at hL
    have hlt1 : s2.i < T.l.length := by omega
    have htt : (T.tok s2.i).text ≠ [41] := fun e => hend (.inr (Sp.is_of e (by simp)))
    by_cases h5 : 5 ≤ l1.length
    · rw [if_pos h5] at hL
      subst hL
      repeat' (first|(refine mq_readC hm (hc:=hpk) (k:=?_))|(refine m_call hm (hc:=p_tell s2 5 hr hT hi2 (by omega)) (k:=?_); clear hm; rintro _ _ _ _ ⟨rfl, rfl, da4, dc4, rfl⟩ hle hm; try simp only [setn] at hm)|refine mq_load1 hm (k:=?_)|refine op_move (k:=?_)|refine op_eql (k:=?_)|refine op_len_slice (k:=?_)|refine wl_nil ?_|refine at_then_normal ?_|refine at_then_exit ?_|refine at_block_exit ?_|refine at_block_other (h:=?_)|refine wc_seq ?_|refine wc_region ?_|refine wc_block ?_|refine wc_skip ?_|refine wc_exit ?_|refine wc_quiet (h:=?_)|(refine wq_nil ?_; intro _ hkq; replace hm := hm.kept0 hkq; clear hkq)|(refine wc_cond_dec (ht:=fun _ => ?_) (hf:=fun _ => ?_)<;> (try first | contradiction | (exfalso; omega)))|refine q_move (k:=?_)|refine q_pick_true (k:=?_)|refine q_lss (k:=?_)|refine q_neq_str (k:=?_)|refine q_len_slice (k:=?_)|refine q_nilCheck (k:=?_)|refine q_fieldAddr (k:=?_)|(refine wq_split_dec (h1:=fun _ => ?_) (h0:=fun _ => ?_)<;> (try first | contradiction | (exfalso; omega))))
      all_goals try (exfalso; first | omega | contradiction)
      exact at_cut (⟨0, [], n1, s2, a1, cp1, da4, dc4⟩ : QPar) (by exact ⟨rfl, rfl, trivial⟩) ⟨hl.symm, hi2, by simp [Sp.St.bad]; omega, hm⟩
    rw [if_neg h5] at hL
    dsimp only at hL
    have hnm := fun da dc => p_name (pb := pb) (deep := deep) (da := da) (dc := dc) s2 hr hT (by omega) hi2
    have hgn := Sp.goes_named T s2
    generalize s2.named T = q at hnm hgn hL
    have hq1 := hgn.le
    have hq2 := hgn.top hi2
    have hq3 := hgn.ds
    have hnd := fun da dc => p_must (pb := pb) (deep := deep) (da := da) (dc := dc) q.2 [58] (by simp) hr hT (by omega) hq2
    have hgd := Sp.goes_need T q.2 [58]
    generalize (q.2.need T [58]) = q4 at hnd hgd hL
    have hd4 := hgd.le
    have hd5 := hgd.top hq2
    have hd6 := hgd.ds
    by_cases hcol : q4.1 = true
    case neg =>
      have hcol' : q4.1 = false := by simpa using hcol
      rw [hcol', if_pos (by rfl)] at hL
      rw [hcol'] at hnd
      subst hL
      repeat' (first|(refine mq_readC hm (hc:=hpk) (k:=?_))|(refine m_readC hm (hc:=p_here s2 hr) (k:=?_); clear hm; intro _ hm)|(refine m_call hm (hc:=hnm _ _) (k:=?_); clear hm; rintro _ _ _ _ ⟨rfl, rfl, da4, dc4, rfl⟩ hle hm; try simp only [setn] at hm)|(refine m_call hm (hc:=hnd _ _) (k:=?_); clear hm; rintro _ _ _ _ ⟨rfl, rfl, da5, dc5, rfl⟩ hle hm; try simp only [setn] at hm)|(refine m_varS (d:=4) hm (k:=?_); clear hm; intro b4 _ hm)|refine mq_load1 hm (k:=?_)|(refine m_store1 hm (k:=?_); clear hm; intro _ hm; try simp only [setn] at hm)|refine op_move (k:=?_)|refine op_eql (k:=?_)|refine op_len_slice (k:=?_)|refine op_not (k:=?_)|refine op_fieldAddr (k:=?_)|refine op_struct (k:=?_)|refine wl_nil ?_|refine at_then_normal ?_|refine at_then_exit ?_|refine at_block_exit ?_|refine at_block_other (h:=?_)|refine wc_seq ?_|refine wc_region ?_|refine wc_block ?_|refine wc_skip ?_|refine wc_exit ?_|refine wc_quiet (h:=?_)|(refine wq_nil ?_; intro _ hkq; replace hm := hm.kept0 hkq; clear hkq)|refine wc_cond_true (ht:=?_)|(refine wc_cond_dec (ht:=fun _ => ?_) (hf:=fun _ => ?_)<;> (try first | contradiction | (exfalso; omega)))|refine q_move (k:=?_)|refine q_pick_true (k:=?_)|refine q_lss (k:=?_)|refine q_neq_str (k:=?_)|refine q_len_slice (k:=?_)|refine q_nilCheck (k:=?_)|refine q_fieldAddr (k:=?_)|(refine wq_split_dec (h1:=fun _ => ?_) (h0:=fun _ => ?_)<;> (try first | contradiction | (exfalso; omega))))
      all_goals try (exfalso; first | omega | contradiction)
      exact at_cut (⟨0, [], n1, s2, a1, cp1, da5, dc5⟩ : QPar) (by exact ⟨rfl, rfl, trivial⟩) ⟨hl.symm, hd5, by dsimp only; omega, (hm.front 2 rfl).tl⟩
    rw [hcol, if_neg (by simp)] at hL
    rw [hcol] at hnd
    have hlb := fun da dc => p_label (pb := pb) (deep := deep) (da := da) (dc := dc) q4.2 hr hT hd5 (by omega)
    have hgl := Sp.goes_lab T q4.2
    generalize Sp.lab T q4.2 = lb at hlb hgl hL
    have hl1 := hgl.le
    have hl2 := hgl.top hd5
    have hl3 := hgl.ds
    have hnl : (l1 ++ [(⟨q.1, lb.1, (T.tok s2.i).pos⟩ : Sp.Par)]).length = n1 + 1 := by simp [hl]
    have hfm : (l1 ++ [(⟨q.1, lb.1, (T.tok s2.i).pos⟩ : Sp.Par)]).flatMap encPar = l1.flatMap encPar ++ [str q.1, nt lb.1, nt (T.tok s2.i).pos] := by simp [List.flatMap_append]
    have hcm := fun da dc => p_eat (pb := pb) (deep := deep) (da := da) (dc := dc) lb.2 [44] (by simp) hr hT hl2
    have hn4 : n1 < 5 := by omega
    have hni : lb.2.next.i = lb.2.i + 1 := rfl
    have hnd2 : lb.2.next.ds.length = lb.2.ds.length := rfl
    by_cases hcomma : T.is lb.2.i [44] = true
    · rw [if_pos hcomma] at hL
      rw [hcomma, if_pos (by rfl)] at hcm
      have hlt2 := Sp.is_lt hcomma
      repeat' (first|(refine mq_readC hm (hc:=hpk) (k:=?_))|(refine m_readC hm (hc:=p_here s2 hr) (k:=?_); clear hm; intro _ hm)|(refine m_call hm (hc:=hnm _ _) (k:=?_); clear hm; rintro _ _ _ _ ⟨rfl, rfl, da4, dc4, rfl⟩ hle hm; try simp only [setn] at hm)|(refine m_call hm (hc:=hnd _ _) (k:=?_); clear hm; rintro _ _ _ _ ⟨rfl, rfl, da5, dc5, rfl⟩ hle hm; try simp only [setn] at hm)|(refine m_call hm (hc:=hlb _ _) (k:=?_); clear hm; rintro _ _ _ _ ⟨rfl, rfl, da6, dc6, rfl⟩ hle hm; try simp only [setn] at hm)|(refine m_call hm (hc:=hcm _ _) (k:=?_); clear hm; rintro _ _ _ _ ⟨rfl, rfl, da7, dc7, rfl⟩ hle hm; try simp only [setn] at hm)|(refine m_varS (d:=4) hm (k:=?_); clear hm; intro b4 _ hm)|(refine m_push (d:=42) hm (k:=?_); clear hm; intro a42 cp42 _ _ hm; try simp only [setn] at hm)|refine m_loadAll hm (k:=?_)|refine mq_load1 hm (k:=?_)|(refine m_store1 hm (k:=?_); clear hm; intro _ hm; try simp only [setn] at hm)|refine op_move (k:=?_)|refine op_assign (k:=?_)|refine op_eql (k:=?_)|refine op_len_slice (k:=?_)|refine op_not (k:=?_)|refine op_fieldAddr (k:=?_)|refine op_struct (k:=?_)|refine wl_nil ?_|refine at_then_normal ?_|refine at_block_normal ?_|refine wc_seq ?_|refine wc_region ?_|refine wc_block ?_|refine wc_skip ?_|refine wc_quiet (h:=?_)|(refine wq_nil ?_; intro _ hkq; replace hm := hm.kept0 hkq; clear hkq)|refine wc_cond_false (hf:=?_)|(refine wc_cond_dec (ht:=fun _ => ?_) (hf:=fun _ => ?_)<;> (try first | contradiction | (exfalso; omega)))|refine q_move (k:=?_)|refine q_pick_true (k:=?_)|refine q_lss (k:=?_)|refine q_neq_str (k:=?_)|refine q_len_slice (k:=?_)|refine q_nilCheck (k:=?_)|refine q_fieldAddr (k:=?_)|(refine wq_split_dec (h1:=fun _ => ?_) (h0:=fun _ => ?_)<;> (try first | contradiction | (exfalso; omega))))
      all_goals try (exfalso; first | omega | contradiction)
      refine at_round (⟨f1, _, n1 + 1, lb.2.next, a42, cp42, da7, dc7⟩ : QPar) (by exact ⟨rfl, rfl, trivial⟩) ⟨?_, hnl, by dsimp only; omega, by dsimp only; omega, by dsimp only; omega, by dsimp only; omega, hL⟩ (by dsimp only; omega)
      dsimp only [parRow]
      rw [hfm]
      exact (hm.front 2 rfl).tl
    · rw [if_neg hcomma] at hL
      rw [show T.is lb.2.i [44] = false by simpa using hcomma, if_neg (by simp)] at hcm
      subst hL
      repeat' (first|(refine mq_readC hm (hc:=hpk) (k:=?_))|(refine m_readC hm (hc:=p_here s2 hr) (k:=?_); clear hm; intro _ hm)|(refine m_call hm (hc:=hnm _ _) (k:=?_); clear hm; rintro _ _ _ _ ⟨rfl, rfl, da4, dc4, rfl⟩ hle hm; try simp only [setn] at hm)|(refine m_call hm (hc:=hnd _ _) (k:=?_); clear hm; rintro _ _ _ _ ⟨rfl, rfl, da5, dc5, rfl⟩ hle hm; try simp only [setn] at hm)|(refine m_call hm (hc:=hlb _ _) (k:=?_); clear hm; rintro _ _ _ _ ⟨rfl, rfl, da6, dc6, rfl⟩ hle hm; try simp only [setn] at hm)|(refine m_call hm (hc:=hcm _ _) (k:=?_); clear hm; rintro _ _ _ _ ⟨rfl, rfl, da7, dc7, rfl⟩ hle hm; try simp only [setn] at hm)|(refine m_varS (d:=4) hm (k:=?_); clear hm; intro b4 _ hm)|(refine m_push (d:=42) hm (k:=?_); clear hm; intro a42 cp42 _ _ hm; try simp only [setn] at hm)|refine m_loadAll hm (k:=?_)|refine mq_load1 hm (k:=?_)|(refine m_store1 hm (k:=?_); clear hm; intro _ hm; try simp only [setn] at hm)|refine op_move (k:=?_)|refine op_assign (k:=?_)|refine op_eql (k:=?_)|refine op_len_slice (k:=?_)|refine op_not (k:=?_)|refine op_fieldAddr (k:=?_)|refine op_struct (k:=?_)|refine wl_nil ?_|refine at_then_normal ?_|refine at_then_exit ?_|refine at_block_exit ?_|refine at_block_other (h:=?_)|refine wc_seq ?_|refine wc_region ?_|refine wc_block ?_|refine wc_skip ?_|refine wc_exit ?_|refine wc_quiet (h:=?_)|(refine wq_nil ?_; intro _ hkq; replace hm := hm.kept0 hkq; clear hkq)|refine wc_cond_true (ht:=?_)|refine wc_cond_false (hf:=?_)|(refine wc_cond_dec (ht:=fun _ => ?_) (hf:=fun _ => ?_)<;> (try first | contradiction | (exfalso; omega)))|refine q_move (k:=?_)|refine q_pick_true (k:=?_)|refine q_lss (k:=?_)|refine q_neq_str (k:=?_)|refine q_len_slice (k:=?_)|refine q_nilCheck (k:=?_)|refine q_fieldAddr (k:=?_)|(refine wq_split_dec (h1:=fun _ => ?_) (h0:=fun _ => ?_)<;> (try first | contradiction | (exfalso; omega))))
      all_goals try (exfalso; first | omega | contradiction)
      refine at_cut (⟨0, [], n1 + 1, s2, a42, cp42, da7, dc7⟩ : QPar) (by exact ⟨rfl, rfl, trivial⟩) ⟨hnl.symm, hl2, by dsimp only; omega, ?_⟩
      dsimp only [parRow]
      rw [hfm]
      exact (hm.front 2 rfl).tl
  clear hm hmu
  rintro ⟨_, _, n1, _, a1, cp1, da3, dc3⟩ w2 ⟨hn, hi2, hd2, hm⟩
  dsimp only at hn hm ⊢
  subst hn
  have hgd := Sp.goes_need T R.2 [41]
  have k1 := hgd.le
  have k2 := hgd.top hi2
  have k3 := hgd.ds
  repeat' (first|(refine m_call hm (hc:=p_must R.2 [41] (by simp) hr hT (by omega) hi2) (k:=?_); clear hm; rintro _ _ _ _ ⟨rfl, rfl, da4, dc4, rfl⟩ hle hm; try simp only [setn] at hm)|refine op_move (k:=?_)|refine op_assign (k:=?_)|refine wl_nil ?_|refine at_then_normal ?_|refine wc_seq ?_|refine wc_region ?_|refine wc_ret ?_|refine at_ret1 (h:=?_))
  obtain ⟨I3, hle3, hm3, hrow3⟩ := (hm.front 2 rfl).freeze
  exact ⟨I3, _, ⟨k2, by dsimp only; omega, ⟨a1, cp1, rfl, hrow3⟩, da4, dc4, rfl⟩, hm3⟩
end Go.Proofs.YthmdffgiockcbaaGreatDoor
end
section
namespace Go.Proofs.YthmdffgiockcbaaGreatDoor
open Go.Fw
abbrev ToQF (pb bi : Nat) (la : Option Addr) (lc : Nat) (T : Sp.Src) (q : Sp.Itm × Sp.St) : Value → Imm → List HItem → Prop :=
  fun v I' H' => q.2.i ≤ T.l.length ∧ q.2.ds.length ≤ 1099511626000 ∧ v = .tuple #[] ∧ ∃ ap cp as_ cs ab cb xb da dc,
    RowI I' 65 3 (.slice ap q.1.params.length cp) q.1.params.length (q.1.params.flatMap encPar) ∧ RowI I' 61 2 (.slice as_ q.1.sends.length cs) q.1.sends.length (q.1.sends.flatMap encRf) ∧
    RowI I' 104 15 (.slice ab q.1.body.length cb) q.1.body.length xb ∧ StsAt I' q.1.body xb ∧
    H' = [qObj pb la lc T q.2 0 da dc, dgRow q.2.ds da dc, .cell bi (itCells q.1.kind q.1.name q.1.label (.slice ap q.1.params.length cp) (.slice as_ q.1.sends.length cs) (.slice ab q.1.body.length cb) q.1.at_ q.1.size q.1.mark nil0) 47]
theorem fnItm_eq (T : Sp.Src) (at_ : Int) (size : Nat) (s : Sp.St) : Sp.fnItm T at_ size s =
    (let r := s.named T
     let p := parRes T r.2
     let s4 := (p.2.need T [58]).2
     let r5 := Sp.lab T s4
     let r6 := if T.is r5.2.i [115, 101, 110, 100, 115] then Sp.sndL T 6 [] r5.2.next else ([], r5.2)
     let r7 := Sp.block T (Sp.fuel T) 0 r6.2
     (⟨2, r.1, r5.1, p.1, r6.1, r7.1, at_, size, (T.tok s.i).pos, []⟩, r7.2)) := rfl
set_option maxHeartbeats 8000000 in
theorem p_fn (T : Sp.Src) (pb bi : Nat) (hT : Ok T) (I : Imm) (la : Option Addr) (lc : Nat) (da : Option Addr) (dc : Nat) (s : Sp.St) (at_ : Int) (size : Nat) (hC : Conv I) (hr : TokR I T la lc) (hi : s.i ≤ T.l.length) (hd : s.ds = []) :
    CalM Tryz.prog 99 #[ptr pb, ptr bi] I [qObj pb la lc T s 0 da dc, dgRow s.ds da dc, .cell bi (itCells 3 [] 0 nil0 nil0 nil0 at_ size 0 nil0) 47]
      (ToQF pb bi la lc T (Sp.fnItm T at_ size s)) := by
  have h2 := hT.size
  have h3 := hT.len
  have h1 := hT.at_ s.i
  have hd0 : s.ds.length = 0 := by rw [hd]; rfl
  rw [fnItm_eq]
  have hnm := fun da dc => p_name (pb := pb) (deep := 0) (da := da) (dc := dc) s hr hT (by omega) hi
  have hgn := Sp.goes_named T s
  dsimp only
  generalize s.named T = r at hnm hgn ⊢
  have hn1 := hgn.le
  have hn2 := hgn.top hi
  have hn3 := hgn.ds
  have hpa := fun da dc => p_params T pb hT I la lc 0 da dc r.2 hr hn2 (by omega)
  generalize parRes T r.2 = R at hpa ⊢
  refine CalM.of fun w E hm => enter (N := 64) Tryz.func99 rfl [(0, ptr pb), (1, ptr bi)] args2 rfl ?_
  repeat' (first|(refine m_readC hm (hc:=p_here s hr) (k:=?_); clear hm; intro _ hm)|(refine m_call hm (hc:=hnm _ _) (k:=?_); clear hm; rintro _ _ _ _ ⟨rfl, rfl, da1, dc1, rfl⟩ hle hm; try simp only [setn] at hm)|(refine m_call hm (hp:=by first | exact pm2_0 | exact pm2_1) (hc:=hpa _ _) (k:=?_); clear hm; rintro _ I2 _ _ ⟨hi2, hd2, ⟨ap, cp, rfl, hrowp⟩, da2, dc2, rfl⟩ hle2 hm; replace hr := hr.le hle2; replace hC := hC.le hle2)|(refine m_store1 hm (k:=?_); clear hm; intro _ hm; try simp only [setn] at hm)|refine op_move (k:=?_)|refine op_nilCheck (k:=?_)|refine op_fieldAddr (k:=?_)|refine wl_nil ?_|refine at_then_normal ?_|refine wc_seq ?_|refine wc_region ?_)
  have hd9 := fun da dc => p_must (pb := pb) (deep := 0) (da := da) (dc := dc) R.2 [58] (by simp) hr hT (by omega) hi2
  have hg9 := Sp.goes_need T R.2 [58]
  generalize (R.2.need T [58]) = s4 at hd9 hg9 ⊢
  have k4 := hg9.le
  have k5 := hg9.top hi2
  have k6 := hg9.ds
  have hlb := fun da dc => p_label (pb := pb) (deep := 0) (da := da) (dc := dc) s4.2 hr hT k5 (by omega)
  have hgl := Sp.goes_lab T s4.2
  generalize Sp.lab T s4.2 = r5 at hlb hgl ⊢
  have k7 := hgl.le
  have k8 := hgl.top k5
  have k9 := hgl.ds
  have hsd := fun da dc => p_eat (pb := pb) (deep := 0) (da := da) (dc := dc) r5.2 [115, 101, 110, 100, 115] (by simp) hr hT k8
  obtain ⟨R6, hR6⟩ : ∃ R6, R6 = (if T.is r5.2.i [115, 101, 110, 100, 115] = true then Sp.sndL T 6 [] r5.2.next else ([], r5.2)) := ⟨_, rfl⟩
  rw [← hR6]
  cases hyes : T.is r5.2.i [115, 101, 110, 100, 115] with
  | true =>
    rw [hyes, if_pos rfl] at hR6
    rw [hyes, if_pos rfl] at hsd
    have hlt6 := Sp.is_lt hyes
    have hni : r5.2.next.i = r5.2.i + 1 := rfl
    have hnd2 : r5.2.next.ds.length = r5.2.ds.length := rfl
    repeat' (first|(refine wc_midb 0 (fun x : QSnd => [(0, ptr pb), (1, ptr bi)]) (fun x w' => x.n = R6.1.length ∧ R6.2.i ≤ T.l.length ∧ R6.2.ds.length ≤ 16000000 ∧ Mem E I2 [qObj pb la lc T R6.2 0 x.da x.dc, dgRow R6.2.ds x.da x.dc, sndRow R6.1 x.n x.a x.cp, .cell bi (itCells 2 r.1 r5.1 (.slice ap R.1.length cp) (.slice x.a x.n x.cp) nil0 at_ size (T.tok s.i).pos nil0) 47] w') ?_ ?_)|(refine m_call hm (hc:=hd9 _ _) (k:=?_); clear hm; rintro _ _ _ _ ⟨rfl, rfl, da5, dc5, rfl⟩ hle hm; try simp only [setn] at hm)|(refine m_call hm (hc:=hlb _ _) (k:=?_); clear hm; rintro _ _ _ _ ⟨rfl, rfl, da6, dc6, rfl⟩ hle hm; try simp only [setn] at hm)|(refine m_call hm (hc:=hsd _ _) (k:=?_); clear hm; rintro _ _ _ _ ⟨rfl, rfl, da7, dc7, rfl⟩ hle hm; try simp only [setn] at hm)|(refine m_store1 hm (k:=?_); clear hm; intro _ hm; try simp only [setn] at hm)|refine op_move (k:=?_)|refine op_nilCheck (k:=?_)|refine op_fieldAddr (k:=?_)|refine wl_nil ?_|refine at_then_normal ?_|refine wc_seq ?_|refine wc_region ?_|refine wc_cond_true (ht:=?_))
    · have hm2 := hm.nil 61 2
      clear hm
      refine wc_loop (fun x : QSnd => [(0, ptr pb), (1, ptr bi)])
        (fun x w' => Mem E I2 [qObj pb la lc T x.s 0 x.da x.dc, dgRow x.s.ds x.da x.dc, sndRow x.l x.n x.a x.cp, .cell bi (itCells 2 r.1 r5.1 (.slice ap R.1.length cp) (.slice x.a x.n x.cp) nil0 at_ size (T.tok s.i).pos nil0) 47] w' ∧
          x.l.length = x.n ∧ x.n ≤ 5 ∧ x.f + x.n = 6 ∧ x.s.i ≤ T.l.length ∧ x.s.ds.length ≤ 8000010 + 2 * x.s.i + 3 * x.n ∧ Sp.sndL T x.f x.l x.s = R6)
        (fun x => x.f) ⟨6, [], 0, r5.2.next, none, 0, da7, dc7⟩ (by exact ⟨rfl, rfl, trivial⟩) ⟨hm2.perm pm2_1, rfl, by dsimp only; omega, rfl, by dsimp only; omega, by dsimp only; omega, hR6.symm⟩ ?_
      clear hm2
      rintro ⟨f1, l1, n1, s2, a2, cp2, da3, dc3⟩ w2 ⟨hm, hl, hn5, hf, hi3, hd3, hL⟩
      dsimp only at hm hl hn5 hf hi3 hd3 hL ⊢
      obtain ⟨f1, rfl⟩ : ∃ f', f1 = f' + 1 := ⟨f1 - 1, by omega⟩
      rw [Sp.sndL] at hL
      by_cases h5 : 5 ≤ l1.length
      · rw [if_pos h5] at hL
        subst hL
        repeat' (first|(refine m_call hm (hc:=p_tell s2 5 hr hT hi3 (by omega)) (k:=?_); clear hm; rintro _ _ _ _ ⟨rfl, rfl, da4, dc4, rfl⟩ hle hm; try simp only [setn] at hm)|refine m_load1 hm (k:=?_)|refine op_move (k:=?_)|refine op_eql (k:=?_)|refine op_len_slice (k:=?_)|refine op_nilCheck (k:=?_)|refine op_fieldAddr (k:=?_)|refine wl_nil ?_|refine at_then_normal ?_|refine at_then_exit ?_|refine at_block_exit ?_|refine at_block_other (h:=?_)|refine wc_seq ?_|refine wc_region ?_|refine wc_block ?_|refine wc_exit ?_|(refine wc_cond_dec (ht:=fun _ => ?_) (hf:=fun _ => ?_)<;> (try first | contradiction | (exfalso; omega))))
        all_goals try (exfalso; omega)
        exact at_cut (⟨0, [], n1, s2, a2, cp2, da4, dc4⟩ : QSnd) (by exact ⟨rfl, rfl, trivial⟩) ⟨hl.symm, hi3, by simp [Sp.St.bad]; omega, hm⟩
      rw [if_neg h5] at hL
      dsimp only at hL
      have hnm2 := fun da dc => p_name (pb := pb) (deep := 0) (da := da) (dc := dc) s2 hr hT (by omega) hi3
      have hgn2 := Sp.goes_named T s2
      generalize s2.named T = q at hnm2 hgn2 hL
      have hq1 := hgn2.le
      have hq2 := hgn2.top hi3
      have hq3 := hgn2.ds
      have hnl : (l1 ++ [(⟨q.1, (T.tok s2.i).pos⟩ : Sp.Rf)]).length = n1 + 1 := by simp [hl]
      have hfm : (l1 ++ [(⟨q.1, (T.tok s2.i).pos⟩ : Sp.Rf)]).flatMap encRf = l1.flatMap encRf ++ [str q.1, nt (T.tok s2.i).pos] := by simp [List.flatMap_append]
      have hcm := fun da dc => p_eat (pb := pb) (deep := 0) (da := da) (dc := dc) q.2 [44] (by simp) hr hT hq2
      have hn4 : n1 < 5 := by omega
      have hni : q.2.next.i = q.2.i + 1 := rfl
      have hnd2 : q.2.next.ds.length = q.2.ds.length := rfl
      by_cases hcomma : T.is q.2.i [44] = true
      · rw [if_pos hcomma] at hL
        rw [hcomma, if_pos (by rfl)] at hcm
        have hlt2 := Sp.is_lt hcomma
        repeat' (first|(refine wc_semi_mem (id:=10) (hm.perm pm1_3) 6 8 (h:=?_); clear hm; intro wd hR hm)|(refine m_readC hm (hc:=p_here s2 hr) (k:=?_); clear hm; intro _ hm)|(refine m_call hm (hc:=hnm2 _ _) (k:=?_); clear hm; rintro _ _ _ _ ⟨rfl, rfl, da4, dc4, rfl⟩ hle hm; try simp only [setn] at hm)|(refine m_call hm (hc:=hcm _ _) (k:=?_); clear hm; rintro _ _ _ _ ⟨rfl, rfl, da8, dc8, rfl⟩ hle hm; try simp only [setn] at hm)|refine mw_loadAll hR (k:=?_)|refine mw_load1 hR (k:=?_)|(refine mt_push (d:=53) hm (k:=?_); clear hm; intro a53 cp53 _ _ hm; replace hm := hR.back hm; clear hR; try simp only [setn] at hm)|(refine m_varS (d:=4) hm (k:=?_); clear hm; intro b4 _ hm)|refine m_load1 hm (k:=?_)|(refine m_store1 hm (k:=?_); clear hm; intro _ hm; try simp only [setn] at hm)|refine op_move (k:=?_)|refine op_eql (k:=?_)|refine op_len_slice (k:=?_)|refine op_not (k:=?_)|refine op_nilCheck (k:=?_)|refine op_fieldAddr (k:=?_)|refine op_struct (k:=?_)|refine wl_nil ?_|refine at_then_normal ?_|refine at_block_normal ?_|refine wc_seq ?_|refine wc_region ?_|refine wc_block ?_|refine wc_skip ?_|refine wc_cond_false (hf:=?_)|(refine wc_cond_dec (ht:=fun _ => ?_) (hf:=fun _ => ?_)<;> (try first | contradiction | (exfalso; omega)))|refine v_move (k:=?_)|refine v_nilCheck (k:=?_)|refine v_fieldAddr (k:=?_)|refine wv_nil ?_)
        all_goals try (exfalso; first | omega | contradiction)
        refine at_round (⟨f1, _, n1 + 1, q.2.next, a53, cp53, da8, dc8⟩ : QSnd) (by exact ⟨rfl, rfl, trivial⟩) ⟨?_, hnl, by dsimp only; omega, by dsimp only; omega, by dsimp only; omega, by dsimp only; omega, hL⟩ (by dsimp only; omega)
        dsimp only [sndRow]
        rw [hfm]
        exact (hm.front 3 rfl).tl
      · rw [if_neg hcomma] at hL
        rw [show T.is q.2.i [44] = false by simpa using hcomma, if_neg (by simp)] at hcm
        subst hL
        repeat' (first|(refine wc_semi_mem (id:=10) (hm.perm pm1_3) 6 8 (h:=?_); clear hm; intro wd hR hm)|(refine m_readC hm (hc:=p_here s2 hr) (k:=?_); clear hm; intro _ hm)|(refine m_call hm (hc:=hnm2 _ _) (k:=?_); clear hm; rintro _ _ _ _ ⟨rfl, rfl, da4, dc4, rfl⟩ hle hm; try simp only [setn] at hm)|(refine m_call hm (hc:=hcm _ _) (k:=?_); clear hm; rintro _ _ _ _ ⟨rfl, rfl, da8, dc8, rfl⟩ hle hm; try simp only [setn] at hm)|refine mw_loadAll hR (k:=?_)|refine mw_load1 hR (k:=?_)|(refine mt_push (d:=53) hm (k:=?_); clear hm; intro a53 cp53 _ _ hm; replace hm := hR.back hm; clear hR; try simp only [setn] at hm)|(refine m_varS (d:=4) hm (k:=?_); clear hm; intro b4 _ hm)|refine m_load1 hm (k:=?_)|(refine m_store1 hm (k:=?_); clear hm; intro _ hm; try simp only [setn] at hm)|refine op_move (k:=?_)|refine op_eql (k:=?_)|refine op_len_slice (k:=?_)|refine op_not (k:=?_)|refine op_nilCheck (k:=?_)|refine op_fieldAddr (k:=?_)|refine op_struct (k:=?_)|refine wl_nil ?_|refine at_then_normal ?_|refine at_then_exit ?_|refine at_block_exit ?_|refine at_block_other (h:=?_)|refine wc_seq ?_|refine wc_region ?_|refine wc_block ?_|refine wc_skip ?_|refine wc_exit ?_|refine wc_cond_true (ht:=?_)|(refine wc_cond_dec (ht:=fun _ => ?_) (hf:=fun _ => ?_)<;> (try first | contradiction | (exfalso; omega)))|refine v_move (k:=?_)|refine v_nilCheck (k:=?_)|refine v_fieldAddr (k:=?_)|refine wv_nil ?_)
        all_goals try (exfalso; first | omega | contradiction)
        refine at_cut (⟨0, [], n1 + 1, s2, a53, cp53, da8, dc8⟩ : QSnd) (by exact ⟨rfl, rfl, trivial⟩) ⟨hnl.symm, hq2, by dsimp only; omega, ?_⟩
        dsimp only [sndRow]
        rw [hfm]
        exact (hm.front 3 rfl).tl
    · clear hm hd9 hlb hsd
      rintro ⟨_, _, n2, _, a2, cp2, da3, dc3⟩ w3 ⟨hn, hi3, hd3, hm⟩
      dsimp only at hn hm ⊢
      subst hn
      have hbl := fun da dc => (p_stmblock T pb hT (Sp.fuel T)).2 I2 la lc 0 da dc R6.2 hC hr hi3 (by rw [Sp.fuel]; omega) (by omega) (by omega)
      have hgb := (Sp.goes_block T (Sp.fuel T)).1 0 R6.2
      generalize Sp.block T (Sp.fuel T) 0 R6.2 = r7 at hbl hgb ⊢
      have j1 := hgb.le
      have j2 := hgb.top hi3
      have j3 := hgb.ds
      repeat' (first|(refine m_call hm (hc:=hbl _ _) (k:=?_); clear hm; rintro _ I3 _ _ ⟨⟨ab, cb, xb, rfl, hrow, hsts⟩, da8, dc8, rfl⟩ hle hm; have hleI3 := hle; try simp only [setn] at hm)|(refine m_store1 hm (k:=?_); clear hm; intro _ hm; try simp only [setn] at hm)|refine op_move (k:=?_)|refine op_nilCheck (k:=?_)|refine op_fieldAddr (k:=?_)|refine wl_nil ?_|refine at_then_normal ?_|refine wc_region ?_|refine at_end0 (h:=?_))
      obtain ⟨I4, hle4, hm4, hrow4⟩ := (hm.front 2 rfl).freeze
      exact ⟨I4, _, ⟨j2, by dsimp only; omega, rfl, ap, cp, a2, cp2, ab, cb, xb, da8, dc8, (hrowp.le hleI3).le hle4, hrow4, hrow.le hle4, StsAt.le hle4 _ _ hsts, rfl⟩, hm4⟩
  | false =>
    rw [hyes, if_neg (by simp)] at hR6
    rw [hyes, if_neg (by simp)] at hsd
    have hi3 : R6.2.i ≤ T.l.length := by rw [hR6]; exact k8
    have hd3 : R6.2.ds.length ≤ 16000000 := by rw [hR6]; dsimp only; omega
    have hs6 : R6.1 = [] := by rw [hR6]
    have hbl := fun da dc => (p_stmblock T pb hT (Sp.fuel T)).2 I2 la lc 0 da dc R6.2 hC hr hi3 (by rw [Sp.fuel]; omega) (by omega) (by omega)
    have hgb := (Sp.goes_block T (Sp.fuel T)).1 0 R6.2
    generalize Sp.block T (Sp.fuel T) 0 R6.2 = r7 at hbl hgb ⊢
    have j1 := hgb.le
    have j2 := hgb.top hi3
    have j3 := hgb.ds
    subst hR6
    repeat' (first|(refine m_call hm (hc:=hd9 _ _) (k:=?_); clear hm; rintro _ _ _ _ ⟨rfl, rfl, da5, dc5, rfl⟩ hle hm; try simp only [setn] at hm)|(refine m_call hm (hc:=hlb _ _) (k:=?_); clear hm; rintro _ _ _ _ ⟨rfl, rfl, da6, dc6, rfl⟩ hle hm; try simp only [setn] at hm)|(refine m_call hm (hc:=hsd _ _) (k:=?_); clear hm; rintro _ _ _ _ ⟨rfl, rfl, da7, dc7, rfl⟩ hle hm; try simp only [setn] at hm)|(refine m_call hm (hc:=hbl _ _) (k:=?_); clear hm; rintro _ I3 _ _ ⟨⟨ab, cb, xb, rfl, hrow, hsts⟩, da8, dc8, rfl⟩ hle hm; have hleI3 := hle; try simp only [setn] at hm)|(refine m_store1 hm (k:=?_); clear hm; intro _ hm; try simp only [setn] at hm)|refine op_move (k:=?_)|refine op_nilCheck (k:=?_)|refine op_fieldAddr (k:=?_)|refine wl_nil ?_|refine at_then_normal ?_|refine wc_seq ?_|refine wc_region ?_|refine wc_skip ?_|refine at_end0 (h:=?_)|refine wc_cond_false (hf:=?_))
    exact ⟨I3, _, ⟨j2, by dsimp only; omega, rfl, ap, cp, none, 0, ab, cb, xb, da8, dc8, hrowp.le hleI3, rowI_nil _ _ _ _ _, hrow, hsts, rfl⟩, hm⟩
set_option maxHeartbeats 8000000 in
theorem p_item (s : List UInt8) (at_ : Int) (I : Imm) (hC : Conv I) (hs : s.length ≤ 1048576) : CalM Tryz.prog 72 #[str s, .int .i64 at_] I [] (ToIt (Sp.item s at_)) := by
  have hT := ok_tokens s hs
  rw [Sp.item_eq]
  generalize hTd : (Sp.Src.mk (Sp.tokens s) s.length) = T at hT ⊢
  have hsz : T.size = s.length := by rw [← hTd]
  have h2 := hT.size
  have h3 := hT.len
  obtain ⟨q, hq⟩ : ∃ q, q = Sp.itemQ T at_ s.length := ⟨_, rfl⟩
  rw [← hq]
  refine CalM.of fun w E hm => enter (N := 67) Tryz.func72 rfl [(0, str s), (1, .int .i64 at_)] args2 rfl ?_
  repeat' (first|(refine wc_midb 0 (fun x : ItX => [(4, ptr b4), (5, ptr b5), (6, ptr b16)]) (fun x w' => q.2.i ≤ T.l.length ∧ q.2.ds.length ≤ 1099511626000 ∧ TokR x.I T ta tc ∧ RowI x.I 65 3 (.slice x.ap q.1.params.length x.cp) q.1.params.length (q.1.params.flatMap encPar) ∧ RowI x.I 61 2 (.slice x.as_ q.1.sends.length x.cs) q.1.sends.length (q.1.sends.flatMap encRf) ∧ RowI x.I 104 15 (.slice x.ab q.1.body.length x.cb) q.1.body.length x.xb ∧ StsAt x.I q.1.body x.xb ∧ Mem E x.I [qObj b16 ta tc T q.2 0 x.da x.dc, dgRow q.2.ds x.da x.dc, .cell b5 (itV q.1 x) 47, .cell b4 (itCells 0 [] 0 nil0 nil0 nil0 0 0 0 nil0) 47] w') ?_ ?_)|(refine op_call (hc:=by exact c_tokens s (by omega) _) (k:=?_); rintro tv wt ⟨hto, hkt⟩; obtain ⟨ta, tc, rfl⟩ := own_val hto; obtain ⟨I1, hle1, hm1, hrow⟩ := hm.take hkt hto; clear hm; have hm := hm1; clear hm1)|(refine m_allocS (d:=4) hm (k:=?_); clear hm; intro b4 _ hm)|(refine m_varS (d:=5) hm (k:=?_); clear hm; intro b5 _ hm)|(refine m_box (d:=16) hm (k:=?_); clear hm; intro b16 _ hm)|refine op_move (k:=?_)|refine op_assign (k:=?_)|refine op_len_str (k:=?_)|refine op_struct (k:=?_)|refine wl_nil ?_|refine at_then_normal ?_|refine wc_seq ?_|refine wc_region ?_)
  · rename_i wB
    have hr : TokR I1 T ta tc := by rw [← hTd]; exact hrow
    have hC1 := hC.le hle1
    have hm2 : Mem E I1 [qObj b16 ta tc T ⟨0, []⟩ 0 none 0, .cell b5 (itCells 3 [] 0 nil0 nil0 nil0 at_ s.length 0 nil0) 47, .cell b4 (itCells 0 [] 0 nil0 nil0 nil0 0 0 0 nil0) 47] wB := by rw [← hTd]; exact hm
    have hm3 : Mem E I1 [qObj b16 ta tc T ⟨0, []⟩ 0 none 0, dgRow [] none 0, .cell b5 (itCells 3 [] 0 nil0 nil0 nil0 at_ s.length 0 nil0) 47, .cell b4 (itCells 0 [] 0 nil0 nil0 nil0 0 0 0 nil0) 47] wB := (hm2.nil 154 4).swap
    clear hm hm2 hrow hto
    have hm := hm3
    clear hm3
    have hq1 := fun da dc => p_eat (pb := b16) (deep := 0) (da := da) (dc := dc) ⟨0, []⟩ [102, 110] (by simp) hr hT (Nat.zero_le _)
    have hq2 := fun da dc => p_eat (pb := b16) (deep := 0) (da := da) (dc := dc) ⟨0, []⟩ [99, 104, 97, 110] (by simp) hr hT (Nat.zero_le _)
    dsimp only at hq1 hq2
    rw [Sp.itemQ] at hq
    by_cases hf : T.is 0 [102, 110] = true
    · rw [if_pos hf] at hq
      rw [if_pos hf, hf] at hq1
      have hlt := Sp.is_lt hf
      have hfn := fun da dc => p_fn T b16 b5 hT I1 ta tc da dc ⟨1, []⟩ at_ s.length hC1 hr hlt rfl
      rw [← hq] at hfn
      repeat' (first|(refine m_call hm (hc:=hq1 _ _) (k:=?_); clear hm; rintro _ _ _ _ ⟨rfl, rfl, da1, dc1, rfl⟩ hle hm; try simp only [setn] at hm)|(refine m_call hm (hc:=hfn _ _) (k:=?_); clear hm; rintro _ I2 _ _ ⟨hqi, hqd, rfl, ap, cp, as_, cs, ab, cb, xb, da2, dc2, r1, r2, r3, r4, rfl⟩ hle hm; have hleI2 := hle; try simp only [setn] at hm)|refine op_move (k:=?_)|refine op_assign (k:=?_)|refine wl_nil ?_|refine at_then_normal ?_|refine at_block_normal ?_|refine wc_region ?_|refine wc_cond_true (ht:=?_))
      exact at_cut (⟨I2, da2, dc2, ap, cp, as_, cs, ab, cb, xb⟩ : ItX) (by exact ⟨rfl, rfl, rfl, trivial⟩) ⟨hqi, hqd, hr.le hleI2, r1, r2, r3, r4, hm⟩
    rw [if_neg hf] at hq
    rw [if_neg hf, show T.is 0 [102, 110] = false by simpa using hf] at hq1
    by_cases hc : T.is 0 [99, 104, 97, 110] = true
    · rw [if_pos hc, Sp.chItm] at hq
      rw [if_pos hc, hc] at hq2
      have hlt := Sp.is_lt hc
      dsimp only at hq
      have hnm := fun da dc => p_name (pb := b16) (deep := 0) (da := da) (dc := dc) ⟨1, []⟩ hr hT (by simp) hlt
      have hhr := fun da dc => p_here (pb := b16) (deep := 0) (da := da) (dc := dc) ⟨1, []⟩ hr
      have hgn := Sp.goes_named T ⟨1, []⟩
      generalize (⟨1, []⟩ : Sp.St).named T = r at hnm hgn hq
      have hn1 := hgn.le
      have hn2 := hgn.top hlt
      have hn3 := hgn.ds
      dsimp only [List.length_nil] at hn1 hn3
      have hd1 := fun da dc => p_must (pb := b16) (deep := 0) (da := da) (dc := dc) r.2 [58] (by simp) hr hT (by omega) hn2
      have hg1 := Sp.goes_need T r.2 [58]
      generalize (r.2.need T [58]) = s1 at hd1 hg1 hq
      have k1 := hg1.le
      have k2 := hg1.top hn2
      have k3 := hg1.ds
      have hlb := fun da dc => p_label (pb := b16) (deep := 0) (da := da) (dc := dc) s1.2 hr hT k2 (by omega)
      have hgl := Sp.goes_lab T s1.2
      generalize Sp.lab T s1.2 = r2 at hlb hgl hq
      have k4 := hgl.le
      have k5 := hgl.top k2
      have k6 := hgl.ds
      have hd2 := fun da dc => p_must (pb := b16) (deep := 0) (da := da) (dc := dc) r2.2 [59] (by simp) hr hT (by omega) k5
      have hg2 := Sp.goes_need T r2.2 [59]
      generalize (r2.2.need T [59]) = s3 at hd2 hg2 hq
      have k7 := hg2.le
      have k8 := hg2.top k5
      have k9 := hg2.ds
      subst hq
      repeat' (first|(refine m_call hm (hc:=hq1 _ _) (k:=?_); clear hm; rintro _ _ _ _ ⟨rfl, rfl, da5, dc5, rfl⟩ hle hm; try simp only [setn] at hm)|(refine m_call hm (hc:=hq2 _ _) (k:=?_); clear hm; rintro _ _ _ _ ⟨rfl, rfl, da6, dc6, rfl⟩ hle hm; try simp only [setn] at hm)|(refine m_readC hm (hc:=hhr _ _) (k:=?_); clear hm; intro _ hm)|(refine m_call hm (hc:=hnm _ _) (k:=?_); clear hm; rintro _ _ _ _ ⟨rfl, rfl, da1, dc1, rfl⟩ hle hm; try simp only [setn] at hm)|(refine m_call (d:=48) hm (hc:=hd2 _ _) (k:=?_); clear hm; rintro _ _ _ _ ⟨rfl, rfl, da4, dc4, rfl⟩ hle hm; try simp only [setn] at hm)|(refine m_call hm (hc:=hd1 _ _) (k:=?_); clear hm; rintro _ _ _ _ ⟨rfl, rfl, da2, dc2, rfl⟩ hle hm; try simp only [setn] at hm)|(refine m_call hm (hc:=hlb _ _) (k:=?_); clear hm; rintro _ _ _ _ ⟨rfl, rfl, da3, dc3, rfl⟩ hle hm; try simp only [setn] at hm)|(refine m_store1 hm (k:=?_); clear hm; intro _ hm; try simp only [setn] at hm)|refine op_move (k:=?_)|refine op_assign (k:=?_)|refine op_fieldAddr (k:=?_)|refine wl_nil ?_|refine at_then_normal ?_|refine at_block_normal ?_|refine wc_seq ?_|refine wc_region ?_|refine wc_cond_true (ht:=?_)|refine wc_cond_false (hf:=?_))
      exact at_cut (⟨I1, da4, dc4, none, 0, none, 0, none, 0, []⟩ : ItX) (by exact ⟨rfl, rfl, rfl, trivial⟩) ⟨k8, by dsimp only; omega, hr, rowI_nil _ _ _ _ _, rowI_nil _ _ _ _ _, rowI_nil _ _ _ _ _, .nil, hm⟩
    · rw [if_neg hc] at hq
      rw [if_neg hc, show T.is 0 [99, 104, 97, 110] = false by simpa using hc] at hq2
      subst hq
      repeat' (first|(refine m_call hm (hc:=hq1 _ _) (k:=?_); clear hm; rintro _ _ _ _ ⟨rfl, rfl, da5, dc5, rfl⟩ hle hm; try simp only [setn] at hm)|(refine m_call hm (hc:=hq2 _ _) (k:=?_); clear hm; rintro _ _ _ _ ⟨rfl, rfl, da6, dc6, rfl⟩ hle hm; try simp only [setn] at hm)|(refine m_call hm (hc:=p_tell ⟨0, []⟩ 2 hr hT (Nat.zero_le _) (by simp)) (k:=?_); clear hm; rintro _ _ _ _ ⟨rfl, rfl, da2, dc2, rfl⟩ hle hm; try simp only [setn] at hm)|refine m_load1 hm (k:=?_)|(refine m_store1 hm (k:=?_); clear hm; intro _ hm; try simp only [setn] at hm)|refine op_move (k:=?_)|refine op_assign (k:=?_)|refine op_len_slice (k:=?_)|refine op_nilCheck (k:=?_)|refine op_fieldAddr (k:=?_)|refine wl_nil ?_|refine at_then_normal ?_|refine at_block_normal ?_|refine wc_seq ?_|refine wc_region ?_|refine wc_cond_false (hf:=?_))
      exact at_cut (⟨I1, da2, dc2, none, 0, none, 0, none, 0, []⟩ : ItX) (by exact ⟨rfl, rfl, rfl, trivial⟩) ⟨Nat.le_refl _, by simp [Sp.St.bad], hr, rowI_nil _ _ _ _ _, rowI_nil _ _ _ _ _, rowI_nil _ _ _ _ _, .nil, hm⟩
  clear hm
  rintro ⟨I2, da, dc, ap, cp, as_, cs, ab, cb, xb⟩ w2 ⟨hi, hd, hr, r1, r2, r3, r4, hm⟩
  dsimp only [itV] at hi hd hr r1 r2 r3 r4 hm ⊢
  rw [Sp.itemT]
  by_cases hlt : q.2.i < T.l.length
  · rw [if_pos hlt]
    repeat' (first|(refine m_call hm (hc:=p_tell q.2 2 hr hT hi (by omega)) (k:=?_); clear hm; rintro _ _ _ _ ⟨rfl, rfl, da2, dc2, rfl⟩ hle hm; try simp only [setn] at hm)|refine m_load1 hm (k:=?_)|refine m_loadAll hm (k:=?_)|refine mq_load1 hm (k:=?_)|(refine m_storeAll hm (k:=?_); clear hm; intro _ hm; try simp only [setn] at hm)|(refine m_store1 hm (k:=?_); clear hm; intro _ hm; try simp only [setn] at hm)|refine m_ret_agg hm (h:=?_)|refine op_move (k:=?_)|refine op_nilCheck (k:=?_)|refine op_fieldAddr (k:=?_)|refine wl_nil ?_|refine at_then_normal ?_|refine wc_seq ?_|refine wc_region ?_|refine wc_ret ?_|refine wc_quiet (h:=?_)|(refine wq_nil ?_; intro _ hkq; replace hm := hm.kept0 hkq; clear hkq)|(refine wc_cond_dec (ht:=fun _ => ?_) (hf:=fun _ => ?_)<;> (try first | contradiction | (exfalso; omega)))|refine q_move (k:=?_)|refine q_lss (k:=?_)|refine q_len_slice (k:=?_)|refine q_nilCheck (k:=?_)|refine q_fieldAddr (k:=?_))
    all_goals try (exfalso; omega)
    obtain ⟨I3, hle3, hm3, hrow3⟩ := (hm.front 1 rfl).freeze
    exact ⟨I3, [], ⟨_, rfl, ⟨ap, cp, as_, cs, ab, cb, da2, dc2, xb, rfl, r1.le hle3, r2.le hle3, r3.le hle3, StsAt.le hle3 _ _ r4, hrow3⟩, rfl⟩, hm3.left (H := [])⟩
  · rw [if_neg hlt]
    repeat' (first|refine m_load1 hm (k:=?_)|refine m_loadAll hm (k:=?_)|refine mq_load1 hm (k:=?_)|(refine m_storeAll hm (k:=?_); clear hm; intro _ hm; try simp only [setn] at hm)|(refine m_store1 hm (k:=?_); clear hm; intro _ hm; try simp only [setn] at hm)|refine m_ret_agg hm (h:=?_)|refine op_move (k:=?_)|refine op_nilCheck (k:=?_)|refine op_fieldAddr (k:=?_)|refine wl_nil ?_|refine at_then_normal ?_|refine wc_seq ?_|refine wc_region ?_|refine wc_skip ?_|refine wc_ret ?_|refine wc_quiet (h:=?_)|(refine wq_nil ?_; intro _ hkq; replace hm := hm.kept0 hkq; clear hkq)|(refine wc_cond_dec (ht:=fun _ => ?_) (hf:=fun _ => ?_)<;> (try first | contradiction | (exfalso; omega)))|refine q_move (k:=?_)|refine q_lss (k:=?_)|refine q_len_slice (k:=?_)|refine q_nilCheck (k:=?_)|refine q_fieldAddr (k:=?_))
    all_goals try (exfalso; omega)
    obtain ⟨I3, hle3, hm3, hrow3⟩ := (hm.front 1 rfl).freeze
    exact ⟨I3, [], ⟨_, rfl, ⟨ap, cp, as_, cs, ab, cb, da, dc, xb, rfl, r1.le hle3, r2.le hle3, r3.le hle3, StsAt.le hle3 _ _ r4, hrow3⟩, rfl⟩, hm3.left (H := [])⟩
end Go.Proofs.YthmdffgiockcbaaGreatDoor
end
section
namespace Go.Proofs.YthmdffgiockcbaaGreatDoor
open Go Go.Fw
instance : TyMap Tryz.prog 77 3 4 := ⟨by kernel_rfl⟩
instance : TyMap Tryz.prog 108 3 3 := ⟨by kernel_rfl⟩
instance : TyMap Tryz.prog 145 9 47 := ⟨by kernel_rfl⟩
end Go.Proofs.YthmdffgiockcbaaGreatDoor
end
section
namespace Go.Proofs.YthmdffgiockcbaaGreatDoor
open Go.Fw
theorem _root_.Go.Fw.RowI.none {I : Imm} {ty : TypeId} {sz n cp : Nat} {us : List Value} (h : RowI I ty sz (.slice none n cp) n us) : n = 0 := by
  obtain ⟨_, a, cap, e1, _, e3⟩ := h
  rcases Nat.eq_zero_or_pos n with h0 | h0
  · exact h0
  · obtain ⟨b, off, c, fr, f1, _⟩ := e3 h0
    injection e1 with e1
    rw [f1] at e1; cases e1
abbrev ToRow (ty : TypeId) (sz n : Nat) (us : List Value) : Value → Imm → List HItem → Prop := fun v I' H' => H' = [] ∧ ∃ a cp, v = .slice a n cp ∧ RowI I' ty sz (.slice a n cp) n us
set_option maxHeartbeats 2000000 in
theorem p_cloneP (I : Imm) (a : Option Addr) (n cp : Nat) (us : List Value) (hr : RowI I 65 3 (.slice a n cp) n us) (h1 : us.all (·.oneCell') = true) (hn : n ≤ 1099511627776) :
    CalM Tryz.prog 47 #[.slice a n cp] I [] (ToRow 65 3 n us) := by
  refine CalM.of fun w E hm => enter (N := 8) Tryz.func47 rfl [(0, .slice a n cp)] args1 rfl ?_
  cases a with
  | none =>
    have h0 : n = 0 := hr.none
    subst h0
    have hu : us = [] := List.eq_nil_of_length_eq_zero (by have := hr.len; simpa using this)
    subst hu
    repeat' (first|(refine op_eql_nilslice (k:=?_))|refine op_move (k:=?_)|refine op_assign (k:=?_)|refine wl_nil ?_|refine at_then_normal ?_|refine at_then_ret ?_|refine wc_seq ?_|refine wc_region ?_|refine wc_ret ?_|refine at_ret1 (h:=?_)|refine wc_cond_true (ht:=?_))
    exact ⟨I, [], ⟨rfl, none, 0, rfl, rowI_nil _ _ _ _ _⟩, hm⟩
  | some ad =>
    repeat' (first|(refine op_eql_nilslice (k:=?_))|(refine m_buildRow hm (k:=?_); clear hm; intro bb _ hm)|(refine m_appendR hm (hr:=hr) (h1:=h1) (k:=?_); clear hm; intro a2 cp2 _ hm; try simp only [setn] at hm)|refine op_move (k:=?_)|refine op_assign (k:=?_)|refine wl_nil ?_|refine at_then_normal ?_|refine wc_seq ?_|refine wc_region ?_|refine wc_skip ?_|refine wc_ret ?_|refine at_ret1 (h:=?_)|refine wc_cond_false (hf:=?_))
    simp only [Nat.zero_add] at hm ⊢
    obtain ⟨I3, hle3, hm3, hrow3⟩ := (hm.front 0 rfl).freeze
    exact ⟨I3, [], ⟨rfl, a2, cp2, rfl, hrow3⟩, hm3.left (H := [])⟩
set_option maxHeartbeats 2000000 in
theorem p_cloneR (I : Imm) (a : Option Addr) (n cp : Nat) (us : List Value) (hr : RowI I 61 2 (.slice a n cp) n us) (h1 : us.all (·.oneCell') = true) (hn : n ≤ 1099511627776) :
    CalM Tryz.prog 48 #[.slice a n cp] I [] (ToRow 61 2 n us) := by
  refine CalM.of fun w E hm => enter (N := 8) Tryz.func48 rfl [(0, .slice a n cp)] args1 rfl ?_
  cases a with
  | none =>
    have h0 : n = 0 := hr.none
    subst h0
    have hu : us = [] := List.eq_nil_of_length_eq_zero (by have := hr.len; simpa using this)
    subst hu
    repeat' (first|(refine op_eql_nilslice (k:=?_))|refine op_move (k:=?_)|refine op_assign (k:=?_)|refine wl_nil ?_|refine at_then_normal ?_|refine at_then_ret ?_|refine wc_seq ?_|refine wc_region ?_|refine wc_ret ?_|refine at_ret1 (h:=?_)|refine wc_cond_true (ht:=?_))
    exact ⟨I, [], ⟨rfl, none, 0, rfl, rowI_nil _ _ _ _ _⟩, hm⟩
  | some ad =>
    repeat' (first|(refine op_eql_nilslice (k:=?_))|(refine m_buildRow hm (k:=?_); clear hm; intro bb _ hm)|(refine m_appendR hm (hr:=hr) (h1:=h1) (k:=?_); clear hm; intro a2 cp2 _ hm; try simp only [setn] at hm)|refine op_move (k:=?_)|refine op_assign (k:=?_)|refine wl_nil ?_|refine at_then_normal ?_|refine wc_seq ?_|refine wc_region ?_|refine wc_skip ?_|refine wc_ret ?_|refine at_ret1 (h:=?_)|refine wc_cond_false (hf:=?_))
    simp only [Nat.zero_add] at hm ⊢
    obtain ⟨I3, hle3, hm3, hrow3⟩ := (hm.front 0 rfl).freeze
    exact ⟨I3, [], ⟨rfl, a2, cp2, rfl, hrow3⟩, hm3.left (H := [])⟩
set_option maxHeartbeats 2000000 in
theorem p_cloneD (I : Imm) (a : Option Addr) (n cp : Nat) (us : List Value) (hr : RowI I 154 4 (.slice a n cp) n us) (h1 : us.all (·.oneCell') = true) (hn : n ≤ 1099511627776) :
    CalM Tryz.prog 76 #[.slice a n cp] I [] (ToRow 154 4 n us) := by
  refine CalM.of fun w E hm => enter (N := 8) Tryz.func76 rfl [(0, .slice a n cp)] args1 rfl ?_
  cases a with
  | none =>
    have h0 : n = 0 := hr.none
    subst h0
    have hu : us = [] := List.eq_nil_of_length_eq_zero (by have := hr.len; simpa using this)
    subst hu
    repeat' (first|(refine op_eql_nilslice (k:=?_))|refine op_move (k:=?_)|refine op_assign (k:=?_)|refine wl_nil ?_|refine at_then_normal ?_|refine at_then_ret ?_|refine wc_seq ?_|refine wc_region ?_|refine wc_ret ?_|refine at_ret1 (h:=?_)|refine wc_cond_true (ht:=?_))
    exact ⟨I, [], ⟨rfl, none, 0, rfl, rowI_nil _ _ _ _ _⟩, hm⟩
  | some ad =>
    repeat' (first|(refine op_eql_nilslice (k:=?_))|(refine m_buildRow hm (k:=?_); clear hm; intro bb _ hm)|(refine m_appendR hm (hr:=hr) (h1:=h1) (k:=?_); clear hm; intro a2 cp2 _ hm; try simp only [setn] at hm)|refine op_move (k:=?_)|refine op_assign (k:=?_)|refine wl_nil ?_|refine at_then_normal ?_|refine wc_seq ?_|refine wc_region ?_|refine wc_skip ?_|refine wc_ret ?_|refine at_ret1 (h:=?_)|refine wc_cond_false (hf:=?_))
    simp only [Nat.zero_add] at hm ⊢
    obtain ⟨I3, hle3, hm3, hrow3⟩ := (hm.front 0 rfl).freeze
    exact ⟨I3, [], ⟨rfl, a2, cp2, rfl, hrow3⟩, hm3.left (H := [])⟩
theorem pars_one (l : List Sp.Par) : (l.flatMap encPar).all (·.oneCell') = true := by
  induction l with
  | nil => rfl
  | cons p l ih => rw [List.flatMap_cons, List.all_append, ih]; rfl
theorem rfs_one (l : List Sp.Rf) : (l.flatMap encRf).all (·.oneCell') = true := by
  induction l with
  | nil => rfl
  | cons p l ih => rw [List.flatMap_cons, List.all_append, ih]; rfl
theorem dgs_one (l : List Sp.Dg) : (l.flatMap encDg).all (·.oneCell') = true := by
  induction l with
  | nil => rfl
  | cons p l ih => rw [List.flatMap_cons, List.all_append, ih]; rfl
end Go.Proofs.YthmdffgiockcbaaGreatDoor
end
