/- Own work: texts PpB, PpC, SpecAtoi, one behind the other. -/
import Derived.Test.YthmdffgiockcbaaDoorIf10
import Derived.Lib.AtoiAll
section
namespace Go.Proofs.YthmdffgiockcbaaDoor
open Go.Fw
/-- the parser comes to 's'. -/
abbrev ToQ (pb : Nat) (la : Option Addr) (lc : Nat) (T : Sp.Src) (deep : Nat) (I : Imm) (s : Sp.St) (val : Value) : Value → Imm → List HItem → Prop :=
  fun v I' H' => v = val ∧ I = I' ∧ ∃ da dc, H' = QSt pb la lc T s deep da dc
theorem QSt_snoc (pb : Nat) (la : Option Addr) (lc : Nat) (T : Sp.Src) (s : Sp.St) (g : Sp.Dg) (deep : Nat) (da : Option Addr) (dc : Nat) :
    [.obj pb (.cells [.slice la T.l.length lc, nt s.i, nt T.size, .slice da (s.ds.length + 1) dc, nt deep].toArray 96 (0, 0)), .row (.slice da (s.ds.length + 1) dc) 65 4 (s.ds.length + 1) (s.ds.flatMap encDg ++ encDg g)] = QSt pb la lc T ⟨s.i, s.ds ++ [g]⟩ deep da dc := by
  simp [List.flatMap_append]
section
variable {I : Imm} {pb deep lc dc : Nat} {la da : Option Addr} {T : Sp.Src}

theorem p_eat (s : Sp.St) (t : List UInt8) (_ht : t ≠ []) (hr : TokR I T la lc) (hT : Ok T) (hi : s.i ≤ T.l.length) :
    CalM Tryd.prog 28 #[ptr pb, str t] I (QSt pb la lc T s deep da dc) (ToQ pb la lc T deep I (if T.is s.i t = true then s.next else s) (.bool (T.is s.i t))) := by
  refine CalM.of fun w E hm => enter (N := 28) Tryd.func28 rfl [(0, ptr pb), (1, str t)] args2 rfl ?_
  have h2 := hT.size
  have h3 := hT.len
  by_cases hq : T.is s.i t = true
  · have hlt := Sp.is_lt hq
    have hte : (T.tok s.i).text = t := by simp only [Sp.Src.is, Bool.and_eq_true, decide_eq_true_eq] at hq; exact hq.2
    rw [if_pos hq, hq]
    have hpk := p_peek (pb := pb) (deep := deep) (da := da) (dc := dc) s hr
    rw [hte] at hpk
    repeat' (first
    | (refine mq_readC hm (hc:=hpk) (k:=?_))
    | refine m_load1 hm (k:=?_)
    | refine mq_load1 hm (k:=?_)
    | (refine m_store1 hm (k:=?_); clear hm; intro _ hm; try simp only [setn] at hm)
    | refine op_move (k:=?_)
    | refine op_assign (k:=?_)
    | refine op_nilCheck (k:=?_)
    | refine op_add (k:=?_)
    | refine op_fieldAddr (k:=?_)
    | refine wl_nil ?_
    | refine at_then_normal ?_
    | refine wc_seq ?_
    | refine wc_region ?_
    | refine wc_skip ?_
    | refine wc_ret ?_
    | refine at_ret1 (h:=?_)
    | refine wc_quiet (h:=?_)
    | (refine wq_nil ?_; intro _ hkq; replace hm := hm.kept0 hkq; clear hkq)
    | (refine wc_cond_dec (ht:=fun _ => ?_) (hf:=fun _ => ?_)<;> (try first | contradiction | (exfalso; omega)))
    | refine q_move (k:=?_)
    | refine q_pick_false (k:=?_)
    | refine q_eql (k:=?_)
    | refine q_neq_str (k:=?_)
    | refine q_len_slice (k:=?_)
    | refine q_nilCheck (k:=?_)
    | refine q_fieldAddr (k:=?_)
    | (refine wq_split_dec (h1:=fun _ => ?_) (h0:=fun _ => ?_)<;> (try first | contradiction | (exfalso; omega))))
    all_goals try (exfalso; first | omega | simp_all; done)
    exact ⟨I, _, ⟨rfl, rfl, da, dc, rfl⟩, hm⟩
  · rw [if_neg hq, show T.is s.i t = false by simpa using hq]
    by_cases hlt : s.i < T.l.length
    · have hte : (T.tok s.i).text ≠ t := by
        intro e; exact hq (by simp [Sp.Src.is, hlt, e])
      repeat' (first
      | (refine mq_readC hm (hc:=p_peek s hr) (k:=?_))
      | refine op_assign (k:=?_)
      | refine wl_nil ?_
      | refine at_then_normal ?_
      | refine at_then_ret ?_
      | refine wc_seq ?_
      | refine wc_region ?_
      | refine wc_ret ?_
      | refine at_ret1 (h:=?_)
      | refine wc_quiet (h:=?_)
      | (refine wq_nil ?_; intro _ hkq; replace hm := hm.kept0 hkq; clear hkq)
      | refine wc_cond_true (ht:=?_)
      | refine q_move (k:=?_)
      | refine q_pick_true (k:=?_)
      | refine q_neq_str (k:=?_)
      | refine wq_skip (k:=?_)
      | (refine wq_split_dec (h1:=fun _ => ?_) (h0:=fun _ => ?_)<;> (try first | contradiction | (exfalso; omega))))
      all_goals try (exfalso; first | omega | simp_all; done)
      all_goals exact ⟨I, _, ⟨rfl, rfl, da, dc, rfl⟩, hm⟩
    · have hei : s.i = T.l.length := by omega
      repeat' (first
      | (refine mq_readC hm (hc:=p_peek s hr) (k:=?_))
      | refine mq_load1 hm (k:=?_)
      | refine op_assign (k:=?_)
      | refine wl_nil ?_
      | refine at_then_normal ?_
      | refine at_then_ret ?_
      | refine wc_seq ?_
      | refine wc_region ?_
      | refine wc_ret ?_
      | refine at_ret1 (h:=?_)
      | refine wc_quiet (h:=?_)
      | (refine wq_nil ?_; intro _ hkq; replace hm := hm.kept0 hkq; clear hkq)
      | refine wc_cond_true (ht:=?_)
      | (refine wc_cond_dec (ht:=fun _ => ?_) (hf:=fun _ => ?_)<;> (try first | contradiction | (exfalso; omega)))
      | refine q_move (k:=?_)
      | refine q_pick_true (k:=?_)
      | refine q_pick_false (k:=?_)
      | refine q_eql (k:=?_)
      | refine q_neq_str (k:=?_)
      | refine q_len_slice (k:=?_)
      | refine q_nilCheck (k:=?_)
      | refine q_fieldAddr (k:=?_)
      | refine wq_skip (k:=?_)
      | (refine wq_split_dec (h1:=fun _ => ?_) (h0:=fun _ => ?_)<;> (try first | contradiction | (exfalso; omega))))
      all_goals try (exfalso; first | omega | simp_all; done)
      all_goals exact ⟨I, _, ⟨rfl, rfl, da, dc, rfl⟩, hm⟩
theorem p_tell (s : Sp.St) (e : Nat) (hr : TokR I T la lc) (hT : Ok T) (hi : s.i ≤ T.l.length) (hd : s.ds.length < 1099511627776) :
    CalM Tryd.prog 34 #[ptr pb, nt e] I (QSt pb la lc T s deep da dc) (ToQ pb la lc T deep I (s.bad T e) (.tuple #[])) := by
  refine CalM.of fun w E hm => enter (N := 59) Tryd.func34 rfl [(0, ptr pb), (1, nt e)] args2 rfl ?_
  have h1 := hT.at_ s.i
  have h2 := hT.size
  have h3 := hT.len
  by_cases hlt : s.i < T.l.length
  · have htk := tok_get hlt
    repeat' (first
    | (refine iq_indexFlat (hr:=by exact hr) (he:=by intro _; rfl) (hz:=by exact htk) (k:=?_); intro b1 o1 hp1)
    | (refine wc_semi_memL (id:=3) (hm.perm pm1_1) [0,1,2,3,4,5,7,8,9] [6,10,11,12,13] 14 (h:=?_); clear hm; intro wd hR hm)
    | (refine mt_readR (d:=53) hR hm (hc:=p_peek s hr) (k:=?_); clear hm; intro _ hm)
    | (refine mt_readR (d:=49) hR hm (hc:=p_here s hr) (k:=?_); clear hm; intro _ hm)
    | refine mw_load1 hR (k:=?_)
    | refine mt_struct hm (k:=?_)
    | (refine mt_push (d:=56) hm (k:=?_); clear hm; intro a56 cp56 _ _ hm; replace hm := hR.back hm; clear hR; try simp only [setn] at hm)
    | refine m_load1 hm (k:=?_)
    | refine mq_load1 hm (k:=?_)
    | refine iq_load1 hm (k:=?_)
    | (refine m_store1 hm (k:=?_); clear hm; intro _ hm; try simp only [setn] at hm)
    | refine op_move (k:=?_)
    | refine op_assign (k:=?_)
    | refine op_nilCheck (k:=?_)
    | refine op_fieldAddr (k:=?_)
    | refine wl_nil ?_
    | refine at_then_normal ?_
    | refine wc_seq ?_
    | refine wc_region ?_
    | refine at_end0 (h:=?_)
    | refine wc_quiet (h:=?_)
    | (refine wq_nil ?_; intro _ hkq; replace hm := hm.kept0 hkq; clear hkq)
    | (refine wc_cond_dec (ht:=fun _ => ?_) (hf:=fun _ => ?_)<;> (try first | contradiction | (exfalso; omega)))
    | refine q_move (k:=?_)
    | refine q_assign (k:=?_)
    | refine q_lss (k:=?_)
    | refine q_len_str (k:=?_)
    | refine q_len_slice (k:=?_)
    | refine q_nilCheck (k:=?_)
    | refine q_add (k:=?_)
    | refine q_fieldAddr (k:=?_)
    | refine v_move (k:=?_)
    | refine v_nilCheck (k:=?_)
    | refine v_fieldAddr (k:=?_)
    | refine wv_nil ?_)
    exact ⟨I, _, ⟨rfl, rfl, _, _, QSt_snoc _ _ _ _ _ ⟨_, _, _, _⟩ _ _ _⟩, hm.swap⟩
  · have he : T.tok s.i = ⟨0, [], T.size⟩ := Sp.tok_end (by omega)
    rw [Sp.St.bad, he]
    have hpk := p_peek (pb := pb) (deep := deep) (da := da) (dc := dc) s hr
    have hhr := p_here (pb := pb) (deep := deep) (da := da) (dc := dc) s hr
    rw [he] at hpk hhr
    repeat' (first
    | (refine wc_semi_memL (id:=3) (hm.perm pm1_1) [0,1,2,3,4,5,7,8,9] [6,10,11,12,13] 14 (h:=?_); clear hm; intro wd hR hm)
    | (refine mt_readR (d:=53) hR hm (hc:=hpk) (k:=?_); clear hm; intro _ hm)
    | (refine mt_readR (d:=49) hR hm (hc:=hhr) (k:=?_); clear hm; intro _ hm)
    | refine mw_load1 hR (k:=?_)
    | refine mt_struct hm (k:=?_)
    | (refine mt_push (d:=56) hm (k:=?_); clear hm; intro a56 cp56 _ _ hm; replace hm := hR.back hm; clear hR; try simp only [setn] at hm)
    | refine m_load1 hm (k:=?_)
    | refine mq_load1 hm (k:=?_)
    | (refine m_store1 hm (k:=?_); clear hm; intro _ hm; try simp only [setn] at hm)
    | refine op_move (k:=?_)
    | refine op_assign (k:=?_)
    | refine op_nilCheck (k:=?_)
    | refine op_fieldAddr (k:=?_)
    | refine wl_nil ?_
    | refine at_then_normal ?_
    | refine wc_seq ?_
    | refine wc_region ?_
    | refine wc_skip ?_
    | refine at_end0 (h:=?_)
    | refine wc_quiet (h:=?_)
    | (refine wq_nil ?_; intro _ hkq; replace hm := hm.kept0 hkq; clear hkq)
    | (refine wc_cond_dec (ht:=fun _ => ?_) (hf:=fun _ => ?_)<;> (try first | contradiction | (exfalso; omega)))
    | refine q_move (k:=?_)
    | refine q_lss (k:=?_)
    | refine q_len_slice (k:=?_)
    | refine q_nilCheck (k:=?_)
    | refine q_fieldAddr (k:=?_)
    | refine v_move (k:=?_)
    | refine v_nilCheck (k:=?_)
    | refine v_fieldAddr (k:=?_)
    | refine wv_nil ?_)
    exact ⟨I, _, ⟨rfl, rfl, _, _, QSt_snoc _ _ _ _ _ ⟨_, _, _, _⟩ _ _ _⟩, hm.swap⟩
end
end Go.Proofs.YthmdffgiockcbaaDoor
end
section
namespace Go.Sp
theorem tagp (n : Nat) (hn : n < 256) (q : Nat) (hq : q < 8) : (n : Int).fdiv (2 ^ q) = ((n / 2 ^ q : Nat) : Int) ∧ (n / 2 ^ q) &&& 1 = (bit n q).toNat ∧ (n ||| 2 ^ q) = (if bit n q = true then n else n + 2 ^ q) ∧ (n ||| 2 ^ q) < 256 := by
  revert hq; revert q; revert hn; revert n; decide +kernel
theorem pow8 (q : Nat) (hq : q < 8) : (1 : Int) * 2 ^ q = ((2 ^ q : Nat) : Int) ∧ 2 ^ q < 256 := by
  revert hq; revert q; decide +kernel
end Go.Sp
namespace Go.Proofs.YthmdffgiockcbaaDoor
open Go.Fw
structure QLab where
  f : Nat
  n : Nat
  s : Sp.St
  da : Option Addr
  dc : Nat
section
variable {I : Imm} {pb deep lc dc : Nat} {la da : Option Addr} {T : Sp.Src}
theorem p_must (s : Sp.St) (t : List UInt8) (ht : t ≠ []) (hr : TokR I T la lc) (hT : Ok T) (hd : s.ds.length < 1099511627776) (hi : s.i ≤ T.l.length) :
    CalM Tryd.prog 32 #[ptr pb, str t] I (QSt pb la lc T s deep da dc) (ToQ pb la lc T deep I (s.need T t).2 (.bool (s.need T t).1)) := by
  refine CalM.of fun w E hm => enter (N := 10) Tryd.func32 rfl [(0, ptr pb), (1, str t)] args2 rfl ?_
  have he := p_eat (pb := pb) (deep := deep) (da := da) (dc := dc) s t ht hr hT hi
  rw [Sp.St.need]
  by_cases hq : T.is s.i t = true
  · rw [if_pos hq, hq] at he
    rw [if_pos hq]
    repeat' (first
    | (refine m_call hm (hc:=he) (k:=?_); clear hm; rintro _ _ _ _ ⟨rfl, rfl, da1, dc1, rfl⟩ hle hm; try simp only [setn] at hm)
    | refine op_move (k:=?_)
    | refine op_assign (k:=?_)
    | refine wl_nil ?_
    | refine at_then_normal ?_
    | refine at_then_ret ?_
    | refine wc_seq ?_
    | refine wc_region ?_
    | refine wc_ret ?_
    | refine at_ret1 (h:=?_)
    | refine wc_cond_true (ht:=?_))
    exact ⟨I, _, ⟨rfl, rfl, da1, dc1, rfl⟩, hm⟩
  · rw [if_neg hq, show T.is s.i t = false by simpa using hq] at he
    rw [if_neg hq]
    repeat' (first
    | (refine m_call hm (hc:=he) (k:=?_); clear hm; rintro _ _ _ _ ⟨rfl, rfl, da1, dc1, rfl⟩ hle hm; try simp only [setn] at hm)
    | (refine m_call hm (hc:=p_tell s 2 hr hT hi hd) (k:=?_); clear hm; rintro _ _ _ _ ⟨rfl, rfl, da2, dc2, rfl⟩ hle hm; try simp only [setn] at hm)
    | refine op_move (k:=?_)
    | refine op_assign (k:=?_)
    | refine wl_nil ?_
    | refine at_then_normal ?_
    | refine wc_seq ?_
    | refine wc_region ?_
    | refine wc_skip ?_
    | refine wc_ret ?_
    | refine at_ret1 (h:=?_)
    | refine wc_cond_false (hf:=?_))
    exact ⟨I, _, ⟨rfl, rfl, da2, dc2, rfl⟩, hm⟩
set_option maxHeartbeats 2000000 in
theorem p_name (s : Sp.St) (hr : TokR I T la lc) (hT : Ok T) (hd : s.ds.length < 1099511627776) (hi : s.i ≤ T.l.length) :
    CalM Tryd.prog 31 #[ptr pb] I (QSt pb la lc T s deep da dc) (ToQ pb la lc T deep I (s.named T).2 (str (s.named T).1)) := by
  refine CalM.of fun w E hm => enter (N := 55) Tryd.func31 rfl [(0, ptr pb)] args1 rfl ?_
  have h1 := hT.at_ s.i
  have h2 := hT.size
  have h3 := hT.len
  rw [Sp.St.named]
  have hn := c_name (T.tok s.i).text (by omega)
  by_cases hname : Sp.name (T.tok s.i).text = true
  · rw [if_pos hname]
    rw [hname] at hn
    have hlt := Sp.tok_lt (Sp.name_ne hname)
    repeat' (first
    | (refine m_readC hm (hc:=p_peek s hr) (k:=?_); clear hm; intro _ hm)
    | (refine op_call (hc:=by exact hn _) (k:=?_); rintro _ _ ⟨rfl, hk⟩; replace hm := hm.kept0 hk)
    | refine m_load1 hm (k:=?_)
    | (refine m_store1 hm (k:=?_); clear hm; intro _ hm; try simp only [setn] at hm)
    | refine op_move (k:=?_)
    | refine op_assign (k:=?_)
    | refine op_not (k:=?_)
    | refine op_nilCheck (k:=?_)
    | refine op_add (k:=?_)
    | refine op_fieldAddr (k:=?_)
    | refine wl_nil ?_
    | refine at_then_normal ?_
    | refine wc_seq ?_
    | refine wc_region ?_
    | refine wc_skip ?_
    | refine wc_ret ?_
    | refine at_ret1 (h:=?_)
    | refine wc_cond_false (hf:=?_))
    exact ⟨I, _, ⟨rfl, rfl, da, dc, rfl⟩, hm⟩
  · have hname' : Sp.name (T.tok s.i).text = false := by simpa using hname
    rw [if_neg hname]
    rw [hname'] at hn
    by_cases hk : (T.tok s.i).kind = 1
    · rw [if_pos hk]
      have hlt := Sp.tok_lt_kind (T := T) (i := s.i) (by omega)
      have hbi : (s.bad T 7).i = s.i := rfl
      have htk := tok_get hlt
      repeat' (first
      | (refine m_readC hm (hc:=p_peek s hr) (k:=?_); clear hm; intro _ hm)
      | (refine op_call (hc:=by exact hn _) (k:=?_); rintro _ _ ⟨rfl, hk2⟩; replace hm := hm.kept0 hk2)
      | (refine iq_indexFlat (hr:=by exact hr) (he:=by intro _; rfl) (hz:=by exact htk) (k:=?_); intro b1 o1 hp1)
      | (refine m_call hm (hc:=p_tell s 7 hr hT hi hd) (k:=?_); clear hm; rintro _ _ _ _ ⟨rfl, rfl, da2, dc2, rfl⟩ hle hm; try simp only [setn] at hm)
      | refine m_load1 hm (k:=?_)
      | refine mq_load1 hm (k:=?_)
      | refine iq_load1 hm (k:=?_)
      | (refine m_store1 hm (k:=?_); clear hm; intro _ hm; try simp only [setn] at hm)
      | refine op_move (k:=?_)
      | refine op_assign (k:=?_)
      | refine op_not (k:=?_)
      | refine op_nilCheck (k:=?_)
      | refine op_add (k:=?_)
      | refine op_fieldAddr (k:=?_)
      | refine wl_nil ?_
      | refine at_then_normal ?_
      | refine at_then_ret ?_
      | refine wc_seq ?_
      | refine wc_region ?_
      | refine wc_ret ?_
      | refine at_ret1 (h:=?_)
      | refine wc_quiet (h:=?_)
      | (refine wq_nil ?_; intro _ hkq; replace hm := hm.kept0 hkq; clear hkq)
      | refine wc_cond_true (ht:=?_)
      | (refine wc_cond_dec (ht:=fun _ => ?_) (hf:=fun _ => ?_)<;> (try first | contradiction | (exfalso; omega)))
      | refine q_move (k:=?_)
      | refine q_pick_true (k:=?_)
      | refine q_lss (k:=?_)
      | refine q_eql (k:=?_)
      | refine q_len_slice (k:=?_)
      | refine q_nilCheck (k:=?_)
      | refine q_fieldAddr (k:=?_)
      | (refine wq_split_dec (h1:=fun _ => ?_) (h0:=fun _ => ?_)<;> (try first | contradiction | (exfalso; omega))))
      all_goals try (exfalso; omega)
      exact ⟨I, _, ⟨rfl, rfl, da2, dc2, rfl⟩, hm⟩
    · rw [if_neg hk]
      by_cases hlt : s.i < T.l.length
      · have htk := tok_get hlt
        repeat' (first
        | (refine m_readC hm (hc:=p_peek s hr) (k:=?_); clear hm; intro _ hm)
        | (refine op_call (hc:=by exact hn _) (k:=?_); rintro _ _ ⟨rfl, hk2⟩; replace hm := hm.kept0 hk2)
        | (refine iq_indexFlat (hr:=by exact hr) (he:=by intro _; rfl) (hz:=by exact htk) (k:=?_); intro b1 o1 hp1)
        | (refine m_call hm (hc:=p_tell s 2 hr hT hi hd) (k:=?_); clear hm; rintro _ _ _ _ ⟨rfl, rfl, da2, dc2, rfl⟩ hle hm; try simp only [setn] at hm)
        | refine mq_load1 hm (k:=?_)
        | refine iq_load1 hm (k:=?_)
        | refine op_move (k:=?_)
        | refine op_assign (k:=?_)
        | refine op_not (k:=?_)
        | refine wl_nil ?_
        | refine at_then_normal ?_
        | refine at_then_ret ?_
        | refine wc_seq ?_
        | refine wc_region ?_
        | refine wc_skip ?_
        | refine wc_ret ?_
        | refine at_ret1 (h:=?_)
        | refine wc_quiet (h:=?_)
        | (refine wq_nil ?_; intro _ hkq; replace hm := hm.kept0 hkq; clear hkq)
        | refine wc_cond_true (ht:=?_)
        | (refine wc_cond_dec (ht:=fun _ => ?_) (hf:=fun _ => ?_)<;> (try first | contradiction | (exfalso; omega)))
        | refine q_move (k:=?_)
        | refine q_pick_true (k:=?_)
        | refine q_lss (k:=?_)
        | refine q_eql (k:=?_)
        | refine q_len_slice (k:=?_)
        | refine q_nilCheck (k:=?_)
        | refine q_fieldAddr (k:=?_)
        | (refine wq_split_dec (h1:=fun _ => ?_) (h0:=fun _ => ?_)<;> (try first | contradiction | (exfalso; omega))))
        all_goals try (exfalso; omega)
        exact ⟨I, _, ⟨rfl, rfl, da2, dc2, rfl⟩, hm⟩
      · skip
        repeat' (first
        | (refine m_readC hm (hc:=p_peek s hr) (k:=?_); clear hm; intro _ hm)
        | (refine op_call (hc:=by exact hn _) (k:=?_); rintro _ _ ⟨rfl, hk2⟩; replace hm := hm.kept0 hk2)
        | (refine m_call hm (hc:=p_tell s 2 hr hT hi hd) (k:=?_); clear hm; rintro _ _ _ _ ⟨rfl, rfl, da2, dc2, rfl⟩ hle hm; try simp only [setn] at hm)
        | refine mq_load1 hm (k:=?_)
        | refine op_move (k:=?_)
        | refine op_assign (k:=?_)
        | refine op_not (k:=?_)
        | refine wl_nil ?_
        | refine at_then_normal ?_
        | refine at_then_ret ?_
        | refine wc_seq ?_
        | refine wc_region ?_
        | refine wc_skip ?_
        | refine wc_ret ?_
        | refine at_ret1 (h:=?_)
        | refine wc_quiet (h:=?_)
        | (refine wq_nil ?_; intro _ hkq; replace hm := hm.kept0 hkq; clear hkq)
        | refine wc_cond_true (ht:=?_)
        | refine wc_cond_false (hf:=?_)
        | refine q_move (k:=?_)
        | refine q_pick_false (k:=?_)
        | refine q_lss (k:=?_)
        | refine q_len_slice (k:=?_)
        | refine q_nilCheck (k:=?_)
        | refine q_fieldAddr (k:=?_)
        | refine wq_skip (k:=?_)
        | (refine wq_split_dec (h1:=fun _ => ?_) (h0:=fun _ => ?_)<;> (try first | contradiction | (exfalso; omega))))
        all_goals try (exfalso; omega)
        exact ⟨I, _, ⟨rfl, rfl, da2, dc2, rfl⟩, hm⟩
set_option maxHeartbeats 4000000 in
theorem p_label (s : Sp.St) (hr : TokR I T la lc) (hT : Ok T) (hi : s.i ≤ T.l.length) (hd : s.ds.length + 2 * (T.l.length - s.i) + 2 ≤ 1099511627776) :
    CalM Tryd.prog 33 #[ptr pb] I (QSt pb la lc T s deep da dc) (ToQ pb la lc T deep I (Sp.lab T s).2 (nt (Sp.lab T s).1)) := by
  refine CalM.of fun w E hm => enter (N := 61) Tryd.func33 rfl [(0, ptr pb)] args1 rfl ?_
  have h2 := hT.size
  have h3 := hT.len
  have hn := p_must (pb := pb) (deep := deep) (da := da) (dc := dc) s [123] (by simp) hr hT (by omega) hi
  rw [Sp.lab]
  rw [Sp.St.need] at hn
  by_cases hq : T.is s.i [123] = true
  case neg =>
    rw [if_neg hq]
    rw [if_neg hq] at hn
    repeat' (first
    | (refine m_call hm (hc:=hn) (k:=?_); clear hm; rintro _ _ _ _ ⟨rfl, rfl, da', dc', rfl⟩ hle hm; try simp only [setn] at hm)
    | refine op_move (k:=?_)
    | refine op_assign (k:=?_)
    | refine op_not (k:=?_)
    | refine wl_nil ?_
    | refine at_then_normal ?_
    | refine at_then_ret ?_
    | refine wc_seq ?_
    | refine wc_region ?_
    | refine wc_ret ?_
    | refine at_ret1 (h:=?_)
    | refine wc_cond_true (ht:=?_))
    exact ⟨I, _, ⟨rfl, rfl, da', dc', rfl⟩, hm⟩
  rw [if_pos hq]
  rw [if_pos hq] at hn
  have hlt := Sp.is_lt hq
  repeat' (first
  | (refine m_call hm (hc:=hn) (k:=?_); clear hm; rintro _ _ _ _ ⟨rfl, rfl, da', dc', rfl⟩ hle hm; try simp only [setn] at hm)
  | refine op_move (k:=?_)
  | refine op_assign (k:=?_)
  | refine op_not (k:=?_)
  | refine wl_nil ?_
  | refine at_then_normal ?_
  | refine wc_seq ?_
  | refine wc_region ?_
  | refine wc_block ?_
  | refine wc_skip ?_
  | refine wc_cond_false (hf:=?_))
  refine wc_loop (fun x : QLab => [(0, ptr pb), (3, nt x.n)])
    (fun x w' => Mem E I (QSt pb la lc T x.s deep x.da x.dc) w' ∧ Sp.labL T x.f x.n x.s = Sp.labL T (T.l.length + 1) 0 s.next ∧ T.l.length - x.s.i < x.f ∧ x.s.i ≤ T.l.length ∧ x.n < 256 ∧ x.s.ds.length + 2 * (T.l.length - x.s.i) + 1 ≤ 1099511627776)
    (fun x => T.l.length - x.s.i) ⟨T.l.length + 1, 0, s.next, da', dc'⟩ (by exact ⟨rfl, rfl, trivial⟩) ⟨hm, rfl, by dsimp only; omega, by dsimp only; rw [Sp.next_i]; omega, by simp, by dsimp only; rw [Sp.next_i, Sp.next_ds]; omega⟩ ?_
  clear hm hn
  rintro ⟨f, n, s2, da2, dc2⟩ w2 ⟨hm, hL, hf, hi2, hn2, hr2⟩
  dsimp only at hm hL hf hi2 hn2 hr2 ⊢
  obtain ⟨f, rfl⟩ : ∃ f', f = f' + 1 := ⟨f - 1, by omega⟩
  rw [Sp.labL] at hL
  have hqe := p_eat (pb := pb) (deep := deep) (da := da2) (dc := dc2) s2 [125] (by simp) hr hT hi2
  by_cases hend : T.is s2.i [125] = true
  · rw [if_pos hend] at hL
    rw [← hL]
    rw [if_pos hend, hend] at hqe
    have hlt2 := Sp.is_lt hend
    repeat' (first
    | (refine m_call hm (hc:=hqe) (k:=?_); clear hm; rintro _ _ _ _ ⟨rfl, rfl, da3, dc3, rfl⟩ hle hm; try simp only [setn] at hm)
    | refine op_move (k:=?_)
    | refine op_assign (k:=?_)
    | refine op_not (k:=?_)
    | refine wl_nil ?_
    | refine at_then_normal ?_
    | refine at_then_exit ?_
    | refine at_block_exit ?_
    | refine wc_seq ?_
    | refine wc_region ?_
    | refine wc_exit ?_
    | refine wc_ret ?_
    | refine at_ret1 (h:=?_)
    | refine wc_cond_false (hf:=?_))
    exact ⟨I, _, ⟨rfl, rfl, da3, dc3, rfl⟩, hm⟩
  have hend' : T.is s2.i [125] = false := by simpa using hend
  rw [if_neg hend] at hL
  rw [if_neg hend, hend'] at hqe
  dsimp only at hL
  have h1 := hT.at_ s2.i
  have htg : Sp.tagB (T.tok s2.i).text = decide ((T.tok s2.i).text.length = 1 ∧ 97 ≤ ((T.tok s2.i).text.getD (0 : Int).toNat 0).toNat ∧ ((T.tok s2.i).text.getD (0 : Int).toNat 0).toNat ≤ 104) := by
    rw [Sp.tagB, Bool.decide_and, Bool.decide_and]; rfl
  by_cases hgood : Sp.tagB (T.tok s2.i).text = true
  case neg =>
    have hgood' : Sp.tagB (T.tok s2.i).text = false := by simpa using hgood
    rw [hgood'] at hL
    simp only [Bool.not_false, if_true] at hL
    rw [← hL]
    rw [htg, decide_eq_false_iff_not] at hgood'
    repeat' (first
    | (refine m_call hm (hc:=hqe) (k:=?_); clear hm; rintro _ _ _ _ ⟨rfl, rfl, da4, dc4, rfl⟩ hle hm; try simp only [setn] at hm)
    | (refine m_readC hm (hc:=p_peek s2 hr) (k:=?_); clear hm; intro _ hm)
    | (refine m_call hm (hc:=p_tell s2 2 hr hT hi2 (by omega)) (k:=?_); clear hm; rintro _ _ _ _ ⟨rfl, rfl, da3, dc3, rfl⟩ hle hm; try simp only [setn] at hm)
    | refine op_move (k:=?_)
    | refine op_assign (k:=?_)
    | refine op_pick_true (k:=?_)
    | refine op_pick_false (k:=?_)
    | refine op_lss (k:=?_)
    | refine op_gtr (k:=?_)
    | refine op_neq (k:=?_)
    | refine op_len_str (k:=?_)
    | refine op_not (k:=?_)
    | refine op_index_str (k:=?_)
    | refine wl_skip (k:=?_)
    | (refine wl_split_dec (h1:=fun _ => ?_) (h0:=fun _ => ?_)<;> (try first | contradiction | (exfalso; omega)))
    | refine wl_nil ?_
    | refine at_then_normal ?_
    | refine at_then_ret ?_
    | refine at_block_ret ?_
    | refine wc_seq ?_
    | refine wc_region ?_
    | refine wc_block ?_
    | refine wc_skip ?_
    | refine wc_ret ?_
    | refine at_ret1 (h:=?_)
    | refine wc_cond_true (ht:=?_)
    | (refine wc_cond_dec (ht:=fun _ => ?_) (hf:=fun _ => ?_)<;> (try first | contradiction | (exfalso; omega))))
    all_goals first
      | exact ⟨I, _, ⟨rfl, rfl, da3, dc3, rfl⟩, hm⟩
      | (exfalso; omega)
  rw [hgood] at hL
  have hlt2 : s2.i < T.l.length := Sp.tok_lt (by intro e; rw [e] at hgood; revert hgood; decide)
  rw [htg, decide_eq_true_eq] at hgood
  have hce : (T.tok s2.i).text.getD (0 : Int).toNat 0 = (T.tok s2.i).text.getD 0 0 := rfl
  rw [hce] at hgood
  generalize hcc : (T.tok s2.i).text.getD 0 0 = c at hgood hL hce
  obtain ⟨q, hqq⟩ : ∃ q, q = c.toNat - 97 := ⟨_, rfl⟩
  rw [← hqq] at hL
  have hq8 : q < 8 := by omega
  obtain ⟨hfd, hb1, hor, hor2⟩ := Sp.tagp n hn2 q hq8
  obtain ⟨hp1, hp2⟩ := Sp.pow8 q hq8
  have hbq : ((c.toNat : Int) - 97).toNat = q := by omega
  have hdl : n / 2 ^ q ≤ n := Nat.div_le_self _ _
  simp only [Bool.not_true, Bool.false_eq_true, if_false] at hL
  generalize n / 2 ^ q = m at hfd hb1 hdl
  -- what the round comes to
  obtain ⟨s3, hs3⟩ : ∃ s3, s3 = (if Sp.bit n q = true then s2.bad T 7 else s2) := ⟨_, rfl⟩
  rw [← hs3] at hL
  have hs3i : s3.i = s2.i := by rw [hs3]; split <;> rfl
  have hs3d : s3.ds.length ≤ s2.ds.length + 1 := by rw [hs3]; split <;> simp [Sp.St.bad]
  rw [← hor] at hL
  have hni : s3.next.i = s3.i + 1 := rfl
  have hnd : s3.next.ds.length = s3.ds.length := rfl
  have hnn : s3.next.next.i = s3.i + 1 + 1 := rfl
  have hnnd : s3.next.next.ds.length = s3.ds.length := rfl
  have hmc := fun da dc => p_must (pb := pb) (deep := deep) (da := da) (dc := dc) s3.next [44] (by simp) hr hT (by omega) (by omega)
  rw [Sp.St.need] at hmc
  have hpk := fun da dc => p_peek (pb := pb) (deep := deep) (da := da) (dc := dc) s3.next hr
  have tel := fun da dc => p_tell (pb := pb) (deep := deep) (da := da) (dc := dc) s2 7 hr hT hi2 (by omega)
  have hor' : ((n : Int).toNat ||| (((2 ^ q : Nat) : Int)).toNat) = (n ||| 2 ^ q) := rfl
  generalize 2 ^ q = pq at hp1 hp2 hor2 hor hL hor'
  generalize n ||| pq = n1 at hor2 hor hL hor'
  repeat' (first
  | (refine wc_cut_reg 9 (fun _ : QLab => [(0, ptr pb), (3, nt n), (4, str (T.tok s2.i).text)]) (fun x w' => Mem E I (QSt pb la lc T s3 deep x.da x.dc) w') ?_ ?_)
  | (refine m_call hm (hc:=hqe) (k:=?_); clear hm; rintro _ _ _ _ ⟨rfl, rfl, da4, dc4, rfl⟩ hle hm; try simp only [setn] at hm)
  | (refine m_readC (d:=12) hm (hc:=p_peek s2 hr) (k:=?_); clear hm; intro _ hm)
  | (refine op_index_str (k:=?_); rw [hce])
  | refine op_move (k:=?_)
  | refine op_assign (k:=?_)
  | refine op_pick_false (k:=?_)
  | refine op_lss (k:=?_)
  | refine op_gtr (k:=?_)
  | refine op_neq (k:=?_)
  | refine op_len_str (k:=?_)
  | refine op_not (k:=?_)
  | refine op_sub_u8 (k:=?_)
  | (refine wl_split_dec (h1:=fun _ => ?_) (h0:=fun _ => ?_)<;> (try first | contradiction | (exfalso; omega)))
  | refine wl_nil ?_
  | refine at_then_normal ?_
  | refine wc_seq ?_
  | refine wc_region ?_
  | refine wc_block ?_
  | refine wc_skip ?_
  | refine wc_cond_true (ht:=?_)
  | (refine wc_cond_dec (ht:=fun _ => ?_) (hf:=fun _ => ?_)<;> (try first | contradiction | (exfalso; omega))))
  all_goals try (exfalso; omega)
  · cases hb : Sp.bit n q with
    | true =>
      rw [hb] at hb1 hs3
      rw [if_pos rfl] at hs3
      subst hs3
      repeat' (first
      | (refine m_call hm (hc:=tel _ _) (k:=?_); clear hm; rintro _ _ _ _ ⟨rfl, rfl, da3, dc3, rfl⟩ hle hm; try simp only [setn] at hm)
      | (refine op_shr (k:=?_); rw [hbq, hfd])
      | (refine op_and (k:=?_); rw [show ((m : Int).toNat &&& (1 : Int).toNat) = 1 from hb1])
      | refine op_move (k:=?_)
      | refine op_eql (k:=?_)
      | refine wl_nil ?_
      | refine at_then_normal ?_
      | refine wc_region ?_
      | refine wc_cond_true (ht:=?_))
      all_goals try (exfalso; omega)
      exact at_cut (⟨0, 0, s2, da3, dc3⟩ : QLab) (by exact ⟨rfl, rfl, rfl, trivial⟩) hm
    | false =>
      rw [hb] at hb1 hs3
      rw [if_neg (by simp)] at hs3
      subst hs3
      repeat' (first
      | (refine op_shr (k:=?_); rw [hbq, hfd])
      | (refine op_and (k:=?_); rw [show ((m : Int).toNat &&& (1 : Int).toNat) = 0 from hb1])
      | refine op_eql (k:=?_)
      | refine wl_nil ?_
      | refine at_then_normal ?_
      | refine wc_skip ?_
      | refine wc_cond_false (hf:=?_))
      all_goals try (exfalso; omega)
      exact at_cut (⟨0, 0, s3, da4, dc4⟩ : QLab) (by exact ⟨rfl, rfl, rfl, trivial⟩) hm
  clear hm hqe tel
  rintro ⟨_, _, _, da5, dc5⟩ w3 hm
  dsimp only at hm ⊢
  by_cases e1 : T.is s3.next.i [125] = true
  · rw [if_pos e1] at hL
    have e1t : (T.tok s3.next.i).text = [125] := by simp only [Sp.Src.is, Bool.and_eq_true, decide_eq_true_eq] at e1; exact e1.2
    have hlt5 := Sp.is_lt e1
    rw [e1t] at hpk
    repeat' (first
    | (refine m_readC hm (hc:=hpk _ _) (k:=?_); clear hm; intro _ hm)
    | (refine op_index_str (k:=?_); rw [hce])
    | (refine op_shl (h':=by rw [hbq, hp1]; omega) (k:=?_); rw [hbq, hp1])
    | (refine op_or (k:=?_); rw [hor'])
    | refine m_load1 hm (k:=?_)
    | (refine m_store1 hm (k:=?_); clear hm; intro _ hm; try simp only [setn] at hm)
    | refine op_move (k:=?_)
    | refine op_assign (k:=?_)
    | refine op_pick_false (k:=?_)
    | refine op_neq_str (k:=?_)
    | refine op_nilCheck (k:=?_)
    | refine op_add (k:=?_)
    | refine op_sub_u8 (k:=?_)
    | refine op_fieldAddr (k:=?_)
    | refine wl_skip (k:=?_)
    | refine wl_nil ?_
    | refine at_then_normal ?_
    | refine at_block_normal ?_
    | refine wc_seq ?_
    | refine wc_region ?_
    | refine wc_skip ?_
    | refine wc_cond_false (hf:=?_))
    all_goals try (exfalso; first | omega | contradiction)
    exact at_round (⟨f, n1, s3.next, da5, dc5⟩ : QLab) (by exact ⟨rfl, rfl, trivial⟩) ⟨hm, hL, by dsimp only; omega, by dsimp only; omega, hor2, by dsimp only; omega⟩ (by dsimp only; omega)
  rw [if_neg e1] at hL
  by_cases e2 : T.is s3.next.i [44] = true
  · rw [if_pos e2] at hL hmc
    have e1t : (T.tok s3.next.i).text = [44] := by simp only [Sp.Src.is, Bool.and_eq_true, decide_eq_true_eq] at e2; exact e2.2
    have hlt5 := Sp.is_lt e2
    rw [e1t] at hpk
    repeat' (first
    | (refine m_readC hm (hc:=hpk _ _) (k:=?_); clear hm; intro _ hm)
    | (refine m_call hm (hc:=hmc _ _) (k:=?_); clear hm; rintro _ _ _ _ ⟨rfl, rfl, da6, dc6, rfl⟩ hle hm; try simp only [setn] at hm)
    | (refine op_index_str (k:=?_); rw [hce])
    | (refine op_shl (h':=by rw [hbq, hp1]; omega) (k:=?_); rw [hbq, hp1])
    | (refine op_or (k:=?_); rw [hor'])
    | refine m_load1 hm (k:=?_)
    | (refine m_store1 hm (k:=?_); clear hm; intro _ hm; try simp only [setn] at hm)
    | refine op_move (k:=?_)
    | refine op_assign (k:=?_)
    | refine op_pick_true (k:=?_)
    | refine op_neq_str (k:=?_)
    | refine op_not (k:=?_)
    | refine op_nilCheck (k:=?_)
    | refine op_add (k:=?_)
    | refine op_sub_u8 (k:=?_)
    | refine op_fieldAddr (k:=?_)
    | refine wl_nil ?_
    | refine at_then_normal ?_
    | refine at_block_normal ?_
    | refine wc_seq ?_
    | refine wc_region ?_
    | refine wc_skip ?_
    | refine wc_cond_false (hf:=?_))
    all_goals try (exfalso; first | omega | contradiction)
    exact at_round (⟨f, n1, s3.next.next, da6, dc6⟩ : QLab) (by exact ⟨rfl, rfl, trivial⟩) ⟨hm, hL, by dsimp only; omega, by dsimp only; omega, hor2, by dsimp only; omega⟩ (by dsimp only; omega)
  rw [if_neg e2] at hL hmc
  have e1t : s3.next.i < T.l.length → (T.tok s3.next.i).text ≠ [125] := fun h e => e1 (by simp [Sp.Src.is, h, e])
  rw [← hL]
  by_cases hlt6 : s3.next.i < T.l.length
  · have e1t := e1t hlt6
    repeat' (first
    | (refine m_readC hm (hc:=hpk _ _) (k:=?_); clear hm; intro _ hm)
    | (refine m_call hm (hc:=hmc _ _) (k:=?_); clear hm; rintro _ _ _ _ ⟨rfl, rfl, da6, dc6, rfl⟩ hle hm; try simp only [setn] at hm)
    | (refine op_index_str (k:=?_); rw [hce])
    | (refine op_shl (h':=by rw [hbq, hp1]; omega) (k:=?_); rw [hbq, hp1])
    | (refine op_or (k:=?_); rw [hor'])
    | refine m_load1 hm (k:=?_)
    | (refine m_store1 hm (k:=?_); clear hm; intro _ hm; try simp only [setn] at hm)
    | refine op_move (k:=?_)
    | refine op_assign (k:=?_)
    | refine op_pick_true (k:=?_)
    | refine op_neq_str (k:=?_)
    | refine op_not (k:=?_)
    | refine op_nilCheck (k:=?_)
    | refine op_add (k:=?_)
    | refine op_sub_u8 (k:=?_)
    | refine op_fieldAddr (k:=?_)
    | (refine wl_split_dec (h1:=fun _ => ?_) (h0:=fun _ => ?_)<;> (try first | contradiction | (exfalso; omega)))
    | refine wl_nil ?_
    | refine at_then_normal ?_
    | refine at_then_ret ?_
    | refine at_block_ret ?_
    | refine wc_seq ?_
    | refine wc_region ?_
    | refine wc_ret ?_
    | refine at_ret1 (h:=?_)
    | refine wc_cond_true (ht:=?_))
    all_goals try (exfalso; first | omega | contradiction)
    exact ⟨I, _, ⟨rfl, rfl, da6, dc6, rfl⟩, hm⟩
  · rw [Sp.tok_end (by omega : T.l.length ≤ s3.next.i)] at hpk
    repeat' (first
    | (refine m_readC hm (hc:=hpk _ _) (k:=?_); clear hm; intro _ hm)
    | (refine m_call hm (hc:=hmc _ _) (k:=?_); clear hm; rintro _ _ _ _ ⟨rfl, rfl, da6, dc6, rfl⟩ hle hm; try simp only [setn] at hm)
    | (refine op_index_str (k:=?_); rw [hce])
    | (refine op_shl (h':=by rw [hbq, hp1]; omega) (k:=?_); rw [hbq, hp1])
    | (refine op_or (k:=?_); rw [hor'])
    | refine m_load1 hm (k:=?_)
    | (refine m_store1 hm (k:=?_); clear hm; intro _ hm; try simp only [setn] at hm)
    | refine op_move (k:=?_)
    | refine op_assign (k:=?_)
    | refine op_pick_true (k:=?_)
    | refine op_neq_str (k:=?_)
    | refine op_not (k:=?_)
    | refine op_nilCheck (k:=?_)
    | refine op_add (k:=?_)
    | refine op_sub_u8 (k:=?_)
    | refine op_fieldAddr (k:=?_)
    | refine wl_nil ?_
    | refine at_then_normal ?_
    | refine at_then_ret ?_
    | refine at_block_ret ?_
    | refine wc_seq ?_
    | refine wc_region ?_
    | refine wc_ret ?_
    | refine at_ret1 (h:=?_)
    | refine wc_cond_true (ht:=?_))
    all_goals try (exfalso; first | omega | contradiction)
    exact ⟨I, _, ⟨rfl, rfl, da6, dc6, rfl⟩, hm⟩
theorem p_tight (t : List UInt8) (w : World) : Cal Tryd.prog 69 #[str t] w fun v w' => v = nt (Sp.tight t) ∧ w' = w := by
  refine enter (N := 12) Tryd.func69 rfl [(0, str t)] args1 rfl ?_
  rw [Sp.tight]
  by_cases h1 : t = [61]
  · subst h1
    repeat' (first
    | refine op_move (k:=?_)
    | refine op_assign (k:=?_)
    | refine op_eql_str (k:=?_)
    | refine wl_nil ?_
    | refine at_then_normal ?_
    | refine at_then_ret ?_
    | refine at_block_ret ?_
    | refine wc_seq ?_
    | refine wc_region ?_
    | refine wc_block ?_
    | refine wc_skip ?_
    | refine wc_ret ?_
    | refine at_ret1 (h:=?_)
    | refine wc_cond_true (ht:=?_))
    exact ⟨rfl, rfl⟩
  by_cases h2 : t = [60]
  · subst h2
    repeat' (first
    | refine op_move (k:=?_)
    | refine op_assign (k:=?_)
    | refine op_eql_str (k:=?_)
    | refine wl_nil ?_
    | refine at_then_normal ?_
    | refine at_then_ret ?_
    | refine at_block_ret ?_
    | refine wc_seq ?_
    | refine wc_region ?_
    | refine wc_block ?_
    | refine wc_ret ?_
    | refine at_ret1 (h:=?_)
    | refine wc_cond_true (ht:=?_)
    | refine wc_cond_false (hf:=?_))
    exact ⟨rfl, rfl⟩
  by_cases h3 : t = [43]
  · subst h3
    repeat' (first
    | refine op_move (k:=?_)
    | refine op_assign (k:=?_)
    | refine op_eql_str (k:=?_)
    | refine wl_nil ?_
    | refine at_then_normal ?_
    | refine at_then_ret ?_
    | refine at_block_ret ?_
    | refine wc_seq ?_
    | refine wc_region ?_
    | refine wc_block ?_
    | refine wc_skip ?_
    | refine wc_ret ?_
    | refine at_ret1 (h:=?_)
    | refine wc_cond_true (ht:=?_)
    | refine wc_cond_false (hf:=?_))
    exact ⟨rfl, rfl⟩
  by_cases h4 : t = [45]
  · subst h4
    repeat' (first
    | refine op_move (k:=?_)
    | refine op_assign (k:=?_)
    | refine op_eql_str (k:=?_)
    | refine wl_nil ?_
    | refine at_then_normal ?_
    | refine at_then_ret ?_
    | refine at_block_ret ?_
    | refine wc_seq ?_
    | refine wc_region ?_
    | refine wc_block ?_
    | refine wc_ret ?_
    | refine at_ret1 (h:=?_)
    | refine wc_cond_true (ht:=?_)
    | refine wc_cond_false (hf:=?_))
    exact ⟨rfl, rfl⟩
  by_cases h5 : t = [42]
  · subst h5
    repeat' (first
    | refine op_move (k:=?_)
    | refine op_assign (k:=?_)
    | refine op_eql_str (k:=?_)
    | refine wl_nil ?_
    | refine at_then_normal ?_
    | refine at_then_ret ?_
    | refine at_block_ret ?_
    | refine wc_seq ?_
    | refine wc_region ?_
    | refine wc_block ?_
    | refine wc_ret ?_
    | refine at_ret1 (h:=?_)
    | refine wc_cond_true (ht:=?_)
    | refine wc_cond_false (hf:=?_))
    exact ⟨rfl, rfl⟩
  rw [if_neg (by simp [h1, h2]), if_neg (by simp [h3, h4]), if_neg h5]
  repeat' (first
  | refine op_move (k:=?_)
  | refine op_assign (k:=?_)
  | refine op_eql_str (k:=?_)
  | refine wl_nil ?_
  | refine at_then_normal ?_
  | refine at_block_normal ?_
  | refine wc_seq ?_
  | refine wc_region ?_
  | refine wc_block ?_
  | refine wc_skip ?_
  | refine wc_ret ?_
  | refine at_ret1 (h:=?_)
  | (refine wc_cond_dec (ht:=fun _ => ?_) (hf:=fun _ => ?_)<;> (try first | contradiction | (exfalso; omega))))
  all_goals first | exact ⟨rfl, rfl⟩ | (exfalso; simp_all; done)
/-- what a function that reads an expression hands back. -/
abbrev ToQE (pb : Nat) (la : Option Addr) (lc : Nat) (T : Sp.Src) (deep : Nat) (r : Sp.Ex × Sp.St) : Value → Imm → List HItem → Prop :=
  fun v I' H' => (∃ ea ec xs, v = .agg [nt r.1.kind, str r.1.name, nt r.1.n, .slice ea r.1.args.length ec, nt r.1.fr, nt r.1.to].toArray ∧ RowI I' 41 6 (.slice ea r.1.args.length ec) r.1.args.length xs ∧ ExsAt I' r.1.args xs) ∧
    ∃ da dc, H' = QSt pb la lc T r.2 deep da dc
theorem p_none (s : Sp.St) (e : Nat) (hr : TokR I T la lc) (hT : Ok T) (hi : s.i ≤ T.l.length) (hd : s.ds.length < 1099511627776) :
    CalM Tryd.prog 70 #[ptr pb, nt e] I (QSt pb la lc T s deep da dc) (ToQE pb la lc T deep (Sp.none_ T s e)) := by
  refine CalM.of fun w E hm => enter (N := 13) Tryd.func70 rfl [(0, ptr pb), (1, nt e)] args2 rfl ?_
  repeat' (first
  | (refine m_call hm (hc:=p_tell s e hr hT hi hd) (k:=?_); clear hm; rintro _ _ _ _ ⟨rfl, rfl, da', dc', rfl⟩ hle hm; try simp only [setn] at hm)
  | (refine m_readC hm (hc:=p_here (s.bad T e) hr) (k:=?_); clear hm; intro _ hm)
  | (refine m_allocS (d:=4) hm (k:=?_); clear hm; intro b4 _ hm)
  | (refine m_storeAll hm (k:=?_); clear hm; intro _ hm; try simp only [setn] at hm)
  | refine m_ret_agg hm (h:=?_)
  | refine op_move (k:=?_)
  | refine op_struct (k:=?_)
  | refine wl_nil ?_
  | refine at_then_normal ?_
  | refine wc_seq ?_
  | refine wc_region ?_
  | refine wc_ret ?_)
  exact ⟨I, _, ⟨⟨none, 0, [], rfl, rowI_nil _ _ _ _ _, .nil⟩, da', dc', rfl⟩, hm.left (H := [_, _])⟩
end
end Go.Proofs.YthmdffgiockcbaaDoor
end
section
namespace Go.Sp
def dstep (n : Nat) (c : UInt8) : Nat := if n ≤ 1000000000 then 10 * n + (c.toNat - 48) else n
theorem digits_eq (t : List UInt8) : digits t = t.foldl dstep 0 := rfl
theorem dfold_ge : ∀ (r : List UInt8) (a : Nat), a ≤ r.foldl dstep a
  | [], a => Nat.le_refl _
  | c :: r, a => by
    rw [List.foldl_cons]
    have := dfold_ge r (dstep a c)
    have : a ≤ dstep a c := by rw [dstep]; split <;> omega
    omega
theorem dfold_big : ∀ (r : List UInt8) (a : Nat), 1000000000 < a → r.foldl dstep a = a
  | [], a, _ => rfl
  | c :: r, a, h => by rw [List.foldl_cons, dstep, if_neg (by omega)]; exact dfold_big r a h
theorem uint_small : ∀ (r : List UInt8) (a : Nat), (∀ c ∈ r, 48 ≤ c.toNat ∧ c.toNat ≤ 57) → r.foldl dstep a ≤ 1000000000 → Lib.parseUint10 a r = .ok (r.foldl dstep a)
  | [], a, _, _ => rfl
  | c :: r, a, hd, h => by
    rw [List.foldl_cons] at h ⊢
    have hc := hd c List.mem_cons_self
    have ha : a ≤ 1000000000 := by
      have := dfold_ge r (dstep a c)
      have : a ≤ dstep a c := by rw [dstep]; split <;> omega
      omega
    have e : dstep a c = a * 10 + (c.toNat - 48) := by rw [dstep, if_pos ha]; omega
    rw [Lib.parseUint10, if_pos hc, if_neg (by omega), if_neg (by omega), ← e]
    exact uint_small r _ (fun c hc => hd c (List.mem_cons_of_mem _ hc)) h
theorem uint_big : ∀ (r : List UInt8) (a : Nat), (∀ c ∈ r, 48 ≤ c.toNat ∧ c.toNat ≤ 57) → 1000000000 < r.foldl dstep a → Lib.parseUint10 a r = .range ∨ ∃ u, 1000000000 < u ∧ Lib.parseUint10 a r = .ok u
  | [], a, _, h => .inr ⟨a, h, rfl⟩
  | c :: r, a, hd, h => by
    rw [List.foldl_cons] at h
    have hc := hd c List.mem_cons_self
    rw [Lib.parseUint10, if_pos hc]
    split
    · exact .inl rfl
    · split
      · exact .inl rfl
      · refine uint_big r _ (fun c hc => hd c (List.mem_cons_of_mem _ hc)) ?_
        by_cases ha : a ≤ 1000000000
        · have e : dstep a c = a * 10 + (c.toNat - 48) := by rw [dstep, if_pos ha]; omega
          rw [← e]; exact h
        · rw [dfold_big r _ (by omega)]; omega
theorem atoi_digits (t : List UInt8) (hn : 1 ≤ t.length) (hd : ∀ c ∈ t, 48 ≤ c.toNat ∧ c.toNat ≤ 57) :
    (digits t ≤ 1000000000 → Lib.atoiAll t = .ok (digits t : Int)) ∧ (1000000000 < digits t → Lib.atoiAll t = .range ∨ ∃ v : Int, 1000000000 < v ∧ Lib.atoiAll t = .ok v) := by
  rw [digits_eq]
  cases t with
  | nil => simp at hn
  | cons c r =>
    have hc := hd c List.mem_cons_self
    have hp : Lib.parseMag (if c.toNat = 43 ∨ c.toNat = 45 then r else c :: r) = Lib.parseUint10 0 (c :: r) := by
      rw [if_neg (by omega), Lib.parseMag, if_neg (by simp)]
    have hneg : ¬ c.toNat = 45 := by omega
    constructor
    · intro h
      have h1 := uint_small (c :: r) 0 hd h
      simp only [Lib.atoiAll]
      rw [hp, h1]
      generalize (c :: r).foldl dstep 0 = d at h ⊢
      simp only [hneg]
      simp
      omega
    · intro h
      simp only [Lib.atoiAll]
      rw [hp]
      rcases uint_big (c :: r) 0 hd h with h1 | ⟨u, hu, h1⟩
      · rw [h1]; exact .inl rfl
      · rw [h1]
        simp only [hneg]
        by_cases h2 : 9223372036854775808 ≤ u
        · exact .inl (by simp [h2])
        · exact .inr ⟨(u : Int), by omega, by simp [h2]⟩
end Go.Sp
end
