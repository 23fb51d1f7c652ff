/- Own work: texts PpC, SpecAtoi, Shelf, PpAt, PpD, one behind the other. -/
import Derived.Test.YthmdffgiockcbaaGreatDoorRb18
import Derived.Lib.AtoiAll
import Derived.Shelf.Strings.Builder1
import Derived.Shelf.Strings.Builder2
import Derived.Shelf.Strings.OnBuilder
import Derived.Shelf.Small.Bits
import Derived.Shelf.Strings.BuilderF
import Derived.Shelf.Strings.BuilderK
import Derived.Shelf.Strings.Builder2Cap
import Derived.Shelf.Strconv.Atoi
import Derived.Shelf.Strconv.Itoa0
import Derived.Shelf.Strconv.Itoa1
import Derived.Shelf.LaysM
import Derived.Shelf.Strconv.Itoa2
import Derived.Shelf.Strconv.AtoiErrFast
import Derived.Shelf.Strconv.ParseIntEmpty
import Derived.Shelf.Strconv.AtoiFail
import Derived.Shelf.Strconv.Clone
import Derived.Shelf.Strconv.SyntaxError
import Derived.Shelf.LaysC
import Derived.Shelf.Strconv.ToError
import Derived.Shelf.Strconv.Lower
import Derived.Shelf.Strconv.ParseUint10
import Derived.Shelf.Strconv.ParseUint10Empty
import Derived.Shelf.Strconv.ParseUint10Any
import Derived.Shelf.Strconv.ParseInt10
import Derived.Shelf.Strconv.AtoiLong
import Derived.Shelf.Strconv.AtoiInnerAll
import Derived.Shelf.Strconv.RangeError
import Derived.Shelf.Strconv.ToErrorRange
import Derived.Shelf.Strconv.AtoiAll
import Derived.Shelf.Strconv.ErrVarAll
import Derived.Shelf.Strings.Prefix
import Derived.Shelf.Bits.Mul64
import Derived.Shelf.Strings.Repeat
import Derived.Shelf.Strings.BuilderCap
import Derived.Ground.Names2Prog
import Derived.Shelf.Slices.ReverseS
import Derived.Shelf.Slices.CompactI
import Derived.Shelf.Slices.SearchI
import Derived.Shelf.Slices.Cells
import Derived.Test.YthmdffgiockcbaaGreatDoorProg
import Derived.WideLaws
section
namespace Go.Sp
theorem tagp (n : Nat) (hn : n < 256) (q : Nat) (hq : q < 8) : (n : Int).fdiv (2 ^ q) = ((n / 2 ^ q : Nat) : Int) ∧ (n / 2 ^ q) &&& 1 = (bit n q).toNat ∧ (n ||| 2 ^ q) = (if bit n q = true then n else n + 2 ^ q) ∧ (n ||| 2 ^ q) < 256 := by
  revert hq; revert q; revert hn; revert n; decide +kernel
theorem pow8 (q : Nat) (hq : q < 8) : (1 : Int) * 2 ^ q = ((2 ^ q : Nat) : Int) ∧ 2 ^ q < 256 := by
  revert hq; revert q; decide +kernel
end Go.Sp
namespace Go.Proofs.YthmdffgiockcbaaGreatDoor
open Go.Fw
structure QLab where
  f : Nat
  n : Nat
  s : Sp.St
  da : Option Addr
  dc : Nat
section
variable {I : Imm} {pb deep lc dc : Nat} {la da : Option Addr} {T : Sp.Src}
theorem p_must (s : Sp.St) (t : List UInt8) (ht : t ≠ []) (hr : TokR I T la lc) (hT : Ok T) (hd : s.ds.length < 1099511627776) (hi : s.i ≤ T.l.length) :
    CalM Tryz.prog 102 #[ptr pb, str t] I (QSt pb la lc T s deep da dc) (ToQ pb la lc T deep I (s.need T t).2 (.bool (s.need T t).1)) := by
  refine CalM.of fun w E hm => enter (N := 10) Tryz.func102 rfl [(0, ptr pb), (1, str t)] args2 rfl ?_
  have he := p_eat (pb := pb) (deep := deep) (da := da) (dc := dc) s t ht hr hT hi
  rw [Sp.St.need]
  by_cases hq : T.is s.i t = true
  · rw [if_pos hq, hq] at he
    rw [if_pos hq]
    repeat' (first|(refine m_call hm (hc:=he) (k:=?_); clear hm; rintro _ _ _ _ ⟨rfl, rfl, da1, dc1, rfl⟩ hle hm; try simp only [setn] at hm)|refine op_move (k:=?_)|refine op_assign (k:=?_)|refine wl_nil ?_|refine at_then_normal ?_|refine at_then_ret ?_|refine wc_seq ?_|refine wc_region ?_|refine wc_ret ?_|refine at_ret1 (h:=?_)|refine wc_cond_true (ht:=?_))
    exact ⟨I, _, ⟨rfl, rfl, da1, dc1, rfl⟩, hm⟩
  · rw [if_neg hq, show T.is s.i t = false by simpa using hq] at he
    rw [if_neg hq]
    repeat' (first|(refine m_call hm (hc:=he) (k:=?_); clear hm; rintro _ _ _ _ ⟨rfl, rfl, da1, dc1, rfl⟩ hle hm; try simp only [setn] at hm)|(refine m_call hm (hc:=p_tell s 2 hr hT hi hd) (k:=?_); clear hm; rintro _ _ _ _ ⟨rfl, rfl, da2, dc2, rfl⟩ hle hm; try simp only [setn] at hm)|refine op_move (k:=?_)|refine op_assign (k:=?_)|refine wl_nil ?_|refine at_then_normal ?_|refine wc_seq ?_|refine wc_region ?_|refine wc_skip ?_|refine wc_ret ?_|refine at_ret1 (h:=?_)|refine wc_cond_false (hf:=?_))
    exact ⟨I, _, ⟨rfl, rfl, da2, dc2, rfl⟩, hm⟩
set_option maxHeartbeats 2000000 in
theorem p_name (s : Sp.St) (hr : TokR I T la lc) (hT : Ok T) (hd : s.ds.length < 1099511627776) (hi : s.i ≤ T.l.length) :
    CalM Tryz.prog 101 #[ptr pb] I (QSt pb la lc T s deep da dc) (ToQ pb la lc T deep I (s.named T).2 (str (s.named T).1)) := by
  refine CalM.of fun w E hm => enter (N := 55) Tryz.func101 rfl [(0, ptr pb)] args1 rfl ?_
  have h1 := hT.at_ s.i
  have h2 := hT.size
  have h3 := hT.len
  rw [Sp.St.named]
  have hn := c_name (T.tok s.i).text (by omega)
  by_cases hname : Sp.name (T.tok s.i).text = true
  · rw [if_pos hname]
    rw [hname] at hn
    have hlt := Sp.tok_lt (Sp.name_ne hname)
    repeat' (first|(refine m_readC hm (hc:=p_peek s hr) (k:=?_); clear hm; intro _ hm)|(refine op_call (hc:=by exact hn _) (k:=?_); rintro _ _ ⟨rfl, hk⟩; replace hm := hm.kept0 hk)|refine m_load1 hm (k:=?_)|(refine m_store1 hm (k:=?_); clear hm; intro _ hm; try simp only [setn] at hm)|refine op_move (k:=?_)|refine op_assign (k:=?_)|refine op_not (k:=?_)|refine op_nilCheck (k:=?_)|refine op_add (k:=?_)|refine op_fieldAddr (k:=?_)|refine wl_nil ?_|refine at_then_normal ?_|refine wc_seq ?_|refine wc_region ?_|refine wc_skip ?_|refine wc_ret ?_|refine at_ret1 (h:=?_)|refine wc_cond_false (hf:=?_))
    exact ⟨I, _, ⟨rfl, rfl, da, dc, rfl⟩, hm⟩
  · have hname' : Sp.name (T.tok s.i).text = false := by simpa using hname
    rw [if_neg hname]
    rw [hname'] at hn
    by_cases hk : (T.tok s.i).kind = 1
    · rw [if_pos hk]
      have hlt := Sp.tok_lt_kind (T := T) (i := s.i) (by omega)
      have hbi : (s.bad T 7).i = s.i := rfl
      have htk := tok_get hlt
      repeat' (first|(refine m_readC hm (hc:=p_peek s hr) (k:=?_); clear hm; intro _ hm)|(refine op_call (hc:=by exact hn _) (k:=?_); rintro _ _ ⟨rfl, hk2⟩; replace hm := hm.kept0 hk2)|(refine iq_indexFlat (hr:=by exact hr) (he:=by intro _; rfl) (hz:=by exact htk) (k:=?_); intro b1 o1 hp1)|(refine m_call hm (hc:=p_tell s 7 hr hT hi hd) (k:=?_); clear hm; rintro _ _ _ _ ⟨rfl, rfl, da2, dc2, rfl⟩ hle hm; try simp only [setn] at hm)|refine m_load1 hm (k:=?_)|refine mq_load1 hm (k:=?_)|refine iq_load1 hm (k:=?_)|(refine m_store1 hm (k:=?_); clear hm; intro _ hm; try simp only [setn] at hm)|refine op_move (k:=?_)|refine op_assign (k:=?_)|refine op_not (k:=?_)|refine op_nilCheck (k:=?_)|refine op_add (k:=?_)|refine op_fieldAddr (k:=?_)|refine wl_nil ?_|refine at_then_normal ?_|refine at_then_ret ?_|refine wc_seq ?_|refine wc_region ?_|refine wc_ret ?_|refine at_ret1 (h:=?_)|refine wc_quiet (h:=?_)|(refine wq_nil ?_; intro _ hkq; replace hm := hm.kept0 hkq; clear hkq)|refine wc_cond_true (ht:=?_)|(refine wc_cond_dec (ht:=fun _ => ?_) (hf:=fun _ => ?_)<;> (try first | contradiction | (exfalso; omega)))|refine q_move (k:=?_)|refine q_pick_true (k:=?_)|refine q_lss (k:=?_)|refine q_eql (k:=?_)|refine q_len_slice (k:=?_)|refine q_nilCheck (k:=?_)|refine q_fieldAddr (k:=?_)|(refine wq_split_dec (h1:=fun _ => ?_) (h0:=fun _ => ?_)<;> (try first | contradiction | (exfalso; omega))))
      all_goals try (exfalso; omega)
      exact ⟨I, _, ⟨rfl, rfl, da2, dc2, rfl⟩, hm⟩
    · rw [if_neg hk]
      by_cases hlt : s.i < T.l.length
      · have htk := tok_get hlt
        repeat' (first|(refine m_readC hm (hc:=p_peek s hr) (k:=?_); clear hm; intro _ hm)|(refine op_call (hc:=by exact hn _) (k:=?_); rintro _ _ ⟨rfl, hk2⟩; replace hm := hm.kept0 hk2)|(refine iq_indexFlat (hr:=by exact hr) (he:=by intro _; rfl) (hz:=by exact htk) (k:=?_); intro b1 o1 hp1)|(refine m_call hm (hc:=p_tell s 2 hr hT hi hd) (k:=?_); clear hm; rintro _ _ _ _ ⟨rfl, rfl, da2, dc2, rfl⟩ hle hm; try simp only [setn] at hm)|refine mq_load1 hm (k:=?_)|refine iq_load1 hm (k:=?_)|refine op_move (k:=?_)|refine op_assign (k:=?_)|refine op_not (k:=?_)|refine wl_nil ?_|refine at_then_normal ?_|refine at_then_ret ?_|refine wc_seq ?_|refine wc_region ?_|refine wc_skip ?_|refine wc_ret ?_|refine at_ret1 (h:=?_)|refine wc_quiet (h:=?_)|(refine wq_nil ?_; intro _ hkq; replace hm := hm.kept0 hkq; clear hkq)|refine wc_cond_true (ht:=?_)|(refine wc_cond_dec (ht:=fun _ => ?_) (hf:=fun _ => ?_)<;> (try first | contradiction | (exfalso; omega)))|refine q_move (k:=?_)|refine q_pick_true (k:=?_)|refine q_lss (k:=?_)|refine q_eql (k:=?_)|refine q_len_slice (k:=?_)|refine q_nilCheck (k:=?_)|refine q_fieldAddr (k:=?_)|(refine wq_split_dec (h1:=fun _ => ?_) (h0:=fun _ => ?_)<;> (try first | contradiction | (exfalso; omega))))
        all_goals try (exfalso; omega)
        exact ⟨I, _, ⟨rfl, rfl, da2, dc2, rfl⟩, hm⟩
      · skip
        repeat' (first|(refine m_readC hm (hc:=p_peek s hr) (k:=?_); clear hm; intro _ hm)|(refine op_call (hc:=by exact hn _) (k:=?_); rintro _ _ ⟨rfl, hk2⟩; replace hm := hm.kept0 hk2)|(refine m_call hm (hc:=p_tell s 2 hr hT hi hd) (k:=?_); clear hm; rintro _ _ _ _ ⟨rfl, rfl, da2, dc2, rfl⟩ hle hm; try simp only [setn] at hm)|refine mq_load1 hm (k:=?_)|refine op_move (k:=?_)|refine op_assign (k:=?_)|refine op_not (k:=?_)|refine wl_nil ?_|refine at_then_normal ?_|refine at_then_ret ?_|refine wc_seq ?_|refine wc_region ?_|refine wc_skip ?_|refine wc_ret ?_|refine at_ret1 (h:=?_)|refine wc_quiet (h:=?_)|(refine wq_nil ?_; intro _ hkq; replace hm := hm.kept0 hkq; clear hkq)|refine wc_cond_true (ht:=?_)|refine wc_cond_false (hf:=?_)|refine q_move (k:=?_)|refine q_pick_false (k:=?_)|refine q_lss (k:=?_)|refine q_len_slice (k:=?_)|refine q_nilCheck (k:=?_)|refine q_fieldAddr (k:=?_)|refine wq_skip (k:=?_)|(refine wq_split_dec (h1:=fun _ => ?_) (h0:=fun _ => ?_)<;> (try first | contradiction | (exfalso; omega))))
        all_goals try (exfalso; omega)
        exact ⟨I, _, ⟨rfl, rfl, da2, dc2, rfl⟩, hm⟩
set_option maxHeartbeats 4000000 in
theorem p_label (s : Sp.St) (hr : TokR I T la lc) (hT : Ok T) (hi : s.i ≤ T.l.length) (hd : s.ds.length + 2 * (T.l.length - s.i) + 2 ≤ 1099511627776) :
    CalM Tryz.prog 103 #[ptr pb] I (QSt pb la lc T s deep da dc) (ToQ pb la lc T deep I (Sp.lab T s).2 (nt (Sp.lab T s).1)) := by
  refine CalM.of fun w E hm => enter (N := 61) Tryz.func103 rfl [(0, ptr pb)] args1 rfl ?_
  have h2 := hT.size
  have h3 := hT.len
  have hn := p_must (pb := pb) (deep := deep) (da := da) (dc := dc) s [123] (by simp) hr hT (by omega) hi
  rw [Sp.lab]
  rw [Sp.St.need] at hn
  by_cases hq : T.is s.i [123] = true
  case neg =>
    rw [if_neg hq]
    rw [if_neg hq] at hn
    repeat' (first|(refine m_call hm (hc:=hn) (k:=?_); clear hm; rintro _ _ _ _ ⟨rfl, rfl, da', dc', rfl⟩ hle hm; try simp only [setn] at hm)|refine op_move (k:=?_)|refine op_assign (k:=?_)|refine op_not (k:=?_)|refine wl_nil ?_|refine at_then_normal ?_|refine at_then_ret ?_|refine wc_seq ?_|refine wc_region ?_|refine wc_ret ?_|refine at_ret1 (h:=?_)|refine wc_cond_true (ht:=?_))
    exact ⟨I, _, ⟨rfl, rfl, da', dc', rfl⟩, hm⟩
  rw [if_pos hq]
  rw [if_pos hq] at hn
  have hlt := Sp.is_lt hq
  repeat' (first|(refine m_call hm (hc:=hn) (k:=?_); clear hm; rintro _ _ _ _ ⟨rfl, rfl, da', dc', rfl⟩ hle hm; try simp only [setn] at hm)|refine op_move (k:=?_)|refine op_assign (k:=?_)|refine op_not (k:=?_)|refine wl_nil ?_|refine at_then_normal ?_|refine wc_seq ?_|refine wc_region ?_|refine wc_block ?_|refine wc_skip ?_|refine wc_cond_false (hf:=?_))
  refine wc_loop (fun x : QLab => [(0, ptr pb), (3, nt x.n)])
    (fun x w' => Mem E I (QSt pb la lc T x.s deep x.da x.dc) w' ∧ Sp.labL T x.f x.n x.s = Sp.labL T (T.l.length + 1) 0 s.next ∧ T.l.length - x.s.i < x.f ∧ x.s.i ≤ T.l.length ∧ x.n < 256 ∧ x.s.ds.length + 2 * (T.l.length - x.s.i) + 1 ≤ 1099511627776)
    (fun x => T.l.length - x.s.i) ⟨T.l.length + 1, 0, s.next, da', dc'⟩ (by exact ⟨rfl, rfl, trivial⟩) ⟨hm, rfl, by dsimp only; omega, by dsimp only; rw [Sp.next_i]; omega, by simp, by dsimp only; rw [Sp.next_i, Sp.next_ds]; omega⟩ ?_
  clear hm hn
  rintro ⟨f, n, s2, da2, dc2⟩ w2 ⟨hm, hL, hf, hi2, hn2, hr2⟩
  dsimp only at hm hL hf hi2 hn2 hr2 ⊢
  obtain ⟨f, rfl⟩ : ∃ f', f = f' + 1 := ⟨f - 1, by omega⟩
  rw [Sp.labL] at hL
  have hqe := p_eat (pb := pb) (deep := deep) (da := da2) (dc := dc2) s2 [125] (by simp) hr hT hi2
  by_cases hend : T.is s2.i [125] = true
  · rw [if_pos hend] at hL
    rw [← hL]
    rw [if_pos hend, hend] at hqe
    have hlt2 := Sp.is_lt hend
    repeat' (first|(refine m_call hm (hc:=hqe) (k:=?_); clear hm; rintro _ _ _ _ ⟨rfl, rfl, da3, dc3, rfl⟩ hle hm; try simp only [setn] at hm)|refine op_move (k:=?_)|refine op_assign (k:=?_)|refine op_not (k:=?_)|refine wl_nil ?_|refine at_then_normal ?_|refine at_then_exit ?_|refine at_block_exit ?_|refine wc_seq ?_|refine wc_region ?_|refine wc_exit ?_|refine wc_ret ?_|refine at_ret1 (h:=?_)|refine wc_cond_false (hf:=?_))
    exact ⟨I, _, ⟨rfl, rfl, da3, dc3, rfl⟩, hm⟩
  have hend' : T.is s2.i [125] = false := by simpa using hend
  rw [if_neg hend] at hL
  rw [if_neg hend, hend'] at hqe
  dsimp only at hL
  have h1 := hT.at_ s2.i
  have htg : Sp.tagB (T.tok s2.i).text = decide ((T.tok s2.i).text.length = 1 ∧ 97 ≤ ((T.tok s2.i).text.getD (0 : Int).toNat 0).toNat ∧ ((T.tok s2.i).text.getD (0 : Int).toNat 0).toNat ≤ 104) := by
    rw [Sp.tagB, Bool.decide_and, Bool.decide_and]; rfl
  by_cases hgood : Sp.tagB (T.tok s2.i).text = true
  case neg =>
    have hgood' : Sp.tagB (T.tok s2.i).text = false := by simpa using hgood
    rw [hgood'] at hL
    simp only [Bool.not_false, if_true] at hL
    rw [← hL]
    rw [htg, decide_eq_false_iff_not] at hgood'
    repeat' (first|(refine m_call hm (hc:=hqe) (k:=?_); clear hm; rintro _ _ _ _ ⟨rfl, rfl, da4, dc4, rfl⟩ hle hm; try simp only [setn] at hm)|(refine m_readC hm (hc:=p_peek s2 hr) (k:=?_); clear hm; intro _ hm)|(refine m_call hm (hc:=p_tell s2 2 hr hT hi2 (by omega)) (k:=?_); clear hm; rintro _ _ _ _ ⟨rfl, rfl, da3, dc3, rfl⟩ hle hm; try simp only [setn] at hm)|refine op_move (k:=?_)|refine op_assign (k:=?_)|refine op_pick_true (k:=?_)|refine op_pick_false (k:=?_)|refine op_lss (k:=?_)|refine op_gtr (k:=?_)|refine op_neq (k:=?_)|refine op_len_str (k:=?_)|refine op_not (k:=?_)|refine op_index_str (k:=?_)|refine wl_skip (k:=?_)|(refine wl_split_dec (h1:=fun _ => ?_) (h0:=fun _ => ?_)<;> (try first | contradiction | (exfalso; omega)))|refine wl_nil ?_|refine at_then_normal ?_|refine at_then_ret ?_|refine at_block_ret ?_|refine wc_seq ?_|refine wc_region ?_|refine wc_block ?_|refine wc_skip ?_|refine wc_ret ?_|refine at_ret1 (h:=?_)|refine wc_cond_true (ht:=?_)|(refine wc_cond_dec (ht:=fun _ => ?_) (hf:=fun _ => ?_)<;> (try first | contradiction | (exfalso; omega))))
    all_goals first
      | exact ⟨I, _, ⟨rfl, rfl, da3, dc3, rfl⟩, hm⟩
      | (exfalso; omega)
  rw [hgood] at hL
  have hlt2 : s2.i < T.l.length := Sp.tok_lt (by intro e; rw [e] at hgood; revert hgood; decide)
  rw [htg, decide_eq_true_eq] at hgood
  have hce : (T.tok s2.i).text.getD (0 : Int).toNat 0 = (T.tok s2.i).text.getD 0 0 := rfl
  rw [hce] at hgood
  generalize hcc : (T.tok s2.i).text.getD 0 0 = c at hgood hL hce
  obtain ⟨q, hqq⟩ : ∃ q, q = c.toNat - 97 := ⟨_, rfl⟩
  rw [← hqq] at hL
  have hq8 : q < 8 := by omega
  obtain ⟨hfd, hb1, hor, hor2⟩ := Sp.tagp n hn2 q hq8
  obtain ⟨hp1, hp2⟩ := Sp.pow8 q hq8
  have hbq : ((c.toNat : Int) - 97).toNat = q := by omega
  have hdl : n / 2 ^ q ≤ n := Nat.div_le_self _ _
  simp only [Bool.not_true, Bool.false_eq_true, if_false] at hL
  generalize n / 2 ^ q = m at hfd hb1 hdl
  obtain ⟨s3, hs3⟩ : ∃ s3, s3 = (if Sp.bit n q = true then s2.bad T 7 else s2) := ⟨_, rfl⟩
  rw [← hs3] at hL
  have hs3i : s3.i = s2.i := by rw [hs3]; split <;> rfl
  have hs3d : s3.ds.length ≤ s2.ds.length + 1 := by rw [hs3]; split <;> simp [Sp.St.bad]
  rw [← hor] at hL
  have hni : s3.next.i = s3.i + 1 := rfl
  have hnd : s3.next.ds.length = s3.ds.length := rfl
  have hnn : s3.next.next.i = s3.i + 1 + 1 := rfl
  have hnnd : s3.next.next.ds.length = s3.ds.length := rfl
  have hmc := fun da dc => p_must (pb := pb) (deep := deep) (da := da) (dc := dc) s3.next [44] (by simp) hr hT (by omega) (by omega)
  rw [Sp.St.need] at hmc
  have hpk := fun da dc => p_peek (pb := pb) (deep := deep) (da := da) (dc := dc) s3.next hr
  have tel := fun da dc => p_tell (pb := pb) (deep := deep) (da := da) (dc := dc) s2 7 hr hT hi2 (by omega)
  have hor' : ((n : Int).toNat ||| (((2 ^ q : Nat) : Int)).toNat) = (n ||| 2 ^ q) := rfl
  generalize 2 ^ q = pq at hp1 hp2 hor2 hor hL hor'
  generalize n ||| pq = n1 at hor2 hor hL hor'
  repeat' (first|(refine wc_cut_reg 9 (fun _ : QLab => [(0, ptr pb), (3, nt n), (4, str (T.tok s2.i).text)]) (fun x w' => Mem E I (QSt pb la lc T s3 deep x.da x.dc) w') ?_ ?_)|(refine m_call hm (hc:=hqe) (k:=?_); clear hm; rintro _ _ _ _ ⟨rfl, rfl, da4, dc4, rfl⟩ hle hm; try simp only [setn] at hm)|(refine m_readC (d:=12) hm (hc:=p_peek s2 hr) (k:=?_); clear hm; intro _ hm)|(refine op_index_str (k:=?_); rw [hce])|refine op_move (k:=?_)|refine op_assign (k:=?_)|refine op_pick_false (k:=?_)|refine op_lss (k:=?_)|refine op_gtr (k:=?_)|refine op_neq (k:=?_)|refine op_len_str (k:=?_)|refine op_not (k:=?_)|refine op_sub_u8 (k:=?_)|(refine wl_split_dec (h1:=fun _ => ?_) (h0:=fun _ => ?_)<;> (try first | contradiction | (exfalso; omega)))|refine wl_nil ?_|refine at_then_normal ?_|refine wc_seq ?_|refine wc_region ?_|refine wc_block ?_|refine wc_skip ?_|refine wc_cond_true (ht:=?_)|(refine wc_cond_dec (ht:=fun _ => ?_) (hf:=fun _ => ?_)<;> (try first | contradiction | (exfalso; omega))))
  all_goals try (exfalso; omega)
  · cases hb : Sp.bit n q with
    | true =>
      rw [hb] at hb1 hs3
      rw [if_pos rfl] at hs3
      subst hs3
      repeat' (first|(refine m_call hm (hc:=tel _ _) (k:=?_); clear hm; rintro _ _ _ _ ⟨rfl, rfl, da3, dc3, rfl⟩ hle hm; try simp only [setn] at hm)|(refine op_shr (k:=?_); rw [hbq, hfd])|(refine op_and (k:=?_); rw [show ((m : Int).toNat &&& (1 : Int).toNat) = 1 from hb1])|refine op_move (k:=?_)|refine op_eql (k:=?_)|refine wl_nil ?_|refine at_then_normal ?_|refine wc_region ?_|refine wc_cond_true (ht:=?_))
      all_goals try (exfalso; omega)
      exact at_cut (⟨0, 0, s2, da3, dc3⟩ : QLab) (by exact ⟨rfl, rfl, rfl, trivial⟩) hm
    | false =>
      rw [hb] at hb1 hs3
      rw [if_neg (by simp)] at hs3
      subst hs3
      repeat' (first|(refine op_shr (k:=?_); rw [hbq, hfd])|(refine op_and (k:=?_); rw [show ((m : Int).toNat &&& (1 : Int).toNat) = 0 from hb1])|refine op_eql (k:=?_)|refine wl_nil ?_|refine at_then_normal ?_|refine wc_skip ?_|refine wc_cond_false (hf:=?_))
      all_goals try (exfalso; omega)
      exact at_cut (⟨0, 0, s3, da4, dc4⟩ : QLab) (by exact ⟨rfl, rfl, rfl, trivial⟩) hm
  clear hm hqe tel
  rintro ⟨_, _, _, da5, dc5⟩ w3 hm
  dsimp only at hm ⊢
  by_cases e1 : T.is s3.next.i [125] = true
  · rw [if_pos e1] at hL
    have e1t : (T.tok s3.next.i).text = [125] := by simp only [Sp.Src.is, Bool.and_eq_true, decide_eq_true_eq] at e1; exact e1.2
    have hlt5 := Sp.is_lt e1
    rw [e1t] at hpk
    repeat' (first|(refine m_readC hm (hc:=hpk _ _) (k:=?_); clear hm; intro _ hm)|(refine op_index_str (k:=?_); rw [hce])|(refine op_shl (h':=by rw [hbq, hp1]; omega) (k:=?_); rw [hbq, hp1])|(refine op_or (k:=?_); rw [hor'])|refine m_load1 hm (k:=?_)|(refine m_store1 hm (k:=?_); clear hm; intro _ hm; try simp only [setn] at hm)|refine op_move (k:=?_)|refine op_assign (k:=?_)|refine op_pick_false (k:=?_)|refine op_neq_str (k:=?_)|refine op_nilCheck (k:=?_)|refine op_add (k:=?_)|refine op_sub_u8 (k:=?_)|refine op_fieldAddr (k:=?_)|refine wl_skip (k:=?_)|refine wl_nil ?_|refine at_then_normal ?_|refine at_block_normal ?_|refine wc_seq ?_|refine wc_region ?_|refine wc_skip ?_|refine wc_cond_false (hf:=?_))
    all_goals try (exfalso; first | omega | contradiction)
    exact at_round (⟨f, n1, s3.next, da5, dc5⟩ : QLab) (by exact ⟨rfl, rfl, trivial⟩) ⟨hm, hL, by dsimp only; omega, by dsimp only; omega, hor2, by dsimp only; omega⟩ (by dsimp only; omega)
  rw [if_neg e1] at hL
  by_cases e2 : T.is s3.next.i [44] = true
  · rw [if_pos e2] at hL hmc
    have e1t : (T.tok s3.next.i).text = [44] := by simp only [Sp.Src.is, Bool.and_eq_true, decide_eq_true_eq] at e2; exact e2.2
    have hlt5 := Sp.is_lt e2
    rw [e1t] at hpk
    repeat' (first|(refine m_readC hm (hc:=hpk _ _) (k:=?_); clear hm; intro _ hm)|(refine m_call hm (hc:=hmc _ _) (k:=?_); clear hm; rintro _ _ _ _ ⟨rfl, rfl, da6, dc6, rfl⟩ hle hm; try simp only [setn] at hm)|(refine op_index_str (k:=?_); rw [hce])|(refine op_shl (h':=by rw [hbq, hp1]; omega) (k:=?_); rw [hbq, hp1])|(refine op_or (k:=?_); rw [hor'])|refine m_load1 hm (k:=?_)|(refine m_store1 hm (k:=?_); clear hm; intro _ hm; try simp only [setn] at hm)|refine op_move (k:=?_)|refine op_assign (k:=?_)|refine op_pick_true (k:=?_)|refine op_neq_str (k:=?_)|refine op_not (k:=?_)|refine op_nilCheck (k:=?_)|refine op_add (k:=?_)|refine op_sub_u8 (k:=?_)|refine op_fieldAddr (k:=?_)|refine wl_nil ?_|refine at_then_normal ?_|refine at_block_normal ?_|refine wc_seq ?_|refine wc_region ?_|refine wc_skip ?_|refine wc_cond_false (hf:=?_))
    all_goals try (exfalso; first | omega | contradiction)
    exact at_round (⟨f, n1, s3.next.next, da6, dc6⟩ : QLab) (by exact ⟨rfl, rfl, trivial⟩) ⟨hm, hL, by dsimp only; omega, by dsimp only; omega, hor2, by dsimp only; omega⟩ (by dsimp only; omega)
  rw [if_neg e2] at hL hmc
  have e1t : s3.next.i < T.l.length → (T.tok s3.next.i).text ≠ [125] := fun h e => e1 (by simp [Sp.Src.is, h, e])
  rw [← hL]
  by_cases hlt6 : s3.next.i < T.l.length
  · have e1t := e1t hlt6
    repeat' (first|(refine m_readC hm (hc:=hpk _ _) (k:=?_); clear hm; intro _ hm)|(refine m_call hm (hc:=hmc _ _) (k:=?_); clear hm; rintro _ _ _ _ ⟨rfl, rfl, da6, dc6, rfl⟩ hle hm; try simp only [setn] at hm)|(refine op_index_str (k:=?_); rw [hce])|(refine op_shl (h':=by rw [hbq, hp1]; omega) (k:=?_); rw [hbq, hp1])|(refine op_or (k:=?_); rw [hor'])|refine m_load1 hm (k:=?_)|(refine m_store1 hm (k:=?_); clear hm; intro _ hm; try simp only [setn] at hm)|refine op_move (k:=?_)|refine op_assign (k:=?_)|refine op_pick_true (k:=?_)|refine op_neq_str (k:=?_)|refine op_not (k:=?_)|refine op_nilCheck (k:=?_)|refine op_add (k:=?_)|refine op_sub_u8 (k:=?_)|refine op_fieldAddr (k:=?_)|(refine wl_split_dec (h1:=fun _ => ?_) (h0:=fun _ => ?_)<;> (try first | contradiction | (exfalso; omega)))|refine wl_nil ?_|refine at_then_normal ?_|refine at_then_ret ?_|refine at_block_ret ?_|refine wc_seq ?_|refine wc_region ?_|refine wc_ret ?_|refine at_ret1 (h:=?_)|refine wc_cond_true (ht:=?_))
    all_goals try (exfalso; first | omega | contradiction)
    exact ⟨I, _, ⟨rfl, rfl, da6, dc6, rfl⟩, hm⟩
  · rw [Sp.tok_end (by omega : T.l.length ≤ s3.next.i)] at hpk
    repeat' (first|(refine m_readC hm (hc:=hpk _ _) (k:=?_); clear hm; intro _ hm)|(refine m_call hm (hc:=hmc _ _) (k:=?_); clear hm; rintro _ _ _ _ ⟨rfl, rfl, da6, dc6, rfl⟩ hle hm; try simp only [setn] at hm)|(refine op_index_str (k:=?_); rw [hce])|(refine op_shl (h':=by rw [hbq, hp1]; omega) (k:=?_); rw [hbq, hp1])|(refine op_or (k:=?_); rw [hor'])|refine m_load1 hm (k:=?_)|(refine m_store1 hm (k:=?_); clear hm; intro _ hm; try simp only [setn] at hm)|refine op_move (k:=?_)|refine op_assign (k:=?_)|refine op_pick_true (k:=?_)|refine op_neq_str (k:=?_)|refine op_not (k:=?_)|refine op_nilCheck (k:=?_)|refine op_add (k:=?_)|refine op_sub_u8 (k:=?_)|refine op_fieldAddr (k:=?_)|refine wl_nil ?_|refine at_then_normal ?_|refine at_then_ret ?_|refine at_block_ret ?_|refine wc_seq ?_|refine wc_region ?_|refine wc_ret ?_|refine at_ret1 (h:=?_)|refine wc_cond_true (ht:=?_))
    all_goals try (exfalso; first | omega | contradiction)
    exact ⟨I, _, ⟨rfl, rfl, da6, dc6, rfl⟩, hm⟩
theorem p_tight (t : List UInt8) (w : World) : Cal Tryz.prog 196 #[str t] w fun v w' => v = nt (Sp.tight t) ∧ w' = w := by
  refine enter (N := 12) Tryz.func196 rfl [(0, str t)] args1 rfl ?_
  rw [Sp.tight]
  by_cases h1 : t = [61]
  · subst h1
    repeat' (first|refine op_move (k:=?_)|refine op_assign (k:=?_)|refine op_eql_str (k:=?_)|refine wl_nil ?_|refine at_then_normal ?_|refine at_then_ret ?_|refine at_block_ret ?_|refine wc_seq ?_|refine wc_region ?_|refine wc_block ?_|refine wc_skip ?_|refine wc_ret ?_|refine at_ret1 (h:=?_)|refine wc_cond_true (ht:=?_))
    exact ⟨rfl, rfl⟩
  by_cases h2 : t = [60]
  · subst h2
    repeat' (first|refine op_move (k:=?_)|refine op_assign (k:=?_)|refine op_eql_str (k:=?_)|refine wl_nil ?_|refine at_then_normal ?_|refine at_then_ret ?_|refine at_block_ret ?_|refine wc_seq ?_|refine wc_region ?_|refine wc_block ?_|refine wc_ret ?_|refine at_ret1 (h:=?_)|refine wc_cond_true (ht:=?_)|refine wc_cond_false (hf:=?_))
    exact ⟨rfl, rfl⟩
  by_cases h3 : t = [43]
  · subst h3
    repeat' (first|refine op_move (k:=?_)|refine op_assign (k:=?_)|refine op_eql_str (k:=?_)|refine wl_nil ?_|refine at_then_normal ?_|refine at_then_ret ?_|refine at_block_ret ?_|refine wc_seq ?_|refine wc_region ?_|refine wc_block ?_|refine wc_skip ?_|refine wc_ret ?_|refine at_ret1 (h:=?_)|refine wc_cond_true (ht:=?_)|refine wc_cond_false (hf:=?_))
    exact ⟨rfl, rfl⟩
  by_cases h4 : t = [45]
  · subst h4
    repeat' (first|refine op_move (k:=?_)|refine op_assign (k:=?_)|refine op_eql_str (k:=?_)|refine wl_nil ?_|refine at_then_normal ?_|refine at_then_ret ?_|refine at_block_ret ?_|refine wc_seq ?_|refine wc_region ?_|refine wc_block ?_|refine wc_ret ?_|refine at_ret1 (h:=?_)|refine wc_cond_true (ht:=?_)|refine wc_cond_false (hf:=?_))
    exact ⟨rfl, rfl⟩
  by_cases h5 : t = [42]
  · subst h5
    repeat' (first|refine op_move (k:=?_)|refine op_assign (k:=?_)|refine op_eql_str (k:=?_)|refine wl_nil ?_|refine at_then_normal ?_|refine at_then_ret ?_|refine at_block_ret ?_|refine wc_seq ?_|refine wc_region ?_|refine wc_block ?_|refine wc_ret ?_|refine at_ret1 (h:=?_)|refine wc_cond_true (ht:=?_)|refine wc_cond_false (hf:=?_))
    exact ⟨rfl, rfl⟩
  rw [if_neg (by simp [h1, h2]), if_neg (by simp [h3, h4]), if_neg h5]
  repeat' (first|refine op_move (k:=?_)|refine op_assign (k:=?_)|refine op_eql_str (k:=?_)|refine wl_nil ?_|refine at_then_normal ?_|refine at_block_normal ?_|refine wc_seq ?_|refine wc_region ?_|refine wc_block ?_|refine wc_skip ?_|refine wc_ret ?_|refine at_ret1 (h:=?_)|(refine wc_cond_dec (ht:=fun _ => ?_) (hf:=fun _ => ?_)<;> (try first | contradiction | (exfalso; omega))))
  all_goals first | exact ⟨rfl, rfl⟩ | (exfalso; simp_all; done)
abbrev ToQE (pb : Nat) (la : Option Addr) (lc : Nat) (T : Sp.Src) (deep : Nat) (r : Sp.Ex × Sp.St) : Value → Imm → List HItem → Prop :=
  fun v I' H' => (∃ ea ec xs, v = .agg [nt r.1.kind, str r.1.name, nt r.1.n, .slice ea r.1.args.length ec, nt r.1.fr, nt r.1.to].toArray ∧ RowI I' 102 6 (.slice ea r.1.args.length ec) r.1.args.length xs ∧ ExsAt I' r.1.args xs) ∧
    ∃ da dc, H' = QSt pb la lc T r.2 deep da dc
theorem p_none (s : Sp.St) (e : Nat) (hr : TokR I T la lc) (hT : Ok T) (hi : s.i ≤ T.l.length) (hd : s.ds.length < 1099511627776) :
    CalM Tryz.prog 203 #[ptr pb, nt e] I (QSt pb la lc T s deep da dc) (ToQE pb la lc T deep (Sp.none_ T s e)) := by
  refine CalM.of fun w E hm => enter (N := 13) Tryz.func203 rfl [(0, ptr pb), (1, nt e)] args2 rfl ?_
  repeat' (first|(refine m_call hm (hc:=p_tell s e hr hT hi hd) (k:=?_); clear hm; rintro _ _ _ _ ⟨rfl, rfl, da', dc', rfl⟩ hle hm; try simp only [setn] at hm)|(refine m_readC hm (hc:=p_here (s.bad T e) hr) (k:=?_); clear hm; intro _ hm)|(refine m_allocS (d:=4) hm (k:=?_); clear hm; intro b4 _ hm)|(refine m_storeAll hm (k:=?_); clear hm; intro _ hm; try simp only [setn] at hm)|refine m_ret_agg hm (h:=?_)|refine op_move (k:=?_)|refine op_struct (k:=?_)|refine wl_nil ?_|refine at_then_normal ?_|refine wc_seq ?_|refine wc_region ?_|refine wc_ret ?_)
  exact ⟨I, _, ⟨⟨none, 0, [], rfl, rowI_nil _ _ _ _ _, .nil⟩, da', dc', rfl⟩, hm.left (H := [_, _])⟩
end
end Go.Proofs.YthmdffgiockcbaaGreatDoor
end
section
namespace Go.Sp
def dstep (n : Nat) (c : UInt8) : Nat := if n ≤ 1000000000 then 10 * n + (c.toNat - 48) else n
theorem digits_eq (t : List UInt8) : digits t = t.foldl dstep 0 := rfl
theorem dfold_ge : ∀ (r : List UInt8) (a : Nat), a ≤ r.foldl dstep a
  | [], a => Nat.le_refl _
  | c :: r, a => by
    rw [List.foldl_cons]
    have := dfold_ge r (dstep a c)
    have : a ≤ dstep a c := by rw [dstep]; split <;> omega
    omega
theorem dfold_big : ∀ (r : List UInt8) (a : Nat), 1000000000 < a → r.foldl dstep a = a
  | [], a, _ => rfl
  | c :: r, a, h => by rw [List.foldl_cons, dstep, if_neg (by omega)]; exact dfold_big r a h
theorem uint_small : ∀ (r : List UInt8) (a : Nat), (∀ c ∈ r, 48 ≤ c.toNat ∧ c.toNat ≤ 57) → r.foldl dstep a ≤ 1000000000 → Lib.parseUint10 a r = .ok (r.foldl dstep a)
  | [], a, _, _ => rfl
  | c :: r, a, hd, h => by
    rw [List.foldl_cons] at h ⊢
    have hc := hd c List.mem_cons_self
    have ha : a ≤ 1000000000 := by
      have := dfold_ge r (dstep a c)
      have : a ≤ dstep a c := by rw [dstep]; split <;> omega
      omega
    have e : dstep a c = a * 10 + (c.toNat - 48) := by rw [dstep, if_pos ha]; omega
    rw [Lib.parseUint10, if_pos hc, if_neg (by omega), if_neg (by omega), ← e]
    exact uint_small r _ (fun c hc => hd c (List.mem_cons_of_mem _ hc)) h
theorem uint_big : ∀ (r : List UInt8) (a : Nat), (∀ c ∈ r, 48 ≤ c.toNat ∧ c.toNat ≤ 57) → 1000000000 < r.foldl dstep a → Lib.parseUint10 a r = .range ∨ ∃ u, 1000000000 < u ∧ Lib.parseUint10 a r = .ok u
  | [], a, _, h => .inr ⟨a, h, rfl⟩
  | c :: r, a, hd, h => by
    rw [List.foldl_cons] at h
    have hc := hd c List.mem_cons_self
    rw [Lib.parseUint10, if_pos hc]
    split
    · exact .inl rfl
    · split
      · exact .inl rfl
      · refine uint_big r _ (fun c hc => hd c (List.mem_cons_of_mem _ hc)) ?_
        by_cases ha : a ≤ 1000000000
        · have e : dstep a c = a * 10 + (c.toNat - 48) := by rw [dstep, if_pos ha]; omega
          rw [← e]; exact h
        · rw [dfold_big r _ (by omega)]; omega
theorem atoi_digits (t : List UInt8) (hn : 1 ≤ t.length) (hd : ∀ c ∈ t, 48 ≤ c.toNat ∧ c.toNat ≤ 57) :
    (digits t ≤ 1000000000 → Lib.atoiAll t = .ok (digits t : Int)) ∧ (1000000000 < digits t → Lib.atoiAll t = .range ∨ ∃ v : Int, 1000000000 < v ∧ Lib.atoiAll t = .ok v) := by
  rw [digits_eq]
  cases t with
  | nil => simp at hn
  | cons c r =>
    have hc := hd c List.mem_cons_self
    have hp : Lib.parseMag (if c.toNat = 43 ∨ c.toNat = 45 then r else c :: r) = Lib.parseUint10 0 (c :: r) := by
      rw [if_neg (by omega), Lib.parseMag, if_neg (by simp)]
    have hneg : ¬ c.toNat = 45 := by omega
    constructor
    · intro h
      have h1 := uint_small (c :: r) 0 hd h
      simp only [Lib.atoiAll]
      rw [hp, h1]
      generalize (c :: r).foldl dstep 0 = d at h ⊢
      simp only [hneg]
      simp
      omega
    · intro h
      simp only [Lib.atoiAll]
      rw [hp]
      rcases uint_big (c :: r) 0 hd h with h1 | ⟨u, hu, h1⟩
      · rw [h1]; exact .inl rfl
      · rw [h1]
        simp only [hneg]
        by_cases h2 : 9223372036854775808 ≤ u
        · exact .inl (by simp [h2])
        · exact .inr ⟨(u : Int), by omega, by simp [h2]⟩
end Go.Sp
end
section
namespace Go.Proofs
open Go.Shelf
def Tryz.laysC172_ren : Go.Shelf.Ren := ⟨fun | 172 => 205 | 244 => 211 | 245 => 212 | 247 => 215 | 279 => 216 | 280 => 217 | 281 => 218 | 282 => 219 | 287 => 220 | 316 => 221 | 171 => 153 | 205 => 222 | 321 => 223 | 322 => 224 | 243 => 183 | 246 => 194 | 283 => 199 | 284 => 200 | 285 => 201 | 286 => 202 | 129 => 151 | 317 => 207 | 318 => 208 | 319 => 209 | 320 => 210 | 337 => 213 | 338 => 214 | n => n, fun | 9 => 9 | 3 => 3 | 75 => 139 | 76 => 140 | 4 => 4 | 5 => 5 | 167 => 274 | 37 => 86 | 0 => 0 | 85 => 275 | 2 => 2 | 168 => 277 | 53 => 232 | 175 => 282 | 46 => 198 | 210 => 286 | 127 => 144 | 145 => 291 | 143 => 289 | 21 => 21 | 171 => 264 | 173 => 266 | 212 => 271 | 51 => 230 | 20 => 20 | 213 => 272 | 232 => 280 | 233 => 281 | 80 => 93 | n => n, fun | 15 => 4 | 16 => 5 | 17 => 1 | 18 => 2 | 19 => 3 | n => n⟩
theorem Tryz.laysC172 : Go.Proofs.LaysC.n172 Tryz.prog Tryz.laysC172_ren := {
  mixed := by kernel_rfl
  f129 := Tryz.func151.trans (congrArg some (by kernel_rfl))
  f171 := Tryz.func153.trans (congrArg some (by kernel_rfl))
  f172 := Tryz.func205.trans (congrArg some (by kernel_rfl))
  f205 := Tryz.func222.trans (congrArg some (by kernel_rfl))
  f243 := Tryz.func183.trans (congrArg some (by kernel_rfl))
  f244 := Tryz.func211.trans (congrArg some (by kernel_rfl))
  f245 := Tryz.func212.trans (congrArg some (by kernel_rfl))
  f246 := Tryz.func194.trans (congrArg some (by kernel_rfl))
  f247 := Tryz.func215.trans (congrArg some (by kernel_rfl))
  f279 := Tryz.func216.trans (congrArg some (by kernel_rfl))
  f280 := Tryz.func217.trans (congrArg some (by kernel_rfl))
  f281 := Tryz.func218.trans (congrArg some (by kernel_rfl))
  f282 := Tryz.func219.trans (congrArg some (by kernel_rfl))
  f283 := Tryz.func199.trans (congrArg some (by kernel_rfl))
  f284 := Tryz.func200.trans (congrArg some (by kernel_rfl))
  f285 := Tryz.func201.trans (congrArg some (by kernel_rfl))
  f286 := Tryz.func202.trans (congrArg some (by kernel_rfl))
  f287 := Tryz.func220.trans (congrArg some (by kernel_rfl))
  f316 := Tryz.func221.trans (congrArg some (by kernel_rfl))
  f317 := Tryz.func207.trans (congrArg some (by kernel_rfl))
  f318 := Tryz.func208.trans (congrArg some (by kernel_rfl))
  f319 := Tryz.func209.trans (congrArg some (by kernel_rfl))
  f320 := Tryz.func210.trans (congrArg some (by kernel_rfl))
  f321 := Tryz.func223.trans (congrArg some (by kernel_rfl))
  f322 := Tryz.func224.trans (congrArg some (by kernel_rfl))
  f337 := Tryz.func213.trans (congrArg some (by kernel_rfl))
  f338 := Tryz.func214.trans (congrArg some (by kernel_rfl))
  t0 := Tryz.underlying0
  a0 := Tryz.isAgg0
  z0 := Tryz.sizeOf0
  v0 := Tryz.zeroValue0
  t2 := Tryz.underlying2
  a2 := Tryz.isAgg2
  z2 := Tryz.sizeOf2
  v2 := Tryz.zeroValue2
  t3 := Tryz.underlying3
  a3 := Tryz.isAgg3
  z3 := Tryz.sizeOf3
  v3 := Tryz.zeroValue3
  t4 := Tryz.underlying4
  a4 := Tryz.isAgg4
  z4 := Tryz.sizeOf4
  v4 := Tryz.zeroValue4
  t5 := Tryz.underlying5
  a5 := Tryz.isAgg5
  z5 := Tryz.sizeOf5
  v5 := Tryz.zeroValue5
  t9 := Tryz.underlying9
  a9 := Tryz.isAgg9
  z9 := Tryz.sizeOf9
  v9 := Tryz.zeroValue9
  t20 := Tryz.underlying20
  a20 := Tryz.isAgg20
  z20 := Tryz.sizeOf20
  v20 := Tryz.zeroValue20
  t21 := Tryz.underlying21
  a21 := Tryz.isAgg21
  z21 := Tryz.sizeOf21
  v21 := Tryz.zeroValue21
  t37 := Tryz.underlying86
  a37 := Tryz.isAgg86
  z37 := Tryz.sizeOf86
  v37 := Tryz.zeroValue86
  t46 := Tryz.underlying198
  a46 := Tryz.isAgg198
  z46 := Tryz.sizeOf198
  v46 := Tryz.zeroValue198
  t51 := Tryz.underlying230
  a51 := Tryz.isAgg230
  z51 := Tryz.sizeOf230
  v51 := Tryz.zeroValue230
  t53 := Tryz.underlying232
  a53 := Tryz.isAgg232
  z53 := Tryz.sizeOf232
  v53 := Tryz.zeroValue232
  t75 := Tryz.underlying139
  a75 := Tryz.isAgg139
  z75 := Tryz.sizeOf139
  v75 := Tryz.zeroValue139
  t76 := Tryz.underlying140
  a76 := Tryz.isAgg140
  z76 := Tryz.sizeOf140
  v76 := Tryz.zeroValue140
  t85 := Tryz.underlying275
  a85 := Tryz.isAgg275
  z85 := Tryz.sizeOf275
  v85 := Tryz.zeroValue275
  t127 := Tryz.underlying144
  a127 := Tryz.isAgg144
  z127 := Tryz.sizeOf144
  v127 := Tryz.zeroValue144
  t143 := Tryz.underlying289
  a143 := Tryz.isAgg289
  z143 := Tryz.sizeOf289
  v143 := Tryz.zeroValue289
  t145 := Tryz.underlying291
  a145 := Tryz.isAgg291
  z145 := Tryz.sizeOf291
  v145 := Tryz.zeroValue291
  t167 := Tryz.underlying274
  a167 := Tryz.isAgg274
  z167 := Tryz.sizeOf274
  v167 := Tryz.zeroValue274
  t168 := Tryz.underlying277
  a168 := Tryz.isAgg277
  z168 := Tryz.sizeOf277
  v168 := Tryz.zeroValue277
  t171 := Tryz.underlying264
  a171 := Tryz.isAgg264
  z171 := Tryz.sizeOf264
  v171 := Tryz.zeroValue264
  t173 := Tryz.underlying266
  a173 := Tryz.isAgg266
  z173 := Tryz.sizeOf266
  v173 := Tryz.zeroValue266
  t175 := Tryz.underlying282
  a175 := Tryz.isAgg282
  z175 := Tryz.sizeOf282
  v175 := Tryz.zeroValue282
  t210 := Tryz.underlying286
  a210 := Tryz.isAgg286
  z210 := Tryz.sizeOf286
  v210 := Tryz.zeroValue286
  t212 := Tryz.underlying271
  a212 := Tryz.isAgg271
  z212 := Tryz.sizeOf271
  v212 := Tryz.zeroValue271
  t213 := Tryz.underlying272
  a213 := Tryz.isAgg272
  z213 := Tryz.sizeOf272
  t232 := Tryz.underlying280
  a232 := Tryz.isAgg280
  z232 := Tryz.sizeOf280
  v232 := Tryz.zeroValue280
  t233 := Tryz.underlying281
  a233 := Tryz.isAgg281
  z233 := Tryz.sizeOf281
  v233 := Tryz.zeroValue281
  g15 := by kernel_rfl
  g16 := by kernel_rfl
  g17 := by kernel_rfl
  g18 := by kernel_rfl
  g19 := by kernel_rfl
  t80 := Tryz.underlying93
  a80 := Tryz.isAgg93
  z80 := Tryz.sizeOf93
  v80 := Tryz.zeroValue93
  i0 := by kernel_rfl
  i2 := by kernel_rfl
  i3 := by kernel_rfl
  i4 := by kernel_rfl
  i5 := by kernel_rfl
  i9 := by kernel_rfl
  i20 := by kernel_rfl
  i21 := by kernel_rfl
  i37 := by kernel_rfl
  i46 := by kernel_rfl
  i51 := by kernel_rfl
  i53 := by kernel_rfl
  i75 := by kernel_rfl
  i76 := by kernel_rfl
  i80 := by kernel_rfl
  i85 := by kernel_rfl
  i127 := by kernel_rfl
  i143 := by kernel_rfl
  i145 := by kernel_rfl
  i167 := by kernel_rfl
  i168 := by kernel_rfl
  i171 := by kernel_rfl
  i173 := by kernel_rfl
  i175 := by kernel_rfl
  i210 := by kernel_rfl
  i212 := by kernel_rfl
  i232 := by kernel_rfl
  i233 := by kernel_rfl
  m15 := by kernel_rfl
  m16 := by kernel_rfl
  m17 := by kernel_rfl
  m18 := by kernel_rfl
  m19 := by kernel_rfl
  c0 := by kernel_rfl
  c2 := by kernel_rfl
  c3 := by kernel_rfl
  c4 := by kernel_rfl
  c5 := by kernel_rfl
  c9 := by kernel_rfl
  c20 := by kernel_rfl
  c21 := by kernel_rfl
  c37 := by kernel_rfl
  c46 := by kernel_rfl
  c51 := by kernel_rfl
  c53 := by kernel_rfl
  c75 := by kernel_rfl
  c76 := by kernel_rfl
  c80 := by kernel_rfl
  c85 := by kernel_rfl
  c127 := by kernel_rfl
  c143 := by kernel_rfl
  c145 := by kernel_rfl
  c167 := by kernel_rfl
  c168 := by kernel_rfl
  c171 := by kernel_rfl
  c173 := by kernel_rfl
  c175 := by kernel_rfl
  c210 := by kernel_rfl
  c212 := by kernel_rfl
  c213 := by kernel_rfl
  c232 := by kernel_rfl
  c233 := by kernel_rfl }
open Go.RowKit in
theorem Tryz.strconv_Atoi_ok (s : ByteArray) (hmax : s.size ≤ 9223372036854775806) (v : Int) (h : Lib.atoiAll s.data.toList = .ok v) (w : World) :
    Calls Tryz.prog 205 #[.string s] w fun e w' => e = .returned (.tuple #[.int .i64 v, .nilIface]) ∧ (w' = w ∨ ∃ t, w' = Lib.bytesWorld w 5 t) := Any.strconv_Atoi_ok Tryz.laysC172 s hmax v h w
open Go.RowKit in
theorem Tryz.strconv_Atoi_range (s : ByteArray) (hlim : s.size ≤ 281474976710656) (h : Lib.atoiAll s.data.toList = .range) (ev : Value) (w : World) (hv : w.cell? ⟨5, 0, none⟩ = some ev) (hev : ev = .nilIface ∨ ∃ te pe, ev = .iface te pe) :
    Calls Tryz.prog 205 #[.string s] w fun e w' => ∃ N, e = .returned (.tuple #[.int .i64 (Lib.atoiSat s.data.toList), .iface 277 (.pointer (some ⟨N, 0, none⟩))]) ∧ w.heap.size ≤ N ∧ w'.heap[N]? = some (.cells #[.string ⟨#[65, 116, 111, 105]⟩, .string s, ev] 286 (0, 0)) ∧ Below w.heap.size w w' := Any.strconv_Atoi_range Tryz.laysC172 s hlim h ev w hv hev
def Tryz.laysNm226_ren : Go.Shelf.Ren := ⟨fun | 26 => 169 | 33 => 187 | 34 => 188 | 38 => 197 | n => n, fun | 24 => 173 | 9 => 9 | 3 => 3 | 4 => 4 | 40 => 198 | 0 => 0 | n => n, fun | n => n⟩
theorem Tryz.laysNm226 : Go.Proofs.Lays2.n26 Tryz.prog Tryz.laysNm226_ren := {
  mixed := by kernel_rfl
  f26 := Tryz.func169.trans (congrArg some (by kernel_rfl))
  f33 := Tryz.func187.trans (congrArg some (by kernel_rfl))
  f34 := Tryz.func188.trans (congrArg some (by kernel_rfl))
  f38 := Tryz.func197.trans (congrArg some (by kernel_rfl))
  t0 := Tryz.underlying0
  a0 := Tryz.isAgg0
  z0 := Tryz.sizeOf0
  v0 := Tryz.zeroValue0
  t3 := Tryz.underlying3
  a3 := Tryz.isAgg3
  z3 := Tryz.sizeOf3
  v3 := Tryz.zeroValue3
  t4 := Tryz.underlying4
  a4 := Tryz.isAgg4
  z4 := Tryz.sizeOf4
  v4 := Tryz.zeroValue4
  t9 := Tryz.underlying9
  a9 := Tryz.isAgg9
  z9 := Tryz.sizeOf9
  v9 := Tryz.zeroValue9
  t24 := Tryz.underlying173
  a24 := Tryz.isAgg173
  z24 := Tryz.sizeOf173
  v24 := Tryz.zeroValue173
  t40 := Tryz.underlying198
  a40 := Tryz.isAgg198
  z40 := Tryz.sizeOf198
  v40 := Tryz.zeroValue198 }
def Tryz.laysNm222_ren : Go.Shelf.Ren := ⟨fun | 22 => 170 | 29 => 189 | 30 => 190 | 36 => 198 | 17 => 206 | n => n, fun | 24 => 173 | 9 => 9 | 3 => 3 | 4 => 4 | 0 => 0 | n => n, fun | n => n⟩
theorem Tryz.laysNm222 : Go.Proofs.Lays2.n22 Tryz.prog Tryz.laysNm222_ren := {
  mixed := by kernel_rfl
  f17 := Tryz.func206.trans (congrArg some (by kernel_rfl))
  f22 := Tryz.func170.trans (congrArg some (by kernel_rfl))
  f29 := Tryz.func189.trans (congrArg some (by kernel_rfl))
  f30 := Tryz.func190.trans (congrArg some (by kernel_rfl))
  f36 := Tryz.func198.trans (congrArg some (by kernel_rfl))
  t0 := Tryz.underlying0
  a0 := Tryz.isAgg0
  z0 := Tryz.sizeOf0
  v0 := Tryz.zeroValue0
  t3 := Tryz.underlying3
  a3 := Tryz.isAgg3
  z3 := Tryz.sizeOf3
  v3 := Tryz.zeroValue3
  t4 := Tryz.underlying4
  a4 := Tryz.isAgg4
  z4 := Tryz.sizeOf4
  v4 := Tryz.zeroValue4
  t9 := Tryz.underlying9
  a9 := Tryz.isAgg9
  z9 := Tryz.sizeOf9
  v9 := Tryz.zeroValue9
  t24 := Tryz.underlying173
  a24 := Tryz.isAgg173
  z24 := Tryz.sizeOf173
  v24 := Tryz.zeroValue173
  i9 := by kernel_rfl }
end Go.Proofs
end
section
namespace Go.Proofs.YthmdffgiockcbaaGreatDoor
open Go.Fw
def Conv (I : Imm) : Prop := ∃ te pe c ty fr, I 5 = some (.cells c ty fr) ∧ c[0]? = some (.iface te pe)
theorem Conv.le {I I' : Imm} (h : Conv I) (m : Le I I') : Conv I' := by
  obtain ⟨te, pe, c, ty, fr, h1, h2⟩ := h
  exact ⟨te, pe, c, ty, fr, m _ _ h1, h2⟩
abbrev ToNum (t : List UInt8) (I : Imm) : Value → Imm → List HItem → Prop := fun v I' H' => I = I' ∧ H' = [] ∧
  ((Sp.digits t ≤ 1000000000 ∧ v = .tuple #[nt (Sp.digits t), .nilIface]) ∨ (1000000000 < Sp.digits t ∧ ∃ (n : Int) (e : Value), v = .tuple #[.int .i64 n, e] ∧ ((e = .nilIface ∧ 1000000000 < n) ∨ ∃ te pe, e = .iface te pe)))
theorem p_atoi {I : Imm} (t : List UInt8) (hn : 1 ≤ t.length) (hl : t.length ≤ 1048576) (hd : ∀ c ∈ t, 48 ≤ c.toNat ∧ c.toNat ≤ 57) (hI : Conv I) :
    CalM Tryz.prog 205 #[str t] I [] (ToNum t I) := by
  refine ⟨fun w hm => ⟨?_⟩⟩
  have hsz : (⟨t.toArray⟩ : ByteArray).size = t.length := str_size t
  obtain ⟨h1, h2⟩ := Sp.atoi_digits t hn hd
  have okc : ∀ v : Int, Lib.atoiAll t = .ok v → Calls Tryz.prog 205 #[str t] w (Ret (fun u w' => u = .tuple #[.int .i64 v, .nilIface] ∧ Kept [] w w')) := fun v hv =>
    Calls.mono (Tryz.strconv_Atoi_ok ⟨t.toArray⟩ (by rw [hsz]; omega) v (by simpa using hv) w) (fun e w' ⟨he, hw⟩ => by
      subst he
      refine ⟨rfl, ?_⟩
      rcases hw with rfl | ⟨b, rfl⟩
      · exact Kept.refl _ _
      · exact bytes_kept _ _ _)
  rcases Nat.lt_or_ge 1000000000 (Sp.digits t) with hb | hb
  · rcases h2 hb with h3 | ⟨v, hv, h3⟩
    · obtain ⟨te, pe, c, ty, fr, e1, e2⟩ := hI
      have hc : w.cell? ⟨5, 0, none⟩ = some (.iface te pe) := cell_of (hm.inv _ _ e1) e2
      exact Calls.mono (Tryz.strconv_Atoi_range ⟨t.toArray⟩ (by rw [hsz]; omega) (by simpa using h3) _ w hc (.inr ⟨te, pe, rfl⟩)) (fun e w' ⟨n, he, _, _, hw⟩ => by
        subst he
        exact ⟨I, [], ⟨rfl, rfl, .inr ⟨hb, _, _, rfl, .inr ⟨_, _, rfl⟩⟩⟩, hm.kept0 (Kept.of_below hw)⟩)
    · exact Calls.mono (okc v h3) (fun e w' q => by
        cases e with
        | returned u => exact ⟨I, [], ⟨rfl, rfl, .inr ⟨hb, v, .nilIface, q.1, .inl ⟨rfl, hv⟩⟩⟩, hm.kept0 q.2⟩
        | panicked c => exact q.elim
        | outgrown => exact q.elim)
  · exact Calls.mono (okc _ (h1 hb)) (fun e w' q => by
      cases e with
      | returned u => exact ⟨I, [], ⟨rfl, rfl, .inl ⟨hb, q.1⟩⟩, hm.kept0 q.2⟩
      | panicked c => exact q.elim
      | outgrown => exact q.elim)
end Go.Proofs.YthmdffgiockcbaaGreatDoor
end
section
namespace Go.Fw
open Go
section
variable {P : Program} {N : Nat} {ds : List Deferred} {Q : Exit → Act → World → Prop} {l : Log} {w : World} {ops : Array Oper} {os : List Oper}
variable {d : Nat} {ty : TypeId} {pos : String} {af : Array Edge} {g : Option (Nat × Bool)} {t t' : TypeId} {x y : Operand}
theorem op_neq_held {te : TypeId} {pe : Value} {c : Value} (hw : want ops l ⟨some d, .binOp .neq t x (.const c) t', ty, pos, af, g⟩ = some true) (hN : Nat.blt d N = true)
    (hx : ev l x = some (.iface te pe)) (hc : c = .nilIface) (ht : P.underlying t = some (.interface (P.methodsAt t))) (k : WL P N ds ops Q os ((d, .bool true) :: l) w) :
    WL P N ds ops Q (⟨some d, .binOp .neq t x (.const c) t', ty, pos, af, g⟩ :: os) l w :=
  wl_value rfl hw hN (fun a ha => by
    subst hc
    have h := run_neq_held_nil (P := P) w t te pe ht
    have e2 : a.eval (.const .nilIface) = .nilIface := rfl
    simp [execOp, ha.ev hx, e2, eqGuard, h]) k
theorem op_neq_none {c : Value} (hw : want ops l ⟨some d, .binOp .neq t x (.const c) t', ty, pos, af, g⟩ = some true) (hN : Nat.blt d N = true)
    (hx : ev l x = some .nilIface) (hc : c = .nilIface) (ht : P.underlying t = some (.interface (P.methodsAt t))) (k : WL P N ds ops Q os ((d, .bool false) :: l) w) :
    WL P N ds ops Q (⟨some d, .binOp .neq t x (.const c) t', ty, pos, af, g⟩ :: os) l w :=
  wl_value rfl hw hN (fun a ha => by
    subst hc
    have h := run_equal_nil_nil (P := P) w t ht
    have e2 : a.eval (.const .nilIface) = .nilIface := rfl
    simp [execOp, ha.ev hx, e2, eqGuard, binOp, h]) k
end
end Go.Fw
namespace Go.Proofs.YthmdffgiockcbaaGreatDoor
open Go.Fw
section
variable {I : Imm} {pb deep lc dc b1 : Nat} {la da : Option Addr} {T : Sp.Src} {E : Ent} {R : List HItem} {w : World} {s : Sp.St}
theorem p_decA (hdp : deep ≤ 12) (hm : Mem E I (.cell b1 [ptr pb] 180 :: qObj pb la lc T s (deep + 1) da dc :: R) w) :
    CalD Tryz.prog 204 #[ptr b1] w (fun w' => Mem E I (.cell b1 [ptr pb] 180 :: qObj pb la lc T s deep da dc :: R) w') := by
  refine enterD (N := 8) Tryz.func204 rfl [(0, ptr b1)] args1 rfl ?_
  have hsub : (((deep + 1 : Nat) : Int)) - 1 = (deep : Int) := by omega
  repeat' (first|(refine op_sub (k:=?_); rw [hsub])|refine m_load1 hm (k:=?_)|(refine m_store1 hm (k:=?_); clear hm; intro _ hm; try simp only [setn] at hm)|refine op_nilCheck (k:=?_)|refine op_fieldAddr (k:=?_)|refine wl_nil ?_|refine wc_region ?_|refine at_end0 (h:=?_))
  exact hm
theorem p_decB (hdp : deep ≤ 12) (hm : Mem E I (.cell b1 [ptr pb] 180 :: qObj pb la lc T s (deep + 1) da dc :: R) w) :
    CalD Tryz.prog 164 #[ptr b1] w (fun w' => Mem E I (.cell b1 [ptr pb] 180 :: qObj pb la lc T s deep da dc :: R) w') := by
  refine enterD (N := 8) Tryz.func164 rfl [(0, ptr b1)] args1 rfl ?_
  have hsub : (((deep + 1 : Nat) : Int)) - 1 = (deep : Int) := by omega
  repeat' (first|(refine op_sub (k:=?_); rw [hsub])|refine m_load1 hm (k:=?_)|(refine m_store1 hm (k:=?_); clear hm; intro _ hm; try simp only [setn] at hm)|refine op_nilCheck (k:=?_)|refine op_fieldAddr (k:=?_)|refine wl_nil ?_|refine wc_region ?_|refine at_end0 (h:=?_))
  exact hm
end
end Go.Proofs.YthmdffgiockcbaaGreatDoor
end
