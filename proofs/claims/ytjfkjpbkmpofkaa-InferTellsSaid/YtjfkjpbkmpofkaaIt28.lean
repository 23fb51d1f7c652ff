/- Own work: texts RpG, one behind the other. -/
import Derived.Test.YtjfkjpbkmpofkaaIt27
section
namespace Go.Proofs.Ytjfkjpbkmpofkaa
open Go.Fw
structure BlX where
  f : Nat
  l : List Sp.Stm
  n : Nat
  s : Sp.St
  I : Imm
  a : Option Addr
  cp : Nat
  xs : List Value
  da : Option Addr
  dc : Nat
  R : List HItem
set_option maxHeartbeats 4000000 in
theorem c_block_step (T : Sp.Src) (pb : Nat) (hT : Ok T) (n : Nat) (ih : ∀ g, g < n → StmC T pb g) : BlockC T pb n := by
  intro I la lc deep da dc s hr hi hf hd hdp
  obtain ⟨f, rfl⟩ : ∃ f, n = f + 1 := ⟨n - 1, by omega⟩
  have h2 := hT.size
  have h3 := hT.len
  have hn := fun da dc => c_need (pb := pb) (deep := deep) (da := da) (dc := dc) s [123] hr hT (by omega) hi
  rw [Sp.block]
  rw [Sp.St.need] at hn
  dsimp only
  by_cases hopen : T.is s.i [123] = true
  case neg =>
    rw [if_neg hopen] at hn
    rw [show T.is s.i [123] = false by simpa using hopen, if_pos (by rfl)]
    refine CalM.of fun w E hm => enter (N := 85) Try.func63 rfl [(0, ptr pb), (1, nt s.i)] args2 rfl ?_
    repeat' (first
    | (refine m_call hm (hc:=hn _ _) (k:=?_); clear hm; rintro _ _ _ _ ⟨rfl, rfl, da', dc', rfl⟩ hle hm; try simp only [setn] at hm)
    | refine op_move (k:=?_)
    | refine op_assign (k:=?_)
    | refine op_not (k:=?_)
    | refine op_extract (k:=?_)
    | refine wl_nil ?_
    | refine at_then_normal ?_
    | refine at_then_ret ?_
    | refine wc_seq ?_
    | refine wc_region ?_
    | refine wc_ret ?_
    | refine at_ret2 (h:=?_)
    | refine wc_cond_true (ht:=?_))
    exact ⟨I, _, ⟨⟨none, 0, [], rfl, st_row0 _, .nil⟩, da', dc', rfl⟩, hm⟩
  rw [if_pos hopen] at hn
  rw [hopen, if_neg (by simp)]
  have hlt := Sp.is_lt hopen
  by_cases hdeep : 12 ≤ deep
  · rw [if_pos hdeep]
    refine CalM.of fun w E hm => enter (N := 85) Try.func63 rfl [(0, ptr pb), (1, nt s.i)] args2 rfl ?_
    repeat' (first
    | (refine m_call hm (hc:=hn _ _) (k:=?_); clear hm; rintro _ _ _ _ ⟨rfl, rfl, da', dc', rfl⟩ hle hm; try simp only [setn] at hm)
    | (refine m_call hm (hc:=c_bad s.next.i 12 hr hT (by rw [Sp.next_ds]; omega)) (k:=?_); clear hm; rintro _ _ _ _ ⟨rfl, rfl, da2, dc2, rfl⟩ hle hm; try simp only [setn] at hm)
    | refine m_load1 hm (k:=?_)
    | refine op_move (k:=?_)
    | refine op_assign (k:=?_)
    | refine op_geq (k:=?_)
    | refine op_not (k:=?_)
    | refine op_extract (k:=?_)
    | refine op_nilCheck (k:=?_)
    | refine op_fieldAddr (k:=?_)
    | refine wl_nil ?_
    | refine at_then_normal ?_
    | refine at_then_ret ?_
    | refine wc_seq ?_
    | refine wc_region ?_
    | refine wc_skip ?_
    | refine wc_ret ?_
    | refine at_ret2 (h:=?_)
    | refine wc_cond_false (hf:=?_)
    | (refine wc_cond_dec (ht:=fun _ => ?_) (hf:=fun _ => ?_)<;> (try first | contradiction | (exfalso; omega))))
    exact ⟨I, _, ⟨⟨none, 0, [], rfl, st_row0 _, .nil⟩, da2, dc2, rfl⟩, hm⟩
  rw [if_neg hdeep]
  have hg := (Sp.goes_block T f).2.1 (deep + 1) [] s.next
  have hg1 := hg.le
  have hg2 := hg.top (by rw [Sp.next_i]; omega)
  have hg3 := hg.ds
  rw [Sp.next_i] at hg1 hg3
  rw [Sp.next_ds] at hg3
  obtain ⟨R, hR⟩ : ∃ R, R = Sp.stmL T f (deep + 1) [] s.next := ⟨_, rfl⟩
  rw [← hR] at hg hg1 hg2 hg3 ⊢
  have hsub : (((deep + 1 : Nat) : Int)) - 1 = (deep : Int) := by omega
  refine CalM.of fun w E hm => enter (N := 85) Try.func63 rfl [(0, ptr pb), (1, nt s.i)] args2 rfl ?_
  repeat' (first
  | (refine m_call hm (hc:=hn _ _) (k:=?_); clear hm; rintro _ _ _ _ ⟨rfl, rfl, da', dc', rfl⟩ hle hm; try simp only [setn] at hm)
  | refine m_load1 hm (k:=?_)
  | (refine m_store1 hm (k:=?_); clear hm; intro _ hm; try simp only [setn] at hm)
  | refine op_move (k:=?_)
  | refine op_assign (k:=?_)
  | refine op_geq (k:=?_)
  | refine op_not (k:=?_)
  | refine op_extract (k:=?_)
  | refine op_nilCheck (k:=?_)
  | refine op_add (k:=?_)
  | refine op_fieldAddr (k:=?_)
  | refine wl_nil ?_
  | refine at_then_normal ?_
  | refine wc_seq ?_
  | refine wc_region ?_
  | refine wc_block ?_
  | refine wc_skip ?_
  | refine wc_cond_false (hf:=?_)
  | (refine wc_cond_dec (ht:=fun _ => ?_) (hf:=fun _ => ?_)<;> (try first | contradiction | (exfalso; omega))))
  have hm := hm.nil 113 15
  refine wc_loop (fun x : BlX => [(0, ptr pb), (1, nt x.s.i), (7, .slice x.a x.n x.cp)])
    (fun x w' => Mem E x.I [pObj pb la lc T x.s.ds (deep + 1) x.da x.dc, dgRow x.s.ds x.da x.dc, .row (.slice x.a x.n x.cp) 113 15 x.n x.xs] w' ∧
      Le I x.I ∧ StsAt x.I x.l x.xs ∧ x.l.length = x.n ∧ x.n ≤ 40 ∧ x.f ≤ f ∧ x.s.i ≤ T.l.length ∧ x.s.ds.length + 8 * (T.l.length - x.s.i) ≤ s.ds.length + 8 * (T.l.length - s.i) ∧
      Sp.stmL T x.f (deep + 1) x.l x.s = R ∧ 5 * (T.l.length - x.s.i) + 6 ≤ x.f)
    (fun x => T.l.length - x.s.i) ⟨f, [], 0, s.next, I, none, 0, [], da', dc', []⟩ (by exact ⟨rfl, rfl, rfl, trivial⟩) ⟨hm.perm pm2_1, Le.refl _, .nil, rfl, by dsimp only; omega, Nat.le_refl _, by dsimp only; rw [Sp.next_i]; omega, by dsimp only; rw [Sp.next_i, Sp.next_ds]; omega, hR.symm, by dsimp only; rw [Sp.next_i]; omega⟩ ?_
  clear hm hn
  rintro ⟨f1, l1, n1, s1, I1, a1, cp1, xs1, da1, dc1, _⟩ w2 ⟨hm, hle0, hsts, hn1, hn40, hff, hi1, hd1, hL, hf1⟩
  dsimp only at hm hle0 hsts hn1 hn40 hff hi1 hd1 hL hf1 ⊢
  have hr1 := hr.le hle0
  obtain ⟨f1, rfl⟩ : ∃ f', f1 = f' + 1 := ⟨f1 - 1, by omega⟩
  rw [Sp.stmL] at hL
  have hq := fun ds deep da dc => c_is (pb := pb) (ds := ds) (deep := deep) (da := da) (dc := dc) s1.i [125] hr1
  by_cases hend : T.l.length ≤ s1.i ∨ T.is s1.i [125] = true
  · rw [if_pos hend] at hL
    subst hL
    have hg4 := (Sp.goes_need T s1 [125]).top hi1
    by_cases hlt1 : T.l.length ≤ s1.i
    · skip
      repeat' (first
      | (refine m_call hm (hc:=c_need s1 [125] hr1 hT (by omega) hi1) (k:=?_); clear hm; rintro _ _ _ _ ⟨rfl, rfl, da2, dc2, rfl⟩ hle hm; try simp only [setn] at hm)
      | (refine op_sub (k:=?_); rw [hsub])
      | refine m_load1 hm (k:=?_)
      | (refine m_store1 hm (k:=?_); clear hm; intro _ hm; try simp only [setn] at hm)
      | refine op_move (k:=?_)
      | refine op_assign (k:=?_)
      | refine op_pick_false (k:=?_)
      | refine op_lss (k:=?_)
      | refine op_len_slice (k:=?_)
      | refine op_extract (k:=?_)
      | refine op_nilCheck (k:=?_)
      | refine op_fieldAddr (k:=?_)
      | refine wl_skip (k:=?_)
      | (refine wl_split_dec (h1:=fun _ => ?_) (h0:=fun _ => ?_)<;> (try first | contradiction | (exfalso; omega)))
      | refine wl_nil ?_
      | refine at_then_normal ?_
      | refine at_then_exit ?_
      | refine at_block_exit ?_
      | refine wc_seq ?_
      | refine wc_region ?_
      | refine wc_exit ?_
      | refine wc_ret ?_
      | refine at_ret2 (h:=?_)
      | refine wc_cond_false (hf:=?_))
      all_goals try (exfalso; omega)
      subst hn1
      obtain ⟨I3, hle3, hm3, hrow3⟩ := (hm.perm pm1_2).freeze
      exact ⟨I3, _, ⟨⟨a1, cp1, xs1, rfl, hrow3, StsAt.le hle3 _ _ hsts⟩, da2, dc2, rfl⟩, hm3⟩
    · rw [hend.resolve_left hlt1] at hq
      repeat' (first
      | (refine m_readC hm (hc:=hq _ _ _ _) (k:=?_); clear hm; intro _ hm)
      | (refine m_call hm (hc:=c_need s1 [125] hr1 hT (by omega) hi1) (k:=?_); clear hm; rintro _ _ _ _ ⟨rfl, rfl, da2, dc2, rfl⟩ hle hm; try simp only [setn] at hm)
      | (refine op_sub (k:=?_); rw [hsub])
      | refine m_load1 hm (k:=?_)
      | (refine m_store1 hm (k:=?_); clear hm; intro _ hm; try simp only [setn] at hm)
      | refine op_move (k:=?_)
      | refine op_assign (k:=?_)
      | refine op_pick_true (k:=?_)
      | refine op_lss (k:=?_)
      | refine op_len_slice (k:=?_)
      | refine op_not (k:=?_)
      | refine op_extract (k:=?_)
      | refine op_nilCheck (k:=?_)
      | refine op_fieldAddr (k:=?_)
      | (refine wl_split_dec (h1:=fun _ => ?_) (h0:=fun _ => ?_)<;> (try first | contradiction | (exfalso; omega)))
      | refine wl_nil ?_
      | refine at_then_normal ?_
      | refine at_then_exit ?_
      | refine at_block_exit ?_
      | refine wc_seq ?_
      | refine wc_region ?_
      | refine wc_exit ?_
      | refine wc_ret ?_
      | refine at_ret2 (h:=?_)
      | refine wc_cond_false (hf:=?_))
      all_goals try (exfalso; omega)
      subst hn1
      obtain ⟨I3, hle3, hm3, hrow3⟩ := (hm.perm pm1_2).freeze
      exact ⟨I3, _, ⟨⟨a1, cp1, xs1, rfl, hrow3, StsAt.le hle3 _ _ hsts⟩, da2, dc2, rfl⟩, hm3⟩
  rw [if_neg hend] at hL
  have hlt1 : s1.i < T.l.length := by omega
  rw [show T.is s1.i [125] = false by simpa using fun h => hend (.inr h)] at hq
  by_cases h40 : 40 ≤ l1.length
  · rw [if_pos h40] at hL
    subst hL
    have hg4 := (Sp.goes_need T (s1.bad T 5) [125]).top hi1
    have hbd : (s1.bad T 5).ds.length = s1.ds.length + 1 := by simp [Sp.St.bad]
    repeat' (first
    | (refine m_readC hm (hc:=hq _ _ _ _) (k:=?_); clear hm; intro _ hm)
    | (refine m_call hm (hc:=c_bad s1.i 5 hr1 hT (by omega)) (k:=?_); clear hm; rintro _ _ _ _ ⟨rfl, rfl, da3, dc3, rfl⟩ hle hm; try simp only [setn] at hm)
    | (refine m_call hm (hc:=c_need (s1.bad T 5) [125] hr1 hT (by omega) hi1) (k:=?_); clear hm; rintro _ _ _ _ ⟨rfl, rfl, da2, dc2, rfl⟩ hle hm; try simp only [setn] at hm)
    | (refine op_sub (k:=?_); rw [hsub])
    | refine m_load1 hm (k:=?_)
    | (refine m_store1 hm (k:=?_); clear hm; intro _ hm; try simp only [setn] at hm)
    | refine op_move (k:=?_)
    | refine op_assign (k:=?_)
    | refine op_pick_true (k:=?_)
    | refine op_lss (k:=?_)
    | refine op_geq (k:=?_)
    | refine op_len_slice (k:=?_)
    | refine op_not (k:=?_)
    | refine op_extract (k:=?_)
    | refine op_nilCheck (k:=?_)
    | refine op_fieldAddr (k:=?_)
    | (refine wl_split_dec (h1:=fun _ => ?_) (h0:=fun _ => ?_)<;> (try first | contradiction | (exfalso; omega)))
    | refine wl_nil ?_
    | refine at_then_normal ?_
    | refine at_then_exit ?_
    | refine at_block_exit ?_
    | refine at_block_other (h:=?_)
    | refine wc_seq ?_
    | refine wc_region ?_
    | refine wc_block ?_
    | refine wc_skip ?_
    | refine wc_exit ?_
    | refine wc_ret ?_
    | refine at_ret2 (h:=?_)
    | refine wc_cond_true (ht:=?_)
    | (refine wc_cond_dec (ht:=fun _ => ?_) (hf:=fun _ => ?_)<;> (try first | contradiction | (exfalso; omega))))
    all_goals try (exfalso; omega)
    subst hn1
    obtain ⟨I3, hle3, hm3, hrow3⟩ := (hm.perm pm1_2).freeze
    exact ⟨I3, _, ⟨⟨a1, cp1, xs1, rfl, hrow3, StsAt.le hle3 _ _ hsts⟩, da2, dc2, rfl⟩, hm3⟩
  rw [if_neg h40] at hL
  dsimp only at hL
  have hst := fun da dc => ih f1 (by omega) I1 la lc (deep + 1) da dc s1 hr1 hi1 (by omega) (by omega) (by omega)
  have hgr := (Sp.goes_block T f1).2.2 (deep + 1) s1
  generalize Sp.stm T f1 (deep + 1) s1 = r at hL hst hgr
  have hgr1 := hgr.le
  have hgr2 := hgr.top hi1
  have hgr3 := hgr.ds0
  have hgr4 := hgr.ds1
  have hnl : (l1 ++ [r.1]).length = n1 + 1 := by simp [hn1]
  have hni : r.2.next.i = r.2.i + 1 := rfl
  have hnd : r.2.next.ds.length = r.2.ds.length := rfl
  repeat' (first
  | (refine m_readC hm (hc:=hq _ _ _ _) (k:=?_); clear hm; intro _ hm)
  | (refine m_call hm (hc:=hst _ _) (k:=?_); clear hm; rintro _ I2 _ _ ⟨⟨ea, ec, ex, a3, c3, xs3, a4, c4, xs4, rfl, hrow, hexs, hrow3, hsts3, hrow4, hsts4⟩, da', dc', rfl⟩ hle hm; have hleI2 := hle; try simp only [setn] at hm)
  | (refine m_varS (d:=8) hm (k:=?_); clear hm; intro b8 _ hm)
  | (refine m_push (d:=63) hm (k:=?_); clear hm; intro a63 cp63 _ _ hm; try simp only [setn] at hm)
  | refine m_load1 hm (k:=?_)
  | refine m_loadAll hm (k:=?_)
  | refine op_move (k:=?_)
  | refine op_assign (k:=?_)
  | refine op_pick_true (k:=?_)
  | refine op_lss (k:=?_)
  | refine op_geq (k:=?_)
  | refine op_eql (k:=?_)
  | refine op_len_slice (k:=?_)
  | refine op_not (k:=?_)
  | refine op_extract (k:=?_)
  | refine op_nilCheck (k:=?_)
  | refine op_add (k:=?_)
  | refine op_fieldAddr (k:=?_)
  | (refine wl_split_dec (h1:=fun _ => ?_) (h0:=fun _ => ?_)<;> (try first | contradiction | (exfalso; omega)))
  | refine wl_nil ?_
  | refine at_then_normal ?_
  | refine at_block_normal ?_
  | refine wc_seq ?_
  | refine wc_region ?_
  | refine wc_block ?_
  | refine wc_skip ?_
  | refine wc_cond_true (ht:=?_)
  | (refine wc_cond_dec (ht:=fun _ => ?_) (hf:=fun _ => ?_)<;> (try first | contradiction | (exfalso; omega))))
  all_goals try (exfalso; omega)
  · rename_i hsame
    have hsame : r.2.i = s1.i := by omega
    rw [if_pos hsame] at hL
    have := hgr3 hsame
    exact at_round (⟨f1, l1 ++ [r.1], n1 + 1, r.2.next, I2, _, _, _, da', dc', []⟩ : BlX) (by exact ⟨rfl, rfl, rfl, trivial⟩) ⟨hm.tl, hle0.trans hleI2, (StsAt.le hleI2 _ _ hsts).snoc (stAt_cells hrow hexs hrow3 hsts3 hrow4 hsts4), hnl, by dsimp only; omega, by dsimp only; omega, by dsimp only; omega, by dsimp only; omega, hL, by dsimp only; omega⟩ (by dsimp only; omega)
  · rename_i hsame
    have hsame : ¬ r.2.i = s1.i := by omega
    rw [if_neg hsame] at hL
    have := hgr4 (by omega)
    exact at_round (⟨f1, l1 ++ [r.1], n1 + 1, r.2, I2, _, _, _, da', dc', []⟩ : BlX) (by exact ⟨rfl, rfl, rfl, trivial⟩) ⟨hm.tl, hle0.trans hleI2, (StsAt.le hleI2 _ _ hsts).snoc (stAt_cells hrow hexs hrow3 hsts3 hrow4 hsts4), hnl, by dsimp only; omega, by dsimp only; omega, hgr2, by dsimp only; omega, hL, by dsimp only; omega⟩ (by dsimp only; omega)
theorem c_stm_step (T : Sp.Src) (pb : Nat) (hT : Ok T) (n : Nat) (ih : ∀ g, g < n → BlockC T pb g) : StmC T pb n := by
  intro I la lc deep da dc s hr hi hf hd hdp
  obtain ⟨f, rfl⟩ : ∃ f, n = f + 1 := ⟨n - 1, by omega⟩
  have ihb : ∀ g, g ≤ f → BlockC T pb g := fun g hg => ih g (by omega)
  by_cases h1 : (T.tok s.i).text = [108, 101, 116]
  · cases h6 : T.is (s.next.named T).2.i [58] with
    | true => exact st_let1 hT hr hi hf hd hdp h1 h6
    | false => exact st_let0 hT hr hi hf hd hdp h1 h6
  by_cases h2 : (T.tok s.i).text = [105, 102]
  · cases h6 : T.is (Sp.block T f deep (Sp.expr T f deep 1 s.next).2).2.i [101, 108, 115, 101] with
    | true => exact st_if1 hT hr hi hf hd hdp ihb h2 h6
    | false => exact st_if0 hT hr hi hf hd hdp ihb h2 h6
  by_cases h3 : (T.tok s.i).text = [119, 104, 105, 108, 101]
  · exact st_while hT hr hi hf hd hdp ihb h3
  by_cases h4 : (T.tok s.i).text = [115, 101, 110, 100]
  · exact st_send hT hr hi hf hd hdp h4
  by_cases h5 : (T.tok s.i).text = [114, 101, 116, 117, 114, 110]
  · exact st_back hT hr hi hf hd hdp h5
  cases h6 : Sp.name (T.tok s.i).text with
  | false => exact st_bad hT hr hi hf hd hdp h1 h2 h3 h4 h5 h6
  | true =>
    cases h7 : T.is (s.i + 1) [61] with
    | true => exact st_set hT hr hi hf hd hdp h1 h2 h3 h4 h5 h6 h7
    | false => exact st_do hT hr hi hf hd hdp h1 h2 h3 h4 h5 h6 h7
/-- the reference's parser reads statements as 'Sp.stm' and 'Sp.block' do. -/
theorem c_stmblock (T : Sp.Src) (pb : Nat) (hT : Ok T) (n : Nat) : StmC T pb n ∧ BlockC T pb n := by
  induction n using Nat.strongRecOn with
  | _ n ih => exact ⟨c_stm_step T pb hT n (fun g hg => (ih g hg).2), c_block_step T pb hT n (fun g hg => (ih g hg).1)⟩
end Go.Proofs.Ytjfkjpbkmpofkaa
end
