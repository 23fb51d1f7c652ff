/- Own work: texts PpG, PpH, PpI, one behind the other. -/
import Derived.Test.YthmdffgiockcbaaDoorIf12
section
namespace Go.Proofs.YthmdffgiockcbaaDoor
open Go.Fw
section
variable {T : Sp.Src} {pb f : Nat} {I : Imm} {la : Option Addr} {lc deep : Nat} {da : Option Addr} {dc : Nat} {s : Sp.St}
set_option maxHeartbeats 4000000 in
theorem pa_par (hT : Ok T) (hC : Conv I) (hr : TokR I T la lc) (hf : 3 * (T.l.length - s.i) + 2 ≤ f + 1) (ih : ExprQ T pb f)
    (hd : s.ds.length + 2 * (T.l.length - s.i) + 4 ≤ 1099511627776) (hend : s.i < T.l.length) (hdp : deep < 12) (hk : (T.tok s.i).kind ≠ 2) (hpar : (T.tok s.i).text = [40]) :
    CalM Tryd.prog 68 #[ptr pb] I (QSt pb la lc T s deep da dc) (ToQE pb la lc T deep ((Sp.expr T f (deep + 1) 1 s.next).1, ((Sp.expr T f (deep + 1) 1 s.next).2.need T [41]).2)) := by
  have h1 := hT.at_ s.i
  have h2 := hT.size
  have h3 := hT.len
  have htk := tok_get hend
  have hex := fun da dc => ih I la lc (deep + 1) da dc s.next 1 hC hr (by rw [Sp.next_i]; omega) (by rw [Sp.next_i]; omega) (by rw [Sp.next_i, Sp.next_ds]; omega) (by omega)
  have hg := (Sp.goes_expr T f).2.2.1 (deep + 1) 1 s.next
  generalize Sp.expr T f (deep + 1) 1 s.next = r at hex hg ⊢
  have hg1 := hg.le
  have hg2 := hg.top (by rw [Sp.next_i]; omega)
  have hg3 := hg.ds
  rw [Sp.next_i] at hg1 hg3
  rw [Sp.next_ds] at hg3
  refine CalM.of fun w E hm => enter_defers (N := 153) Tryd.func68 rfl [(0, ptr pb)] args1 rfl ?_
  repeat' (first
  | (refine m_readC hm (hc:=p_here s hr) (k:=?_); clear hm; intro _ hm)
  | (refine wc_semi_mem (id:=8) (hm.perm pm0) 10 11 (h:=?_); clear hm; intro wd hR hm)
  | (refine iw_indexFlat (hr:=by exact hr) (he:=by intro _; rfl) (hz:=by exact htk) (k:=?_); intro b1' o1 hp1)
  | (refine m_call hm (hc:=hex _ _) (k:=?_); clear hm; rintro _ I2 _ _ ⟨⟨ea, ec, xs, rfl, hrow, hexs⟩, da', dc', rfl⟩ hle hm; have hleI2 := hle; try simp only [setn] at hm)
  | (refine m_call hm (hc:=p_must r.2 [41] (by simp) (hr.le hleI2) hT (by omega) hg2) (k:=?_); clear hm; rintro _ _ _ _ ⟨rfl, rfl, da2, dc2, rfl⟩ hle hm; try simp only [setn] at hm)
  | refine mw_load1 hR (k:=?_)
  | refine iw_loadN hR (k:=?_)
  | (refine mt_allocS (d:=4) hm (k:=?_); clear hm; intro b4 _ hm)
  | (refine ws_nil ?_; replace hm := hR.back hm; clear hR; try simp only [setn] at hm)
  | (refine m_box (d:=1) hm (k:=?_); clear hm; intro b1 _ hm)
  | (refine m_allocS (d:=2) hm (k:=?_); clear hm; intro b2 _ hm)
  | (refine m_varS (d:=7) hm (k:=?_); clear hm; intro b7 _ hm)
  | refine m_load1 hm (k:=?_)
  | refine m_loadAll hm (k:=?_)
  | refine mq_load1 hm (k:=?_)
  | (refine m_storeAll hm (k:=?_); clear hm; intro _ hm; try simp only [setn] at hm)
  | (refine m_store1 hm (k:=?_); clear hm; intro _ hm; try simp only [setn] at hm)
  | refine op_assign (k:=?_)
  | refine op_eql (k:=?_)
  | refine op_eql_str (k:=?_)
  | refine op_nilCheck (k:=?_)
  | refine op_makeFunc (k:=?_)
  | refine op_add (k:=?_)
  | refine op_fieldAddr (k:=?_)
  | refine wl_nil ?_
  | refine at_then_normal ?_
  | refine at_then_ret ?_
  | refine at_block_ret ?_
  | refine wc_seq ?_
  | refine wc_region ?_
  | refine wc_block ?_
  | refine wc_skip ?_
  | refine wc_ret ?_
  | refine op_defer (k:=?_)
  | refine wc_quiet (h:=?_)
  | (refine wq_nil ?_; intro _ hkq; replace hm := hm.kept0 hkq; clear hkq)
  | (refine wc_cond_dec (ht:=fun _ => ?_) (hf:=fun _ => ?_)<;> (try first | contradiction | (exfalso; omega)))
  | refine q_eql (k:=?_)
  | refine q_len_slice (k:=?_)
  | refine q_nilCheck (k:=?_)
  | refine q_fieldAddr (k:=?_)
  | refine v_nilCheck (k:=?_)
  | refine v_fieldAddr (k:=?_)
  | refine wv_nil ?_)
  all_goals try (exfalso; first | omega | contradiction)
  exact p_retA (i := 2) (e := r.1) (s' := (r.2.need T [41]).2) (by omega) rfl (hm.front 5 rfl) rfl hrow hexs
set_option maxHeartbeats 4000000 in
theorem pa_var (hT : Ok T) (hr : TokR I T la lc) (_hi : s.i ≤ T.l.length) (_hd : s.ds.length + 4 ≤ 1099511627776) (hend : s.i < T.l.length) (hdp : deep < 12) (hk : (T.tok s.i).kind ≠ 2) (hp : (T.tok s.i).text ≠ [40]) (hname : Sp.name (T.tok s.i).text = true) (hopen : T.is (s.i + 1) [40] = false) :
    CalM Tryd.prog 68 #[ptr pb] I (QSt pb la lc T s deep da dc) (ToQE pb la lc T deep (.mk 2 (T.tok s.i).text 0 [] (T.tok s.i).pos ((T.tok s.i).pos + (T.tok s.i).text.length), s.next)) := by
  have h1 := hT.at_ s.i
  have h2 := hT.size
  have h3 := hT.len
  have htk := tok_get hend
  have hn := c_name (T.tok s.i).text (by omega)
  rw [hname] at hn
  have he := fun da dc => p_eat (pb := pb) (deep := deep + 1) (da := da) (dc := dc) s.next [40] (by simp) hr hT (by rw [Sp.next_i]; omega)
  rw [show T.is s.next.i [40] = false from hopen, if_neg (by simp)] at he
  have hen : T.endOf (s.i + 1) = (T.tok s.i).pos + (T.tok s.i).text.length := rfl
  have hls := fun da dc => p_last (pb := pb) (deep := deep + 1) (da := da) (dc := dc) s.next hr hT (by rw [Sp.next_i]; omega)
  rw [show T.endOf s.next.i = (T.tok s.i).pos + (T.tok s.i).text.length from hen] at hls
  refine CalM.of fun w E hm => enter_defers (N := 153) Tryd.func68 rfl [(0, ptr pb)] args1 rfl ?_
  repeat' (first
  | (refine m_readC hm (hc:=p_here s hr) (k:=?_); clear hm; intro _ hm)
  | (refine wc_semi_mem (id:=8) (hm.perm pm0) 10 11 (h:=?_); clear hm; intro wd hR hm)
  | (refine iw_indexFlat (hr:=by exact hr) (he:=by intro _; rfl) (hz:=by exact htk) (k:=?_); intro b1' o1 hp1)
  | (refine op_call (hc:=by exact hn _) (k:=?_); rintro _ _ ⟨rfl, hk⟩; replace hm := hm.kept0 hk)
  | (refine m_call hm (hc:=he _ _) (k:=?_); clear hm; rintro _ _ _ _ ⟨rfl, rfl, da', dc', rfl⟩ hle hm; try simp only [setn] at hm)
  | (refine m_readC hm (hc:=hls _ _) (k:=?_); clear hm; intro _ hm)
  | refine mw_load1 hR (k:=?_)
  | refine iw_loadN hR (k:=?_)
  | (refine mt_allocS (d:=4) hm (k:=?_); clear hm; intro b4 _ hm)
  | (refine ws_nil ?_; replace hm := hR.back hm; clear hR; try simp only [setn] at hm)
  | (refine m_box (d:=1) hm (k:=?_); clear hm; intro b1 _ hm)
  | (refine m_allocS (d:=2) hm (k:=?_); clear hm; intro b2 _ hm)
  | (refine m_varS (d:=8) hm (k:=?_); clear hm; intro b8 _ hm)
  | refine m_load1 hm (k:=?_)
  | refine m_loadAll hm (k:=?_)
  | refine mq_load1 hm (k:=?_)
  | (refine m_storeAll hm (k:=?_); clear hm; intro _ hm; try simp only [setn] at hm)
  | (refine m_store1 hm (k:=?_); clear hm; intro _ hm; try simp only [setn] at hm)
  | refine op_move (k:=?_)
  | refine op_assign (k:=?_)
  | refine op_eql (k:=?_)
  | refine op_eql_str (k:=?_)
  | refine op_not (k:=?_)
  | refine op_nilCheck (k:=?_)
  | refine op_makeFunc (k:=?_)
  | refine op_add (k:=?_)
  | refine op_fieldAddr (k:=?_)
  | refine op_struct (k:=?_)
  | refine wl_nil ?_
  | refine at_then_normal ?_
  | refine at_block_normal ?_
  | refine wc_seq ?_
  | refine wc_region ?_
  | refine wc_block ?_
  | refine wc_skip ?_
  | refine wc_ret ?_
  | refine op_defer (k:=?_)
  | refine wc_quiet (h:=?_)
  | (refine wq_nil ?_; intro _ hkq; replace hm := hm.kept0 hkq; clear hkq)
  | refine wc_cond_false (hf:=?_)
  | (refine wc_cond_dec (ht:=fun _ => ?_) (hf:=fun _ => ?_)<;> (try first | contradiction | (exfalso; omega)))
  | refine q_eql (k:=?_)
  | refine q_len_slice (k:=?_)
  | refine q_nilCheck (k:=?_)
  | refine q_fieldAddr (k:=?_)
  | refine v_nilCheck (k:=?_)
  | refine v_fieldAddr (k:=?_)
  | refine wv_nil ?_)
  all_goals try (exfalso; first | omega | contradiction)
  exact p_retA (i := 2) (e := .mk 2 (T.tok s.i).text 0 [] (T.tok s.i).pos ((T.tok s.i).pos + (T.tok s.i).text.length)) (s' := s.next) (by omega) rfl (hm.front 5 rfl) rfl (ex0_row _) .nil
end
end Go.Proofs.YthmdffgiockcbaaDoor
end
section
namespace Go.Proofs.YthmdffgiockcbaaDoor
open Go.Fw
structure QArg where
  f : Nat
  l : List Sp.Ex
  n : Nat
  s : Sp.St
  I : Imm
  a : Option Addr
  cp : Nat
  xs : List Value
  da : Option Addr
  dc : Nat
section
variable {T : Sp.Src} {pb f : Nat} {I : Imm} {la : Option Addr} {lc deep : Nat} {da : Option Addr} {dc : Nat} {s : Sp.St}
set_option maxHeartbeats 8000000 in
theorem pa_call (hT : Ok T) (hC : Conv I) (hr : TokR I T la lc) (hf : 3 * (T.l.length - s.i) + 2 ≤ f + 1) (ih : ∀ g, g < f → ExprQ T pb g)
    (hd : s.ds.length + 2 * (T.l.length - s.i) + 4 ≤ 1099511627776) (hdp : deep < 12) (hk : (T.tok s.i).kind ≠ 2) (hpar : (T.tok s.i).text ≠ [40]) (hname : Sp.name (T.tok s.i).text = true) (hopen : T.is (s.i + 1) [40] = true) :
    CalM Tryd.prog 68 #[ptr pb] I (QSt pb la lc T s deep da dc) (ToQE pb la lc T deep
      (.mk 4 (T.tok s.i).text 0 (Sp.argL T f (deep + 1) [] s.next.next).1 (T.tok s.i).pos (T.endOf ((Sp.argL T f (deep + 1) [] s.next.next).2.need T [41]).2.i), ((Sp.argL T f (deep + 1) [] s.next.next).2.need T [41]).2)) := by
  have h1 := hT.at_ s.i
  have h2 := hT.size
  have h3 := hT.len
  have hlt := Sp.is_lt hopen
  have hend : s.i < T.l.length := by omega
  have htk := tok_get hend
  have hn := c_name (T.tok s.i).text (by omega)
  rw [hname] at hn
  have he := fun da dc => p_eat (pb := pb) (deep := deep + 1) (da := da) (dc := dc) s.next [40] (by simp) hr hT (by rw [Sp.next_i]; omega)
  rw [show T.is s.next.i [40] = true from hopen, if_pos (by rfl)] at he
  have hg := (Sp.goes_expr T f).2.1 (deep + 1) [] s.next.next
  have hg1 := hg.le
  have hg2 := hg.top (by rw [Sp.next_i, Sp.next_i]; omega)
  have hg3 := hg.ds
  have hAi : s.next.next.i = s.i + 1 + 1 := rfl
  have hAd : s.next.next.ds = s.ds := rfl
  obtain ⟨R, hR⟩ : ∃ R, R = Sp.argL T f (deep + 1) [] s.next.next := ⟨_, rfl⟩
  rw [← hR] at hg hg1 hg2 hg3 ⊢
  have hg4 := (Sp.goes_need T R.2 [41]).top hg2
  have nmi : s.next.i ≤ T.l.length := by rw [Sp.next_i]; omega
  refine CalM.of fun w E hm => enter_defers (N := 153) Tryd.func68 rfl [(0, ptr pb)] args1 rfl ?_
  repeat' (first
  | (refine wc_midb 1 (fun _ : QArg => [(0, ptr pb), (1, ptr b1), (2, ptr b2), (3, nt (T.tok s.i).pos), (4, ptr b4), (8, ptr b8)]) (fun x w' => Mem E x.I [qObj pb la lc T R.2 (deep + 1) x.da x.dc, dgRow R.2.ds x.da x.dc, argRow x.n x.a x.cp x.xs, .cell b8 [nt 4, str (T.tok s.i).text, nt 0, .slice x.a x.n x.cp, nt 0, nt 0] 41, .cell b4 (encTok (T.tok s.i)) 93, .cell b2 ex0 41, .cell b1 [ptr pb] 94] w' ∧ Le I x.I ∧ ExsAt x.I R.1 x.xs ∧ R.1.length = x.n) ?_ ?_)
  | (refine m_readC hm (hc:=p_here s hr) (k:=?_); clear hm; intro _ hm)
  | (refine wc_semi_mem (id:=8) (hm.perm pm0) 10 11 (h:=?_); clear hm; intro wd hR hm)
  | (refine iw_indexFlat (hr:=by exact hr) (he:=by intro _; rfl) (hz:=by exact htk) (k:=?_); intro b1' o1 hp1)
  | (refine op_call (hc:=by exact hn _) (k:=?_); rintro _ _ ⟨rfl, hk⟩; replace hm := hm.kept0 hk)
  | (refine m_call hm (hc:=he _ _) (k:=?_); clear hm; rintro _ _ _ _ ⟨rfl, rfl, da', dc', rfl⟩ hle hm; try simp only [setn] at hm)
  | refine mw_load1 hR (k:=?_)
  | refine iw_loadN hR (k:=?_)
  | (refine mt_allocS (d:=4) hm (k:=?_); clear hm; intro b4 _ hm)
  | (refine ws_nil ?_; replace hm := hR.back hm; clear hR; try simp only [setn] at hm)
  | (refine m_box (d:=1) hm (k:=?_); clear hm; intro b1 _ hm)
  | (refine m_allocS (d:=2) hm (k:=?_); clear hm; intro b2 _ hm)
  | (refine m_varS (d:=8) hm (k:=?_); clear hm; intro b8 _ hm)
  | refine m_load1 hm (k:=?_)
  | refine mq_load1 hm (k:=?_)
  | (refine m_storeAll hm (k:=?_); clear hm; intro _ hm; try simp only [setn] at hm)
  | (refine m_store1 hm (k:=?_); clear hm; intro _ hm; try simp only [setn] at hm)
  | refine op_assign (k:=?_)
  | refine op_eql (k:=?_)
  | refine op_eql_str (k:=?_)
  | refine op_not (k:=?_)
  | refine op_nilCheck (k:=?_)
  | refine op_makeFunc (k:=?_)
  | refine op_add (k:=?_)
  | refine op_fieldAddr (k:=?_)
  | refine op_struct (k:=?_)
  | refine wl_nil ?_
  | refine at_then_normal ?_
  | refine at_block_normal ?_
  | refine wc_seq ?_
  | refine wc_region ?_
  | refine wc_block ?_
  | refine wc_skip ?_
  | refine op_defer (k:=?_)
  | refine wc_quiet (h:=?_)
  | (refine wq_nil ?_; intro _ hkq; replace hm := hm.kept0 hkq; clear hkq)
  | refine wc_cond_true (ht:=?_)
  | refine wc_cond_false (hf:=?_)
  | (refine wc_cond_dec (ht:=fun _ => ?_) (hf:=fun _ => ?_)<;> (try first | contradiction | (exfalso; omega)))
  | refine q_eql (k:=?_)
  | refine q_len_slice (k:=?_)
  | refine q_nilCheck (k:=?_)
  | refine q_fieldAddr (k:=?_)
  | refine v_nilCheck (k:=?_)
  | refine v_fieldAddr (k:=?_)
  | refine wv_nil ?_)
  all_goals try (exfalso; first | omega | contradiction)
  · have hm2 := hm.nil 41 6
    clear hm
    refine wc_loop (fun _ : QArg => [(0, ptr pb), (1, ptr b1), (2, ptr b2), (3, nt (T.tok s.i).pos), (4, ptr b4), (8, ptr b8)])
      (fun x w' => Mem E x.I [qObj pb la lc T x.s (deep + 1) x.da x.dc, dgRow x.s.ds x.da x.dc, argRow x.n x.a x.cp x.xs, .cell b8 [nt 4, str (T.tok s.i).text, nt 0, .slice x.a x.n x.cp, nt 0, nt 0] 41, .cell b4 (encTok (T.tok s.i)) 93, .cell b2 ex0 41, .cell b1 [ptr pb] 94] w' ∧
        Le I x.I ∧ ExsAt x.I x.l x.xs ∧ x.l.length = x.n ∧ x.n ≤ 5 ∧ x.f ≤ f ∧ x.s.i ≤ T.l.length ∧ x.s.ds.length + 2 * (T.l.length - x.s.i) ≤ s.ds.length + 2 * (T.l.length - s.i) ∧
        Sp.argL T x.f (deep + 1) x.l x.s = R ∧ 3 * (T.l.length - x.s.i) + 4 ≤ x.f)
      (fun x => T.l.length - x.s.i) ⟨f, [], 0, s.next.next, I, none, 0, [], da', dc'⟩ (by exact ⟨rfl, rfl, rfl, rfl, rfl, rfl, trivial⟩)
      ⟨hm2.perm pm2_1, Le.refl _, .nil, rfl, by dsimp only; omega, Nat.le_refl _, by dsimp only; omega, by dsimp only; rw [hAd]; omega, hR.symm, by dsimp only; omega⟩ ?_
    clear hm2
    rintro ⟨f1, l1, n1, s1, I1, a1, cp1, xs1, da1, dc1⟩ w2 ⟨hm, hle0, hexs, hn1, hn5, hff, hi1, hd1, hL, hf1⟩
    dsimp only at hm hle0 hexs hn1 hn5 hff hi1 hd1 hL hf1 ⊢
    have hr1 := hr.le hle0
    have hC1 := hC.le hle0
    obtain ⟨f1, rfl⟩ : ∃ f', f1 = f' + 1 := ⟨f1 - 1, by omega⟩
    rw [Sp.argL] at hL
    by_cases hend1 : T.l.length ≤ s1.i ∨ T.is s1.i [41] = true
    · rw [if_pos hend1] at hL
      subst hL
      by_cases hl1 : T.l.length ≤ s1.i
      · have htt : T.tok s1.i = ⟨0, [], T.size⟩ := Sp.tok_end hl1
        have hpk := p_peek (pb := pb) (deep := deep + 1) (da := da1) (dc := dc1) s1 hr1
        rw [htt] at hpk
        repeat' (first
        | (refine mq_readC hm (hc:=hpk) (k:=?_))
        | refine mq_load1 hm (k:=?_)
        | refine at_then_normal ?_
        | refine at_then_exit ?_
        | refine at_block_exit ?_
        | refine wc_seq ?_
        | refine wc_exit ?_
        | refine wc_quiet (h:=?_)
        | (refine wq_nil ?_; intro _ hkq; replace hm := hm.kept0 hkq; clear hkq)
        | (refine wc_cond_dec (ht:=fun _ => ?_) (hf:=fun _ => ?_)<;> (try first | contradiction | (exfalso; omega)))
        | refine q_move (k:=?_)
        | refine q_pick_true (k:=?_)
        | refine q_lss (k:=?_)
        | refine q_neq_str (k:=?_)
        | refine q_len_slice (k:=?_)
        | refine q_nilCheck (k:=?_)
        | refine q_fieldAddr (k:=?_))
        all_goals try (exfalso; first | omega | contradiction)
        exact at_cut (⟨0, [], n1, s1, I1, a1, cp1, xs1, da1, dc1⟩ : QArg) (by exact ⟨rfl, rfl, rfl, rfl, rfl, rfl, trivial⟩) ⟨hm, hle0, hexs, hn1⟩
      · have e1 := hend1.resolve_left hl1
        have htt : (T.tok s1.i).text = [41] := by simp only [Sp.Src.is, Bool.and_eq_true, decide_eq_true_eq] at e1; exact e1.2
        have hpk := p_peek (pb := pb) (deep := deep + 1) (da := da1) (dc := dc1) s1 hr1
        rw [htt] at hpk
        repeat' (first
        | (refine mq_readC hm (hc:=hpk) (k:=?_))
        | refine mq_load1 hm (k:=?_)
        | refine at_then_normal ?_
        | refine at_then_exit ?_
        | refine at_block_exit ?_
        | refine wc_seq ?_
        | refine wc_exit ?_
        | refine wc_quiet (h:=?_)
        | (refine wq_nil ?_; intro _ hkq; replace hm := hm.kept0 hkq; clear hkq)
        | refine wc_cond_false (hf:=?_)
        | refine q_move (k:=?_)
        | refine q_pick_false (k:=?_)
        | refine q_neq_str (k:=?_)
        | refine wq_skip (k:=?_))
        all_goals try (exfalso; first | omega | contradiction)
        exact at_cut (⟨0, [], n1, s1, I1, a1, cp1, xs1, da1, dc1⟩ : QArg) (by exact ⟨rfl, rfl, rfl, rfl, rfl, rfl, trivial⟩) ⟨hm, hle0, hexs, hn1⟩
    rw [if_neg hend1] at hL
    have hlt1 : s1.i < T.l.length := by omega
    have htt : (T.tok s1.i).text ≠ [41] := fun e => hend1 (.inr (by simp [Sp.Src.is, hlt1, e]))
    have hpk := p_peek (pb := pb) (deep := deep + 1) (da := da1) (dc := dc1) s1 hr1
    by_cases h5 : l1.length = 5
    · rw [if_pos h5] at hL
      subst hL
      repeat' (first
      | (refine mq_readC hm (hc:=hpk) (k:=?_))
      | (refine m_call hm (hc:=p_tell s1 5 hr1 hT hi1 (by omega)) (k:=?_); clear hm; rintro _ _ _ _ ⟨rfl, rfl, da2, dc2, rfl⟩ hle hm; try simp only [setn] at hm)
      | refine m_load1 hm (k:=?_)
      | refine mq_load1 hm (k:=?_)
      | refine op_eql (k:=?_)
      | refine op_len_slice (k:=?_)
      | refine op_fieldAddr (k:=?_)
      | refine wl_nil ?_
      | refine at_then_normal ?_
      | refine at_then_exit ?_
      | refine at_block_exit ?_
      | refine at_block_other (h:=?_)
      | refine wc_seq ?_
      | refine wc_region ?_
      | refine wc_block ?_
      | refine wc_skip ?_
      | refine wc_exit ?_
      | refine wc_quiet (h:=?_)
      | (refine wq_nil ?_; intro _ hkq; replace hm := hm.kept0 hkq; clear hkq)
      | (refine wc_cond_dec (ht:=fun _ => ?_) (hf:=fun _ => ?_)<;> (try first | contradiction | (exfalso; omega)))
      | refine q_move (k:=?_)
      | refine q_pick_true (k:=?_)
      | refine q_lss (k:=?_)
      | refine q_neq_str (k:=?_)
      | refine q_len_slice (k:=?_)
      | refine q_nilCheck (k:=?_)
      | refine q_fieldAddr (k:=?_)
      | (refine wq_split_dec (h1:=fun _ => ?_) (h0:=fun _ => ?_)<;> (try first | contradiction | (exfalso; omega))))
      all_goals try (exfalso; first | omega | contradiction)
      exact at_cut (⟨0, [], n1, s1, I1, a1, cp1, xs1, da2, dc2⟩ : QArg) (by exact ⟨rfl, rfl, rfl, rfl, rfl, rfl, trivial⟩) ⟨hm, hle0, hexs, hn1⟩
    rw [if_neg h5] at hL
    dsimp only at hL
    have hex := fun da dc => ih f1 (by omega) I1 la lc (deep + 1) da dc s1 1 hC1 hr1 (by omega) (by omega) (by omega) (by omega)
    have hgr := (Sp.goes_expr T f1).2.2.1 (deep + 1) 1 s1
    generalize Sp.expr T f1 (deep + 1) 1 s1 = r at hL hex hgr
    have hgr1 := hgr.le
    have hgr2 := hgr.top hi1
    have hgr3 := hgr.ds
    have hnl : (l1 ++ [r.1]).length = n1 + 1 := by simp [hn1]
    have hn4 : n1 < 5 := by omega
    have hni : r.2.next.i = r.2.i + 1 := rfl
    have hnd : r.2.next.ds.length = r.2.ds.length := rfl
    have hea := fun (I : Imm) (hr : TokR I T la lc) da dc => p_eat (I := I) (pb := pb) (deep := deep + 1) (da := da) (dc := dc) r.2 [44] (by simp) hr hT hgr2
    by_cases hcomma : T.is r.2.i [44] = true
    · rw [if_pos hcomma] at hL
      rw [hcomma, if_pos (by rfl)] at hea
      have hlt2 := Sp.is_lt hcomma
      repeat' (first
      | (refine wc_semi_mem (id:=30) (hm.perm pm3_0) 3 6 (h:=?_); clear hm; intro wd hR hm)
      | (refine mq_readC hm (hc:=hpk) (k:=?_))
      | (refine mt_call hm (hc:=hex _ _) (k:=?_); clear hm; rintro _ I2 _ _ ⟨⟨ea, ec, xs, rfl, hrow, hexs2⟩, da2, dc2, rfl⟩ hle hm; have hleI2 := hle; try simp only [setn] at hm)
      | (refine m_call hm (hc:=hea _ (hr1.le hleI2) _ _) (k:=?_); clear hm; rintro _ _ _ _ ⟨rfl, rfl, da3, dc3, rfl⟩ hle hm; try simp only [setn] at hm)
      | refine mw_load1 hR (k:=?_)
      | (refine mt_push (d:=140) hm (k:=?_); clear hm; intro a140 cp140 _ _ hm; replace hm := hR.back hm; clear hR; try simp only [setn] at hm)
      | refine m_load1 hm (k:=?_)
      | refine mq_load1 hm (k:=?_)
      | (refine m_store1 hm (k:=?_); clear hm; intro _ hm; try simp only [setn] at hm)
      | refine op_eql (k:=?_)
      | refine op_len_slice (k:=?_)
      | refine op_not (k:=?_)
      | refine op_fieldAddr (k:=?_)
      | refine wl_nil ?_
      | refine at_then_normal ?_
      | refine at_block_normal ?_
      | refine wc_seq ?_
      | refine wc_region ?_
      | refine wc_block ?_
      | refine wc_skip ?_
      | refine wc_quiet (h:=?_)
      | (refine wq_nil ?_; intro _ hkq; replace hm := hm.kept0 hkq; clear hkq)
      | refine wc_cond_false (hf:=?_)
      | (refine wc_cond_dec (ht:=fun _ => ?_) (hf:=fun _ => ?_)<;> (try first | contradiction | (exfalso; omega)))
      | refine q_move (k:=?_)
      | refine q_pick_true (k:=?_)
      | refine q_lss (k:=?_)
      | refine q_neq_str (k:=?_)
      | refine q_len_slice (k:=?_)
      | refine q_nilCheck (k:=?_)
      | refine q_fieldAddr (k:=?_)
      | (refine wq_split_dec (h1:=fun _ => ?_) (h0:=fun _ => ?_)<;> (try first | contradiction | (exfalso; omega)))
      | refine v_fieldAddr (k:=?_)
      | refine wv_nil ?_)
      all_goals try (exfalso; first | omega | contradiction)
      exact at_round (⟨f1, l1 ++ [r.1], n1 + 1, r.2.next, I2, _, _, _, da3, dc3⟩ : QArg) (by exact ⟨rfl, rfl, rfl, rfl, rfl, rfl, trivial⟩) ⟨hm, hle0.trans hleI2, (ExsAt.le hleI2 _ _ hexs).snoc (exAt_cells hrow hexs2), hnl, by dsimp only; omega, by dsimp only; omega, by dsimp only; omega, by dsimp only; omega, hL, by dsimp only; omega⟩ (by dsimp only; omega)
    · rw [if_neg hcomma] at hL
      rw [show T.is r.2.i [44] = false by simpa using hcomma, if_neg (by simp)] at hea
      subst hL
      repeat' (first
      | (refine wc_semi_mem (id:=30) (hm.perm pm3_0) 3 6 (h:=?_); clear hm; intro wd hR hm)
      | (refine mq_readC hm (hc:=hpk) (k:=?_))
      | (refine mt_call hm (hc:=hex _ _) (k:=?_); clear hm; rintro _ I2 _ _ ⟨⟨ea, ec, xs, rfl, hrow, hexs2⟩, da2, dc2, rfl⟩ hle hm; have hleI2 := hle; try simp only [setn] at hm)
      | (refine m_call hm (hc:=hea _ (hr1.le hleI2) _ _) (k:=?_); clear hm; rintro _ _ _ _ ⟨rfl, rfl, da3, dc3, rfl⟩ hle hm; try simp only [setn] at hm)
      | refine mw_load1 hR (k:=?_)
      | (refine mt_push (d:=140) hm (k:=?_); clear hm; intro a140 cp140 _ _ hm; replace hm := hR.back hm; clear hR; try simp only [setn] at hm)
      | refine m_load1 hm (k:=?_)
      | refine mq_load1 hm (k:=?_)
      | (refine m_store1 hm (k:=?_); clear hm; intro _ hm; try simp only [setn] at hm)
      | refine op_eql (k:=?_)
      | refine op_len_slice (k:=?_)
      | refine op_not (k:=?_)
      | refine op_fieldAddr (k:=?_)
      | refine wl_nil ?_
      | refine at_then_normal ?_
      | refine at_then_exit ?_
      | refine at_block_exit ?_
      | refine at_block_other (h:=?_)
      | refine wc_seq ?_
      | refine wc_region ?_
      | refine wc_block ?_
      | refine wc_skip ?_
      | refine wc_exit ?_
      | refine wc_quiet (h:=?_)
      | (refine wq_nil ?_; intro _ hkq; replace hm := hm.kept0 hkq; clear hkq)
      | refine wc_cond_true (ht:=?_)
      | (refine wc_cond_dec (ht:=fun _ => ?_) (hf:=fun _ => ?_)<;> (try first | contradiction | (exfalso; omega)))
      | refine q_move (k:=?_)
      | refine q_pick_true (k:=?_)
      | refine q_lss (k:=?_)
      | refine q_neq_str (k:=?_)
      | refine q_len_slice (k:=?_)
      | refine q_nilCheck (k:=?_)
      | refine q_fieldAddr (k:=?_)
      | (refine wq_split_dec (h1:=fun _ => ?_) (h0:=fun _ => ?_)<;> (try first | contradiction | (exfalso; omega)))
      | refine v_fieldAddr (k:=?_)
      | refine wv_nil ?_)
      all_goals try (exfalso; first | omega | contradiction)
      exact at_cut (⟨0, [], n1 + 1, s1, I2, _, _, _, da3, dc3⟩ : QArg) (by exact ⟨rfl, rfl, rfl, rfl, rfl, rfl, trivial⟩) ⟨hm, hle0.trans hleI2, (ExsAt.le hleI2 _ _ hexs).snoc (exAt_cells hrow hexs2), hnl⟩
  · clear hm
    rintro ⟨_, _, n1, _, I1, a1, cp1, xs1, da1, dc1⟩ w2 ⟨hm, hle0, hexs, hn1⟩
    dsimp only at hm hle0 hexs hn1 ⊢
    have hr1 := hr.le hle0
    have hd9 : R.2.ds.length < 1099511627776 := by rw [hAd] at hg3; omega
    subst hn1
    repeat' (first
    | (refine m_call hm (hc:=p_must R.2 [41] (by simp) hr1 hT hd9 hg2) (k:=?_); clear hm; rintro _ _ _ _ ⟨rfl, rfl, da2, dc2, rfl⟩ hle hm; try simp only [setn] at hm)
    | (refine m_readC hm (hc:=p_last (R.2.need T [41]).2 hr1 hT hg4) (k:=?_); clear hm; intro _ hm)
    | refine m_load1 hm (k:=?_)
    | refine m_loadAll hm (k:=?_)
    | (refine m_storeAll hm (k:=?_); clear hm; intro _ hm; try simp only [setn] at hm)
    | (refine m_store1 hm (k:=?_); clear hm; intro _ hm; try simp only [setn] at hm)
    | refine op_move (k:=?_)
    | refine op_fieldAddr (k:=?_)
    | refine wl_nil ?_
    | refine at_then_normal ?_
    | refine wc_seq ?_
    | refine wc_region ?_
    | refine wc_ret ?_)
    all_goals try (exfalso; first | omega | contradiction)
    obtain ⟨I3, hle3, hm3, hrow3⟩ := (hm.front 2 rfl).freeze
    exact p_retA (i := 2) (e := .mk 4 (T.tok s.i).text 0 R.1 (T.tok s.i).pos (T.endOf (R.2.need T [41]).2.i)) (s' := (R.2.need T [41]).2) (by omega) rfl (hm3.front 5 rfl) rfl hrow3 (ExsAt.le hle3 _ _ hexs)
end
end Go.Proofs.YthmdffgiockcbaaDoor
end
section
namespace Go.Sp
theorem is_of {T : Src} {i : Nat} {t : List UInt8} (h : (T.tok i).text = t) (ht : t ≠ []) : T.is i t = true := by
  have := tok_lt (T := T) (i := i) (by rw [h]; exact ht)
  simp [Src.is, this, h]
theorem is_no {T : Src} {i : Nat} {t : List UInt8} (h : (T.tok i).text ≠ t) : T.is i t = false := by simp [Src.is, h]
theorem is_text {T : Src} {i : Nat} {t : List UInt8} (h : T.is i t = true) : (T.tok i).text = t := by
  simp only [Src.is, Bool.and_eq_true, decide_eq_true_eq] at h; exact h.2
end Go.Sp
namespace Go.Proofs.YthmdffgiockcbaaDoor
open Go.Fw
theorem p_atom_step (T : Sp.Src) (pb : Nat) (hT : Ok T) (n : Nat) (ih : ∀ g, g < n → AtomQ T pb g ∧ ExprQ T pb g) : AtomQ T pb n := by
  intro I la lc deep da dc s hC hr hi hf hd hdp
  obtain ⟨f, rfl⟩ : ∃ f, n = f + 1 := ⟨n - 1, by omega⟩
  rw [Sp.atom]
  dsimp only
  by_cases hend : T.l.length ≤ s.i
  · rw [if_pos hend]; exact pa_end hT hr hi (by omega) hend
  rw [if_neg hend]
  have hlt : s.i < T.l.length := by omega
  by_cases hdeep : 12 ≤ deep
  · rw [if_pos hdeep]; exact pa_deep hT hr hi (by omega) hlt (by omega)
  rw [if_neg hdeep]
  by_cases hkind : (T.tok s.i).kind = 2
  · rw [if_pos hkind]; exact pa_num hT hC hr hi (by omega) hlt (by omega) hkind
  rw [if_neg hkind]
  by_cases hpar : (T.tok s.i).text = [40]
  · rw [if_pos hpar]; exact pa_par hT hC hr hf (ih f (by omega)).2 hd hlt (by omega) hkind hpar
  rw [if_neg hpar]
  cases hname : Sp.name (T.tok s.i).text with
  | false => exact pa_none hT hr hi (by omega) hlt (by omega) hkind hpar hname
  | true =>
    rw [if_neg (by simp)]
    cases hop : T.is (s.i + 1) [40] with
    | false => exact pa_var hT hr hi (by omega) hlt (by omega) hkind hpar hname hop
    | true => exact pa_call hT hC hr hf (fun g hg => (ih g (by omega)).2) hd (by omega) hkind hpar hname hop
/-- the program's parser reads expressions as 'Sp.expr' does. -/
theorem p_atomexpr (T : Sp.Src) (pb : Nat) (hT : Ok T) (n : Nat) : AtomQ T pb n ∧ ExprQ T pb n := by
  induction n using Nat.strongRecOn with
  | _ n ih => exact ⟨p_atom_step T pb hT n ih, p_expr_step T pb hT n ih⟩
/-- what a function that reads a statement hands back. -/
abbrev ToQS (pb : Nat) (la : Option Addr) (lc : Nat) (T : Sp.Src) (deep : Nat) (r : Sp.Stm × Sp.St) : Value → Imm → List HItem → Prop :=
  fun v I' H' => (∃ ea ec ex a1 c1 xs1 a2 c2 xs2, v = .agg (stCells r.1.kind r.1.name r.1.at_ r.1.label r.1.opn r.1.e ea ec (.slice a1 r.1.thn.length c1) (.slice a2 r.1.els.length c2) r.1.fr r.1.to).toArray ∧
    RowI I' 41 6 (.slice ea r.1.e.args.length ec) r.1.e.args.length ex ∧ ExsAt I' r.1.e.args ex ∧
    RowI I' 43 15 (.slice a1 r.1.thn.length c1) r.1.thn.length xs1 ∧ StsAt I' r.1.thn xs1 ∧ RowI I' 43 15 (.slice a2 r.1.els.length c2) r.1.els.length xs2 ∧ StsAt I' r.1.els xs2) ∧
    ∃ da dc, H' = QSt pb la lc T r.2 deep da dc
/-- what a function that reads statements hands back. -/
abbrev ToQB (pb : Nat) (la : Option Addr) (lc : Nat) (T : Sp.Src) (deep : Nat) (r : List Sp.Stm × Sp.St) : Value → Imm → List HItem → Prop :=
  fun v I' H' => (∃ a c xs, v = .slice a r.1.length c ∧ RowI I' 43 15 (.slice a r.1.length c) r.1.length xs ∧ StsAt I' r.1 xs) ∧ ∃ da dc, H' = QSt pb la lc T r.2 deep da dc
def StmQ (T : Sp.Src) (pb f : Nat) : Prop := ∀ (I : Imm) (la : Option Addr) (lc deep : Nat) (da : Option Addr) (dc : Nat) (s : Sp.St), Conv I → TokR I T la lc → s.i ≤ T.l.length → 5 * (T.l.length - s.i) + 5 ≤ f →
  s.ds.length + 8 * (T.l.length - s.i) + 32 ≤ 1099511627776 → deep ≤ 12 → CalM Tryd.prog 56 #[ptr pb] I (QSt pb la lc T s deep da dc) (ToQS pb la lc T deep (Sp.stm T f deep s))
def BlockQ (T : Sp.Src) (pb f : Nat) : Prop := ∀ (I : Imm) (la : Option Addr) (lc deep : Nat) (da : Option Addr) (dc : Nat) (s : Sp.St), Conv I → TokR I T la lc → s.i ≤ T.l.length → 5 * (T.l.length - s.i) + 2 ≤ f →
  s.ds.length + 8 * (T.l.length - s.i) + 32 ≤ 1099511627776 → deep ≤ 12 → CalM Tryd.prog 42 #[ptr pb] I (QSt pb la lc T s deep da dc) (ToQB pb la lc T deep (Sp.block T f deep s))
end Go.Proofs.YthmdffgiockcbaaDoor
end
