/- Own work: texts RpE2, RpE, RpF, one behind the other. -/
import Derived.Test.YtjfkjpbkmpofkaaIt25
section
namespace Go.Proofs.Ytjfkjpbkmpofkaa
open Go.Fw
structure ArgX where
  f : Nat
  l : List Sp.Ex
  n : Nat
  s : Sp.St
  more : Bool
  I : Imm
  a : Option Addr
  cp : Nat
  xs : List Value
  da : Option Addr
  dc : Nat
set_option maxHeartbeats 4000000 in
theorem c_atom_call (T : Sp.Src) (pb : Nat) (hT : Ok T) (f : Nat) (ih : ∀ g, g < f → ExprC T pb g) (I : Imm) (la : Option Addr) (lc deep : Nat) (da : Option Addr) (dc : Nat) (s : Sp.St) (hr : TokR I T la lc) (hf : 3 * (T.l.length - s.i) + 2 ≤ f + 1)
    (hd : s.ds.length + 2 * (T.l.length - s.i) + 4 ≤ 1099511627776) (hdeep : deep < 12) (hkind : (T.tok s.i).kind ≠ 2) (hpar : (T.tok s.i).text ≠ [40]) (hname : Sp.name (T.tok s.i).text = true) (hopen : T.is (s.i + 1) [40] = true) :
    CalM Try.prog 81 #[ptr pb, nt s.i] I (PSt pb la lc T s.ds deep da dc) (ToEx pb la lc T deep
      (.mk 4 (T.tok s.i).text 0 (Sp.argL T f (deep + 1) [] s.next.next).1 (T.tok s.i).pos (T.endOf ((Sp.argL T f (deep + 1) [] s.next.next).2.need T [41]).2.i), ((Sp.argL T f (deep + 1) [] s.next.next).2.need T [41]).2)) := by
  have h2 := hT.size
  have h3 := hT.len
  have h1 := hT.at_ s.i
  have hlt := Sp.is_lt hopen
  have hn := c_rname (T.tok s.i).text (by omega)
  rw [hname] at hn
  have hop := fun ds deep da dc => c_is (pb := pb) (ds := ds) (deep := deep) (da := da) (dc := dc) (s.i + 1) [40] hr
  rw [hopen] at hop
  have hg := (Sp.goes_expr T f).2.1 (deep + 1) [] s.next.next
  have hg1 := hg.le
  have hg2 := hg.top (by rw [Sp.next_i, Sp.next_i]; omega)
  have hg3 := hg.ds
  have hAi : s.next.next.i = s.i + 1 + 1 := rfl
  have hAd : s.next.next.ds = s.ds := rfl
  obtain ⟨R, hR⟩ : ∃ R, R = Sp.argL T f (deep + 1) [] s.next.next := ⟨_, rfl⟩
  rw [← hR] at hg hg1 hg2 hg3 ⊢
  have hsub : (((deep + 1 : Nat) : Int)) - 1 = (deep : Int) := by omega
  refine CalM.of fun w E hm => enter (N := 220) Try.func81 rfl [(0, ptr pb), (1, nt s.i)] args2 rfl ?_
  repeat' (first
  | (refine wc_mid 33 (fun b : Bool => [(0, ptr pb), (1, nt s.next.next.i), (4, ptr b4), (12, ptr b12), (13, .bool b)]) (fun b w' => Mem E I [.cell b12 [nt 4, str (T.tok s.i).text, nt 0, .slice none 0 0, nt (T.tok s.i).pos, nt ((T.tok s.i).pos + (T.tok s.i).text.length)] 111, .cell b6 (encTok (T.tok s.i)) 90, .cell b4 ex0 111, pObj pb la lc T s.ds (deep + 1) da dc, dgRow s.ds da dc] w' ∧ b = (decide (s.next.next.i < T.l.length) && !T.is s.next.next.i [41])) ?_ ?_)
  | (refine m_readC hm (hc:=c_T s.i hr) (k:=?_); clear hm; intro _ hm)
  | (refine op_call (hc:=by exact hn _) (k:=?_); rintro _ _ ⟨rfl, hk⟩; replace hm := hm.kept0 hk)
  | (refine m_readC hm (hc:=hop _ _ _ _) (k:=?_); clear hm; intro _ hm)
  | (refine m_readC hm (hc:=c_is (s.i + 1 + 1) [41] hr) (k:=?_); clear hm; intro _ hm)
  | (refine m_allocS (d:=4) hm (k:=?_); clear hm; intro b4 _ hm)
  | (refine m_varS (d:=6) hm (k:=?_); clear hm; intro b6 _ hm)
  | (refine m_varS (d:=12) hm (k:=?_); clear hm; intro b12 _ hm)
  | refine m_load1 hm (k:=?_)
  | (refine m_store1 hm (k:=?_); clear hm; intro _ hm; try simp only [setn] at hm)
  | refine op_move (k:=?_)
  | refine op_assign (k:=?_)
  | refine op_pick_true (k:=?_)
  | refine op_pick_false (k:=?_)
  | refine op_lss (k:=?_)
  | refine op_geq (k:=?_)
  | refine op_eql (k:=?_)
  | refine op_eql_str (k:=?_)
  | refine op_len_str (k:=?_)
  | refine op_len_slice (k:=?_)
  | refine op_not (k:=?_)
  | refine op_nilCheck (k:=?_)
  | refine op_add (k:=?_)
  | refine op_fieldAddr (k:=?_)
  | refine op_struct (k:=?_)
  | refine wl_skip (k:=?_)
  | (refine wl_split_dec (h1:=fun _ => ?_) (h0:=fun _ => ?_)<;> (try first | contradiction | (exfalso; omega)))
  | refine wl_nil ?_
  | refine at_then_normal ?_
  | refine wc_seq ?_
  | refine wc_region ?_
  | refine wc_skip ?_
  | refine wc_cond_false (hf:=?_)
  | (refine wc_cond_dec (ht:=fun _ => ?_) (hf:=fun _ => ?_)<;> (try first | contradiction | (exfalso; omega))))
  · refine at_cut _ (by exact ⟨rfl, rfl, rfl, rfl, rfl, trivial⟩) ⟨hm, ?_⟩
    rw [decide_eq_true (by omega), Bool.true_and, hAi]
  · refine at_cut _ (by exact ⟨rfl, rfl, rfl, rfl, rfl, trivial⟩) ⟨hm, ?_⟩
    rw [decide_eq_false (by omega), Bool.false_and]
  clear hm hn hop
  rintro b w1 ⟨hm, hb⟩
  repeat' (first
  | refine at_then_normal ?_
  | refine wc_block ?_)
  have hm := hm.nil 111 6
  refine wc_loop (fun x : ArgX => [(0, ptr pb), (1, nt x.s.i), (4, ptr b4), (12, ptr b12), (13, .bool x.more)])
    (fun x w' => Mem E x.I [pObj pb la lc T x.s.ds (deep + 1) x.da x.dc, dgRow x.s.ds x.da x.dc, .row (.slice x.a x.n x.cp) 111 6 x.n x.xs, .cell b12 [nt 4, str (T.tok s.i).text, nt 0, .slice x.a x.n x.cp, nt (T.tok s.i).pos, nt ((T.tok s.i).pos + (T.tok s.i).text.length)] 111, .cell b6 (encTok (T.tok s.i)) 90, .cell b4 ex0 111] w' ∧
      Le I x.I ∧ ExsAt x.I x.l x.xs ∧ x.l.length = x.n ∧ x.n ≤ 5 ∧ x.f ≤ f ∧ x.s.i ≤ T.l.length ∧ x.s.ds.length + 2 * (T.l.length - x.s.i) ≤ s.ds.length + 2 * (T.l.length - s.i) + 1 ∧
      (x.more = true → x.s.i < T.l.length ∧ T.is x.s.i [41] = false ∧ Sp.argL T x.f (deep + 1) x.l x.s = R ∧ 3 * (T.l.length - x.s.i) + 4 ≤ x.f ∧ x.s.ds.length + 2 * (T.l.length - x.s.i) ≤ s.ds.length + 2 * (T.l.length - s.i)) ∧
      (x.more = false → R = (x.l, x.s)))
    (fun x => 2 * (T.l.length - x.s.i) + x.more.toNat) ⟨f, [], 0, s.next.next, b, I, none, 0, [], da, dc⟩ (by exact ⟨rfl, rfl, rfl, rfl, rfl, trivial⟩) ⟨by rw [hAd]; exact hm.perm pm2_4, Le.refl _, .nil, rfl, by dsimp only; omega, Nat.le_refl _, by dsimp only; omega, by dsimp only; rw [hAd]; omega, ?_, ?_⟩ ?_
  · intro hb'
    dsimp only at hb' ⊢
    rw [hb', eq_comm, Bool.and_eq_true, decide_eq_true_eq, Bool.not_eq_true'] at hb
    exact ⟨hb.1, hb.2, hR.symm, by omega, by rw [hAd]; omega⟩
  · intro hb'
    dsimp only at hb' ⊢
    rw [hb', eq_comm, Bool.and_eq_false_iff, decide_eq_false_iff_not, Bool.not_eq_false'] at hb
    obtain ⟨f1, rfl⟩ : ∃ f1, f = f1 + 1 := ⟨f - 1, by omega⟩
    rw [hR, Sp.argL, if_pos (hb.imp_left (by omega))]
  clear hm hb
  rintro ⟨f1, l1, n1, s1, more, I1, a1, cp1, xs1, da1, dc1⟩ w2 ⟨hm, hle0, hexs, hn1, hn5, hff, hi1, hd1, hmt, hmf⟩
  dsimp only at hm hle0 hexs hn1 hn5 hff hi1 hd1 hmt hmf ⊢
  have hr1 := hr.le hle0
  cases more
  case false =>
    have hR' := hmf rfl
    subst hR'
    have hg4 := (Sp.goes_need T s1 [41]).top hi1
    repeat' (first
    | (refine m_call hm (hc:=c_need s1 [41] hr1 hT (by omega) hi1) (k:=?_); clear hm; rintro _ _ _ _ ⟨rfl, rfl, da2, dc2, rfl⟩ hle hm; try simp only [setn] at hm)
    | (refine op_sub (k:=?_); rw [hsub])
    | (refine m_readC hm (hc:=c_end (s1.need T [41]).2.i hr1 hT hg4) (k:=?_); clear hm; intro _ hm)
    | refine m_load1 hm (k:=?_)
    | refine m_loadAll hm (k:=?_)
    | (refine m_storeAll hm (k:=?_); clear hm; intro _ hm; try simp only [setn] at hm)
    | (refine m_store1 hm (k:=?_); clear hm; intro _ hm; try simp only [setn] at hm)
    | refine m_ret2_agg hm (h:=?_)
    | refine op_move (k:=?_)
    | refine op_assign (k:=?_)
    | refine op_extract (k:=?_)
    | refine op_nilCheck (k:=?_)
    | refine op_fieldAddr (k:=?_)
    | refine wl_nil ?_
    | refine at_then_normal ?_
    | refine at_then_exit ?_
    | refine at_block_exit ?_
    | refine wc_seq ?_
    | refine wc_region ?_
    | refine wc_exit ?_
    | refine wc_ret ?_
    | refine wc_cond_false (hf:=?_))
    subst hn1
    obtain ⟨I3, hle3, hm3, hrow3⟩ := (hm.perm pm1_2).freeze
    exact ⟨I3, _, ⟨⟨a1, cp1, xs1, rfl, hrow3, ExsAt.le hle3 _ _ hexs⟩, da2, dc2, rfl⟩, hm3.left (H := [_, _])⟩
  obtain ⟨hlt1, his1, hL, hf1, hd2⟩ := hmt rfl
  obtain ⟨f1, rfl⟩ : ∃ f', f1 = f' + 1 := ⟨f1 - 1, by omega⟩
  rw [Sp.argL, if_neg (by rw [his1]; simp; omega)] at hL
  by_cases h5 : l1.length = 5
  · rw [if_pos h5] at hL
    have hg4 := (Sp.goes_need T (s1.bad T 5) [41]).top hi1
    have hbd : (s1.bad T 5).ds.length = s1.ds.length + 1 := by simp [Sp.St.bad]
    subst hL
    repeat' (first
    | (refine m_call hm (hc:=c_bad s1.i 5 hr1 hT (by omega)) (k:=?_); clear hm; rintro _ _ _ _ ⟨rfl, rfl, da2, dc2, rfl⟩ hle hm; try simp only [setn] at hm)
    | (refine m_call hm (hc:=c_need (s1.bad T 5) [41] hr1 hT (by omega) hi1) (k:=?_); clear hm; rintro _ _ _ _ ⟨rfl, rfl, da3, dc3, rfl⟩ hle hm; try simp only [setn] at hm)
    | (refine op_sub (k:=?_); rw [hsub])
    | (refine m_readC hm (hc:=c_end ((s1.bad T 5).need T [41]).2.i hr1 hT hg4) (k:=?_); clear hm; intro _ hm)
    | refine m_load1 hm (k:=?_)
    | refine m_loadAll hm (k:=?_)
    | (refine m_storeAll hm (k:=?_); clear hm; intro _ hm; try simp only [setn] at hm)
    | (refine m_store1 hm (k:=?_); clear hm; intro _ hm; try simp only [setn] at hm)
    | refine m_ret2_agg hm (h:=?_)
    | refine op_move (k:=?_)
    | refine op_assign (k:=?_)
    | refine op_eql (k:=?_)
    | refine op_len_slice (k:=?_)
    | refine op_extract (k:=?_)
    | refine op_nilCheck (k:=?_)
    | refine op_fieldAddr (k:=?_)
    | refine wl_nil ?_
    | refine at_then_normal ?_
    | refine at_then_exit ?_
    | refine at_block_exit ?_
    | refine at_block_other (h:=?_)
    | refine wc_seq ?_
    | refine wc_region ?_
    | refine wc_block ?_
    | refine wc_skip ?_
    | refine wc_exit ?_
    | refine wc_ret ?_
    | refine wc_cond_true (ht:=?_)
    | (refine wc_cond_dec (ht:=fun _ => ?_) (hf:=fun _ => ?_)<;> (try first | contradiction | (exfalso; omega))))
    all_goals try (exfalso; omega)
    subst hn1
    obtain ⟨I3, hle3, hm3, hrow3⟩ := (hm.perm pm1_2).freeze
    exact ⟨I3, _, ⟨⟨a1, cp1, xs1, rfl, hrow3, ExsAt.le hle3 _ _ hexs⟩, da3, dc3, rfl⟩, hm3.left (H := [_, _])⟩
  rw [if_neg h5] at hL
  dsimp only at hL
  have hex := fun da dc => ih f1 (by omega) I1 la lc (deep + 1) da dc s1 1 hr1 (by omega) (by omega) (by omega) (by omega)
  have hgr := (Sp.goes_expr T f1).2.2.1 (deep + 1) 1 s1
  generalize Sp.expr T f1 (deep + 1) 1 s1 = r at hL hex hgr
  have hgr1 := hgr.le
  have hgr2 := hgr.top hi1
  have hgr3 := hgr.ds
  have hq := fun I (hr : TokR I T la lc) ds deep da dc => c_is (pb := pb) (ds := ds) (deep := deep) (da := da) (dc := dc) r.2.i [44] hr
  have hnl : (l1 ++ [r.1]).length = n1 + 1 := by simp [hn1]
  have hn4 : n1 < 5 := by omega
  have hni : r.2.next.i = r.2.i + 1 := rfl
  have hnd : r.2.next.ds.length = r.2.ds.length := rfl
  by_cases hcomma : T.is r.2.i [44] = true
  · rw [if_pos hcomma] at hL
    rw [hcomma] at hq
    have hlt2 := Sp.is_lt hcomma
    repeat' (first
    | (refine m_call hm (hc:=hex _ _) (k:=?_); clear hm; rintro _ I2 _ _ ⟨⟨ea, ec, xs, rfl, hrow, hexs2⟩, da', dc', rfl⟩ hle hm; have hleI2 := hle; try simp only [setn] at hm)
    | (refine m_readC hm (hc:=hq _ (hr1.le hle) _ _ _ _) (k:=?_); clear hm; intro _ hm)
    | (refine m_readC hm (hc:=c_is (r.2.i + 1) [41] (hr1.le hle)) (k:=?_); clear hm; intro _ hm)
    | (refine m_varS (d:=14) hm (k:=?_); clear hm; intro b14 _ hm)
    | (refine m_push (d:=179) hm (k:=?_); clear hm; intro a179 cp179 _ _ hm; try simp only [setn] at hm)
    | refine m_load1 hm (k:=?_)
    | refine m_loadAll hm (k:=?_)
    | (refine m_store1 hm (k:=?_); clear hm; intro _ hm; try simp only [setn] at hm)
    | refine op_move (k:=?_)
    | refine op_assign (k:=?_)
    | refine op_pick_true (k:=?_)
    | refine op_pick_false (k:=?_)
    | refine op_lss (k:=?_)
    | refine op_eql (k:=?_)
    | refine op_len_slice (k:=?_)
    | refine op_not (k:=?_)
    | refine op_extract (k:=?_)
    | refine op_nilCheck (k:=?_)
    | refine op_add (k:=?_)
    | refine op_fieldAddr (k:=?_)
    | refine wl_skip (k:=?_)
    | (refine wl_split_dec (h1:=fun _ => ?_) (h0:=fun _ => ?_)<;> (try first | contradiction | (exfalso; omega)))
    | refine wl_nil ?_
    | refine at_then_normal ?_
    | refine at_block_normal ?_
    | refine wc_seq ?_
    | refine wc_region ?_
    | refine wc_block ?_
    | refine wc_skip ?_
    | refine wc_cond_true (ht:=?_)
    | (refine wc_cond_dec (ht:=fun _ => ?_) (hf:=fun _ => ?_)<;> (try first | contradiction | (exfalso; omega))))
    all_goals try (exfalso; omega)
    · refine at_round (⟨f1, l1 ++ [r.1], n1 + 1, r.2.next, !T.is (r.2.i + 1) [41], I2, _, _, _, da', dc'⟩ : ArgX) (by exact ⟨rfl, rfl, rfl, rfl, rfl, trivial⟩) ⟨hm.tl, hle0.trans hle, (ExsAt.le hle _ _ hexs).snoc (exAt_cells hrow hexs2), hnl, by dsimp only; omega, by dsimp only; omega, by dsimp only; omega, by dsimp only; omega, ?_, ?_⟩ (by dsimp only [Bool.toNat_true]; have := Bool.toNat_le (!T.is (r.2.i + 1) [41]); omega)
      · intro hb
        dsimp only at hb ⊢
        exact ⟨by omega, (show T.is (r.2.i + 1) [41] = false by simpa using hb), hL, by omega, by omega⟩
      · intro hb
        dsimp only at hb ⊢
        obtain ⟨f1, rfl⟩ : ∃ f', f1 = f' + 1 := ⟨f1 - 1, by omega⟩
        rw [← hL, Sp.argL, if_pos (.inr (show T.is (r.2.i + 1) [41] = true by simpa using hb))]
    · refine at_round (⟨f1, l1 ++ [r.1], n1 + 1, r.2.next, false, I2, _, _, _, da', dc'⟩ : ArgX) (by exact ⟨rfl, rfl, rfl, rfl, rfl, trivial⟩) ⟨hm.tl, hle0.trans hle, (ExsAt.le hle _ _ hexs).snoc (exAt_cells hrow hexs2), hnl, by dsimp only; omega, by dsimp only; omega, by dsimp only; omega, by dsimp only; omega, fun h => (by cases h), fun _ => ?_⟩ (by dsimp only [Bool.toNat_true, Bool.toNat_false]; omega)
      dsimp only
      obtain ⟨f1, rfl⟩ : ∃ f', f1 = f' + 1 := ⟨f1 - 1, by omega⟩
      rw [← hL, Sp.argL, if_pos (.inl (by omega))]
  · rw [if_neg hcomma] at hL
    rw [show T.is r.2.i [44] = false by simpa using hcomma] at hq
    repeat' (first
    | (refine m_call hm (hc:=hex _ _) (k:=?_); clear hm; rintro _ I2 _ _ ⟨⟨ea, ec, xs, rfl, hrow, hexs2⟩, da', dc', rfl⟩ hle hm; have hleI2 := hle; try simp only [setn] at hm)
    | (refine m_readC hm (hc:=hq _ (hr1.le hle) _ _ _ _) (k:=?_); clear hm; intro _ hm)
    | (refine m_varS (d:=14) hm (k:=?_); clear hm; intro b14 _ hm)
    | (refine m_push (d:=179) hm (k:=?_); clear hm; intro a179 cp179 _ _ hm; try simp only [setn] at hm)
    | refine m_load1 hm (k:=?_)
    | refine m_loadAll hm (k:=?_)
    | (refine m_store1 hm (k:=?_); clear hm; intro _ hm; try simp only [setn] at hm)
    | refine op_move (k:=?_)
    | refine op_assign (k:=?_)
    | refine op_eql (k:=?_)
    | refine op_len_slice (k:=?_)
    | refine op_extract (k:=?_)
    | refine op_fieldAddr (k:=?_)
    | refine wl_nil ?_
    | refine at_then_normal ?_
    | refine at_block_normal ?_
    | refine wc_seq ?_
    | refine wc_region ?_
    | refine wc_block ?_
    | refine wc_skip ?_
    | refine wc_cond_true (ht:=?_)
    | refine wc_cond_false (hf:=?_)
    | (refine wc_cond_dec (ht:=fun _ => ?_) (hf:=fun _ => ?_)<;> (try first | contradiction | (exfalso; omega))))
    all_goals try (exfalso; omega)
    exact at_round (⟨f1, l1 ++ [r.1], n1 + 1, r.2, false, I2, _, _, _, da', dc'⟩ : ArgX) (by exact ⟨rfl, rfl, rfl, rfl, rfl, trivial⟩) ⟨hm.tl, hle0.trans hle, (ExsAt.le hle _ _ hexs).snoc (exAt_cells hrow hexs2), hnl, by dsimp only; omega, by dsimp only; omega, hgr2, by dsimp only; omega, fun h => (by cases h), fun _ => hL.symm⟩ (by dsimp only [Bool.toNat_true, Bool.toNat_false]; omega)
end Go.Proofs.Ytjfkjpbkmpofkaa
end
section
namespace Go.Proofs.Ytjfkjpbkmpofkaa
open Go.Fw
set_option maxHeartbeats 4000000 in
theorem c_atom_step (T : Sp.Src) (pb : Nat) (hT : Ok T) (n : Nat) (ih : ∀ g, g < n → AtomC T pb g ∧ ExprC T pb g) : AtomC T pb n := by
  intro I la lc deep da dc s hr hi hf hd hdp
  obtain ⟨f, rfl⟩ : ∃ f, n = f + 1 := ⟨n - 1, by omega⟩
  have h2 := hT.size
  have h3 := hT.len
  have h1 := hT.at_ s.i
  rw [Sp.atom]
  dsimp only
  by_cases hend : T.l.length ≤ s.i
  · rw [if_pos hend]
    refine CalM.of fun w E hm => enter (N := 220) Try.func81 rfl [(0, ptr pb), (1, nt s.i)] args2 rfl ?_
    repeat' (first
    | (refine m_readC hm (hc:=c_T s.i hr) (k:=?_); clear hm; intro _ hm)
    | (refine m_call hm (hc:=c_none s 2 hr hT (by omega)) (k:=?_); clear hm; rintro _ _ _ _ ⟨⟨ea, ec, xs, rfl, hrow, hexs⟩, da', dc', rfl⟩ hle hm; try simp only [setn] at hm)
    | (refine m_allocS (d:=4) hm (k:=?_); clear hm; intro b4 _ hm)
    | (refine m_varS (d:=6) hm (k:=?_); clear hm; intro b6 _ hm)
    | refine m_load1 hm (k:=?_)
    | (refine m_storeAll hm (k:=?_); clear hm; intro _ hm; try simp only [setn] at hm)
    | refine m_ret2_agg hm (h:=?_)
    | refine op_move (k:=?_)
    | refine op_assign (k:=?_)
    | refine op_geq (k:=?_)
    | refine op_len_slice (k:=?_)
    | refine op_extract (k:=?_)
    | refine op_nilCheck (k:=?_)
    | refine op_fieldAddr (k:=?_)
    | refine wl_nil ?_
    | refine at_then_normal ?_
    | refine at_then_ret ?_
    | refine wc_seq ?_
    | refine wc_region ?_
    | refine wc_ret ?_
    | (refine wc_cond_dec (ht:=fun _ => ?_) (hf:=fun _ => ?_)<;> (try first | contradiction | (exfalso; omega))))
    exact ⟨_, _, ⟨⟨ea, ec, xs, rfl, hrow, hexs⟩, da', dc', rfl⟩, hm.left (H := [_, _])⟩
  rw [if_neg hend]
  by_cases hdeep : 12 ≤ deep
  · rw [if_pos hdeep]
    refine CalM.of fun w E hm => enter (N := 220) Try.func81 rfl [(0, ptr pb), (1, nt s.i)] args2 rfl ?_
    repeat' (first
    | (refine m_readC hm (hc:=c_T s.i hr) (k:=?_); clear hm; intro _ hm)
    | (refine m_call hm (hc:=c_none s 12 hr hT (by omega)) (k:=?_); clear hm; rintro _ _ _ _ ⟨⟨ea, ec, xs, rfl, hrow, hexs⟩, da', dc', rfl⟩ hle hm; try simp only [setn] at hm)
    | (refine m_allocS (d:=4) hm (k:=?_); clear hm; intro b4 _ hm)
    | (refine m_varS (d:=6) hm (k:=?_); clear hm; intro b6 _ hm)
    | refine m_load1 hm (k:=?_)
    | (refine m_storeAll hm (k:=?_); clear hm; intro _ hm; try simp only [setn] at hm)
    | refine m_ret2_agg hm (h:=?_)
    | refine op_move (k:=?_)
    | refine op_assign (k:=?_)
    | refine op_geq (k:=?_)
    | refine op_len_slice (k:=?_)
    | refine op_extract (k:=?_)
    | refine op_nilCheck (k:=?_)
    | refine op_fieldAddr (k:=?_)
    | refine wl_nil ?_
    | refine at_then_normal ?_
    | refine at_then_ret ?_
    | refine wc_seq ?_
    | refine wc_region ?_
    | refine wc_skip ?_
    | refine wc_ret ?_
    | (refine wc_cond_dec (ht:=fun _ => ?_) (hf:=fun _ => ?_)<;> (try first | contradiction | (exfalso; omega))))
    exact ⟨_, _, ⟨⟨ea, ec, xs, rfl, hrow, hexs⟩, da', dc', rfl⟩, hm.left (H := [_, _])⟩
  rw [if_neg hdeep]
  by_cases hkind : (T.tok s.i).kind = 2
  · rw [if_pos hkind]
    have hdg := hT.digs hkind
    have hdl := Sp.digits_le (T.tok s.i).text (fun c hc => (hdg c hc).2)
    refine CalM.of fun w E hm => enter (N := 220) Try.func81 rfl [(0, ptr pb), (1, nt s.i)] args2 rfl ?_
    repeat' (first
    | (refine m_readC hm (hc:=c_T s.i hr) (k:=?_); clear hm; intro _ hm)
    | (refine i_strBytes hm (by rfl) (by rfl) (by rfl) ?_; clear hm; intro I1 ab cpb _ hle hm hbs)
    | (refine m_allocS (d:=4) hm (k:=?_); clear hm; intro b4 _ hm)
    | (refine m_varS (d:=6) hm (k:=?_); clear hm; intro b6 _ hm)
    | refine m_load1 hm (k:=?_)
    | refine op_move (k:=?_)
    | refine op_assign (k:=?_)
    | refine op_geq (k:=?_)
    | refine op_eql (k:=?_)
    | refine op_len_slice (k:=?_)
    | refine op_nilCheck (k:=?_)
    | refine op_fieldAddr (k:=?_)
    | refine wl_nil ?_
    | refine at_then_normal ?_
    | refine wc_seq ?_
    | refine wc_region ?_
    | refine wc_block ?_
    | refine wc_skip ?_
    | (refine wc_cond_dec (ht:=fun _ => ?_) (hf:=fun _ => ?_)<;> (try first | contradiction | (exfalso; omega))))
    refine wc_loop (fun k : Nat => [(0, ptr pb), (1, nt s.i), (4, ptr b4), (6, ptr b6), (7, nt (Sp.digits ((T.tok s.i).text.take k))), (46, .slice ab (T.tok s.i).text.length cpb), (47, nt (T.tok s.i).text.length), (48, nt k)])
      (fun k w' => Mem E I1 [.cell b6 (encTok (T.tok s.i)) 90, .cell b4 ex0 111, pObj pb la lc T s.ds deep da dc, dgRow s.ds da dc] w' ∧ k ≤ (T.tok s.i).text.length) (fun k => (T.tok s.i).text.length - k) 0
      (by exact ⟨rfl, rfl, rfl, rfl, rfl, rfl, rfl, rfl, trivial⟩) ⟨hm, Nat.zero_le _⟩ ?_
    clear hm
    rintro k w2 ⟨hm, hk⟩
    have hdk := hdl k
    by_cases hk2 : k < (T.tok s.i).text.length
    · have hck := List.getElem?_eq_getElem hk2
      have hdc := hdg _ (List.getElem_mem hk2)
      have hs := Sp.digits_snoc ((T.tok s.i).text.take k) (T.tok s.i).text[k]
      rw [← List.take_succ_eq_append_getElem hk2] at hs
      generalize (T.tok s.i).text[k] = c at hck hdc hs
      have hdk1 := hdl (k + 1)
      generalize Sp.digits ((T.tok s.i).text.take k) = nn at hs hdk ⊢
      by_cases hbig : nn ≤ 1000000000
      · rw [if_pos hbig] at hs
        repeat' (first
        | (refine i_indexFlat (hr:=by exact hbs) (he:=by intro _; rfl) (hz:=by exact hck) (k:=?_); intro _ _ hp1)
        | (refine op_toInt (by rfl) (by rfl) (by rfl) (by omega) ?_)
        | refine i_load1z hm (k:=?_)
        | refine op_move (k:=?_)
        | refine op_assign (k:=?_)
        | refine op_lss (k:=?_)
        | refine op_leq (k:=?_)
        | refine op_add (k:=?_)
        | refine op_sub_u8 (k:=?_)
        | refine op_mul (k:=?_)
        | refine wl_nil ?_
        | refine at_then_normal ?_
        | refine at_block_normal ?_
        | refine wc_seq ?_
        | refine wc_region ?_
        | refine wc_block ?_
        | refine wc_skip ?_
        | (refine wc_cond_dec (ht:=fun _ => ?_) (hf:=fun _ => ?_)<;> (try first | contradiction | (exfalso; omega))))
        have hv : (10 * (nn : Int) + ((c.toNat : Int) - 48)) = ((10 * nn + (c.toNat - 48) : Nat) : Int) := by omega
        rw [hv, ← hs]
        exact at_round (k + 1) (by exact ⟨rfl, rfl, rfl, rfl, rfl, rfl, rfl, rfl, trivial⟩) ⟨hm, by omega⟩ (by omega)
      · rw [if_neg hbig] at hs
        repeat' (first
        | (refine i_indexFlat (hr:=by exact hbs) (he:=by intro _; rfl) (hz:=by exact hck) (k:=?_); intro _ _ hp1)
        | refine i_load1z hm (k:=?_)
        | refine op_move (k:=?_)
        | refine op_assign (k:=?_)
        | refine op_lss (k:=?_)
        | refine op_leq (k:=?_)
        | refine op_add (k:=?_)
        | refine wl_nil ?_
        | refine at_then_normal ?_
        | refine at_block_normal ?_
        | refine wc_seq ?_
        | refine wc_region ?_
        | refine wc_block ?_
        | refine wc_skip ?_
        | (refine wc_cond_dec (ht:=fun _ => ?_) (hf:=fun _ => ?_)<;> (try first | contradiction | (exfalso; omega))))
        rw [← hs]
        exact at_round (k + 1) (by exact ⟨rfl, rfl, rfl, rfl, rfl, rfl, rfl, rfl, trivial⟩) ⟨hm, by omega⟩ (by omega)
    · obtain rfl : k = (T.tok s.i).text.length := by omega
      rw [List.take_of_length_le (Nat.le_refl _)] at hdk ⊢
      generalize Sp.digits (T.tok s.i).text = nn at hdk ⊢
      by_cases hbig : 1000000000 < nn
      · rw [if_pos hbig]
        repeat' (first
        | (refine m_call hm (hc:=c_bad s.i 3 (hr.le hle) hT (by omega)) (k:=?_); clear hm; rintro _ _ _ _ ⟨rfl, rfl, da', dc', rfl⟩ hle hm; try simp only [setn] at hm)
        | refine m_load1 hm (k:=?_)
        | (refine m_storeAll hm (k:=?_); clear hm; intro _ hm; try simp only [setn] at hm)
        | refine m_ret2_agg hm (h:=?_)
        | refine op_move (k:=?_)
        | refine op_assign (k:=?_)
        | refine op_lss (k:=?_)
        | refine op_gtr (k:=?_)
        | refine op_len_str (k:=?_)
        | refine op_add (k:=?_)
        | refine op_fieldAddr (k:=?_)
        | refine op_struct (k:=?_)
        | refine wl_nil ?_
        | refine at_then_normal ?_
        | refine at_then_ret ?_
        | refine at_then_exit ?_
        | refine at_block_exit ?_
        | refine wc_seq ?_
        | refine wc_region ?_
        | refine wc_exit ?_
        | refine wc_ret ?_
        | (refine wc_cond_dec (ht:=fun _ => ?_) (hf:=fun _ => ?_)<;> (try first | contradiction | (exfalso; omega))))
        exact ⟨I1, _, ⟨⟨none, 0, [], rfl, rowI_nil _ _ _ _ _, .nil⟩, da', dc', rfl⟩, hm.left (H := [_, _])⟩
      · rw [if_neg hbig]
        repeat' (first
        | refine m_load1 hm (k:=?_)
        | (refine m_storeAll hm (k:=?_); clear hm; intro _ hm; try simp only [setn] at hm)
        | refine m_ret2_agg hm (h:=?_)
        | refine op_move (k:=?_)
        | refine op_assign (k:=?_)
        | refine op_lss (k:=?_)
        | refine op_gtr (k:=?_)
        | refine op_len_str (k:=?_)
        | refine op_add (k:=?_)
        | refine op_fieldAddr (k:=?_)
        | refine op_struct (k:=?_)
        | refine wl_nil ?_
        | refine at_then_normal ?_
        | refine at_then_ret ?_
        | refine at_then_exit ?_
        | refine at_block_exit ?_
        | refine wc_seq ?_
        | refine wc_region ?_
        | refine wc_skip ?_
        | refine wc_exit ?_
        | refine wc_ret ?_
        | (refine wc_cond_dec (ht:=fun _ => ?_) (hf:=fun _ => ?_)<;> (try first | contradiction | (exfalso; omega))))
        exact ⟨I1, _, ⟨⟨none, 0, [], rfl, rowI_nil _ _ _ _ _, .nil⟩, da, dc, rfl⟩, hm.tl.tl⟩
  rw [if_neg hkind]
  by_cases hpar : (T.tok s.i).text = [40]
  · rw [if_pos hpar]
    exact (c_atom_par T pb hT f (ih f (by omega)).2 I la lc deep da dc s hr (by omega) hf hd (by omega) hkind hpar)
  rw [if_neg hpar]
  have hn := c_rname (T.tok s.i).text (by omega)
  by_cases hname : Sp.name (T.tok s.i).text = true
  case neg =>
    have hname' : Sp.name (T.tok s.i).text = false := by simpa using hname
    rw [hname'] at hn ⊢
    rw [if_pos (by rfl)]
    refine CalM.of fun w E hm => enter (N := 220) Try.func81 rfl [(0, ptr pb), (1, nt s.i)] args2 rfl ?_
    repeat' (first
    | (refine m_readC hm (hc:=c_T s.i hr) (k:=?_); clear hm; intro _ hm)
    | (refine op_call (hc:=by exact hn _) (k:=?_); rintro _ _ ⟨rfl, hk⟩; replace hm := hm.kept0 hk)
    | (refine m_call hm (hc:=c_none s 2 hr hT (by omega)) (k:=?_); clear hm; rintro _ _ _ _ ⟨⟨ea, ec, xs, rfl, hrow, hexs⟩, da', dc', rfl⟩ hle hm; try simp only [setn] at hm)
    | (refine m_allocS (d:=4) hm (k:=?_); clear hm; intro b4 _ hm)
    | (refine m_varS (d:=6) hm (k:=?_); clear hm; intro b6 _ hm)
    | refine m_load1 hm (k:=?_)
    | (refine m_storeAll hm (k:=?_); clear hm; intro _ hm; try simp only [setn] at hm)
    | refine m_ret2_agg hm (h:=?_)
    | refine op_move (k:=?_)
    | refine op_assign (k:=?_)
    | refine op_geq (k:=?_)
    | refine op_eql (k:=?_)
    | refine op_eql_str (k:=?_)
    | refine op_len_slice (k:=?_)
    | refine op_not (k:=?_)
    | refine op_extract (k:=?_)
    | refine op_nilCheck (k:=?_)
    | refine op_fieldAddr (k:=?_)
    | refine wl_nil ?_
    | refine at_then_normal ?_
    | refine at_then_ret ?_
    | refine wc_seq ?_
    | refine wc_region ?_
    | refine wc_skip ?_
    | refine wc_ret ?_
    | refine wc_cond_true (ht:=?_)
    | (refine wc_cond_dec (ht:=fun _ => ?_) (hf:=fun _ => ?_)<;> (try first | contradiction | (exfalso; omega))))
    all_goals try (exfalso; omega)
    all_goals first
      | exact ⟨_, _, ⟨⟨ea, ec, xs, rfl, hrow, hexs⟩, da', dc', rfl⟩, hm.left (H := [_, _])⟩
      | (exfalso; contradiction)
  rw [hname, if_neg (by simp)]
  by_cases hop : T.is (s.i + 1) [40] = true
  · rw [hop, if_neg (by simp)]
    exact (c_atom_call T pb hT f (fun g hg => (ih g (by omega)).2) I la lc deep da dc s hr hf hd (by omega) hkind hpar hname hop)
  · have hop' : T.is (s.i + 1) [40] = false := by simpa using hop
    rw [hop', if_pos (by rfl)]
    have hq := fun ds deep da dc => c_is (pb := pb) (ds := ds) (deep := deep) (da := da) (dc := dc) (s.i + 1) [40] hr
    rw [hop'] at hq
    rw [hname] at hn
    refine CalM.of fun w E hm => enter (N := 220) Try.func81 rfl [(0, ptr pb), (1, nt s.i)] args2 rfl ?_
    repeat' (first
    | (refine m_readC hm (hc:=c_T s.i hr) (k:=?_); clear hm; intro _ hm)
    | (refine op_call (hc:=by exact hn _) (k:=?_); rintro _ _ ⟨rfl, hk⟩; replace hm := hm.kept0 hk)
    | (refine m_readC hm (hc:=hq _ _ _ _) (k:=?_); clear hm; intro _ hm)
    | (refine m_allocS (d:=4) hm (k:=?_); clear hm; intro b4 _ hm)
    | (refine m_varS (d:=6) hm (k:=?_); clear hm; intro b6 _ hm)
    | (refine m_varS (d:=12) hm (k:=?_); clear hm; intro b12 _ hm)
    | refine m_load1 hm (k:=?_)
    | refine m_loadAll hm (k:=?_)
    | (refine m_storeAll hm (k:=?_); clear hm; intro _ hm; try simp only [setn] at hm)
    | refine m_ret2_agg hm (h:=?_)
    | refine op_move (k:=?_)
    | refine op_assign (k:=?_)
    | refine op_geq (k:=?_)
    | refine op_eql (k:=?_)
    | refine op_eql_str (k:=?_)
    | refine op_len_str (k:=?_)
    | refine op_len_slice (k:=?_)
    | refine op_not (k:=?_)
    | refine op_nilCheck (k:=?_)
    | refine op_add (k:=?_)
    | refine op_fieldAddr (k:=?_)
    | refine op_struct (k:=?_)
    | refine wl_nil ?_
    | refine at_then_normal ?_
    | refine at_then_ret ?_
    | refine wc_seq ?_
    | refine wc_region ?_
    | refine wc_skip ?_
    | refine wc_ret ?_
    | refine wc_cond_true (ht:=?_)
    | refine wc_cond_false (hf:=?_)
    | (refine wc_cond_dec (ht:=fun _ => ?_) (hf:=fun _ => ?_)<;> (try first | contradiction | (exfalso; omega))))
    all_goals try (exfalso; omega)
    all_goals first
      | exact ⟨I, _, ⟨⟨none, 0, [], rfl, rowI_nil _ _ _ _ _, .nil⟩, da, dc, rfl⟩, hm.tl.tl.tl⟩
      | (exfalso; contradiction)
/-- the reference's parser reads expressions as 'Sp.expr' does. -/
theorem c_atomexpr (T : Sp.Src) (pb : Nat) (hT : Ok T) (n : Nat) : AtomC T pb n ∧ ExprC T pb n := by
  induction n using Nat.strongRecOn with
  | _ n ih => exact ⟨c_atom_step T pb hT n ih, c_expr_step T pb hT n ih⟩
end Go.Proofs.Ytjfkjpbkmpofkaa
end
section
namespace Go.Proofs.Ytjfkjpbkmpofkaa
open Go.Fw
/-- what a function that reads a statement hands back. -/
abbrev ToSt (pb : Nat) (la : Option Addr) (lc : Nat) (T : Sp.Src) (deep : Nat) (r : Sp.Stm × Sp.St) : Value → Imm → List HItem → Prop :=
  fun v I' H' => (∃ ea ec ex a1 c1 xs1 a2 c2 xs2, v = .tuple #[.agg (stCells r.1.kind r.1.name r.1.at_ r.1.label r.1.opn r.1.e ea ec (.slice a1 r.1.thn.length c1) (.slice a2 r.1.els.length c2) r.1.fr r.1.to).toArray, nt r.2.i] ∧
    RowI I' 111 6 (.slice ea r.1.e.args.length ec) r.1.e.args.length ex ∧ ExsAt I' r.1.e.args ex ∧
    RowI I' 113 15 (.slice a1 r.1.thn.length c1) r.1.thn.length xs1 ∧ StsAt I' r.1.thn xs1 ∧ RowI I' 113 15 (.slice a2 r.1.els.length c2) r.1.els.length xs2 ∧ StsAt I' r.1.els xs2) ∧
    ∃ da dc, H' = PSt pb la lc T r.2.ds deep da dc
/-- what a function that reads statements hands back. -/
abbrev ToBl (pb : Nat) (la : Option Addr) (lc : Nat) (T : Sp.Src) (deep : Nat) (r : List Sp.Stm × Sp.St) : Value → Imm → List HItem → Prop :=
  fun v I' H' => (∃ a c xs, v = .tuple #[.slice a r.1.length c, nt r.2.i] ∧ RowI I' 113 15 (.slice a r.1.length c) r.1.length xs ∧ StsAt I' r.1 xs) ∧ ∃ da dc, H' = PSt pb la lc T r.2.ds deep da dc
def StmC (T : Sp.Src) (pb f : Nat) : Prop := ∀ (I : Imm) (la : Option Addr) (lc deep : Nat) (da : Option Addr) (dc : Nat) (s : Sp.St), TokR I T la lc → s.i ≤ T.l.length → 5 * (T.l.length - s.i) + 5 ≤ f →
  s.ds.length + 8 * (T.l.length - s.i) + 32 ≤ 1099511627776 → deep ≤ 12 → CalM Try.prog 73 #[ptr pb, nt s.i] I (PSt pb la lc T s.ds deep da dc) (ToSt pb la lc T deep (Sp.stm T f deep s))
def BlockC (T : Sp.Src) (pb f : Nat) : Prop := ∀ (I : Imm) (la : Option Addr) (lc deep : Nat) (da : Option Addr) (dc : Nat) (s : Sp.St), TokR I T la lc → s.i ≤ T.l.length → 5 * (T.l.length - s.i) + 2 ≤ f →
  s.ds.length + 8 * (T.l.length - s.i) + 32 ≤ 1099511627776 → deep ≤ 12 → CalM Try.prog 63 #[ptr pb, nt s.i] I (PSt pb la lc T s.ds deep da dc) (ToBl pb la lc T deep (Sp.block T f deep s))
section
variable {T : Sp.Src} {pb f : Nat} {I : Imm} {la : Option Addr} {lc deep : Nat} {da : Option Addr} {dc : Nat} {s : Sp.St}
set_option maxHeartbeats 4000000 in
theorem st_back (hT : Ok T) (hr : TokR I T la lc) (hi : s.i ≤ T.l.length) (hf : 5 * (T.l.length - s.i) + 5 ≤ f + 1) (hd : s.ds.length + 8 * (T.l.length - s.i) + 32 ≤ 1099511627776) (hdp : deep ≤ 12) (h5 : (T.tok s.i).text = [114, 101, 116, 117, 114, 110]) :
    CalM Try.prog 73 #[ptr pb, nt s.i] I (PSt pb la lc T s.ds deep da dc) (ToSt pb la lc T deep (Sp.stm T (f + 1) deep s)) := by
  have h2 := hT.size
  have h3 := hT.len
  have h1 := hT.at_ s.i
  have hlt : s.i < T.l.length := Sp.tok_lt (by rw [h5]; simp)
  have hT1 := fun ds deep da dc => c_T (pb := pb) (ds := ds) (deep := deep) (da := da) (dc := dc) s.i hr
  have hTe : encTok (T.tok s.i) = [nt (T.tok s.i).kind, str [114, 101, 116, 117, 114, 110], nt (T.tok s.i).pos] := by rw [← h5]; rfl
  rw [hTe] at hT1
  have hex := fun da dc => (c_atomexpr T pb hT f).2 I la lc deep da dc s.next 1 hr (by rw [Sp.next_i]; omega) (by rw [Sp.next_i]; omega) (by rw [Sp.next_i, Sp.next_ds]; omega) hdp
  have hg := (Sp.goes_expr T f).2.2.1 deep 1 s.next
  rw [Sp.stm]
  dsimp only
  rw [h5, if_neg (by decide), if_neg (by decide), if_neg (by decide), if_neg (by decide), if_pos rfl]
  generalize Sp.expr T f deep 1 s.next = r at hex hg ⊢
  have hg1 := hg.le
  have hg2 := hg.top (by rw [Sp.next_i]; omega)
  have hg3 := hg.ds
  rw [Sp.next_i] at hg1 hg3
  rw [Sp.next_ds] at hg3
  have hg4 := (Sp.goes_need T r.2 [59]).top hg2
  refine CalM.of fun w E hm => enter (N := 205) Try.func73 rfl [(0, ptr pb), (1, nt s.i)] args2 rfl ?_
  repeat' (first
  | (refine m_readC hm (hc:=hT1 _ _ _ _) (k:=?_); clear hm; intro _ hm)
  | (refine m_call hm (hc:=hex _ _) (k:=?_); clear hm; rintro _ I2 _ _ ⟨⟨ea, ec, xs, rfl, hrow, hexs⟩, da', dc', rfl⟩ hle hm; have hleI2 := hle; try simp only [setn] at hm)
  | (refine m_call hm (hc:=c_need r.2 [59] (hr.le hleI2) hT (by omega) hg2) (k:=?_); clear hm; rintro _ _ _ _ ⟨rfl, rfl, da2, dc2, rfl⟩ hle hm; try simp only [setn] at hm)
  | (refine m_readC hm (hc:=c_end (r.2.need T [59]).2.i (hr.le hleI2) hT hg4) (k:=?_); clear hm; intro _ hm)
  | (refine m_allocS (d:=4) hm (k:=?_); clear hm; intro b4 _ hm)
  | (refine m_varS (d:=6) hm (k:=?_); clear hm; intro b6 _ hm)
  | refine m_load1 hm (k:=?_)
  | refine m_loadAll hm (k:=?_)
  | (refine m_storeAll hm (k:=?_); clear hm; intro _ hm; try simp only [setn] at hm)
  | (refine m_store1 hm (k:=?_); clear hm; intro _ hm; try simp only [setn] at hm)
  | (refine m_storeN hm (k:=?_); clear hm; intro _ hm; try simp only [setn] at hm)
  | refine m_ret2_agg hm (h:=?_)
  | refine op_move (k:=?_)
  | refine op_assign (k:=?_)
  | refine op_pick_false (k:=?_)
  | refine op_lss (k:=?_)
  | refine op_eql_str (k:=?_)
  | refine op_extract (k:=?_)
  | refine op_field1 (k:=?_)
  | refine op_add (k:=?_)
  | refine op_fieldAddr (k:=?_)
  | refine op_struct (k:=?_)
  | refine wl_nil ?_
  | refine at_then_normal ?_
  | refine at_block_normal ?_
  | refine wc_seq ?_
  | refine wc_region ?_
  | refine wc_block ?_
  | refine wc_skip ?_
  | refine wc_ret ?_
  | refine wc_cond_true (ht:=?_)
  | refine wc_cond_false (hf:=?_)
  | (refine wc_cond_dec (ht:=fun _ => ?_) (hf:=fun _ => ?_)<;> (try first | contradiction | (exfalso; omega))))
  · rw [Nat.max_eq_right (by omega)]
    exact ⟨I2, _, ⟨⟨ea, ec, xs, none, 0, [], none, 0, [], rfl, hrow, hexs, st_row0 _, .nil, st_row0 _, .nil⟩, da2, dc2, rfl⟩, hm.left (H := [_, _])⟩
  · rw [Nat.max_eq_left (by omega)]
    exact ⟨I2, _, ⟨⟨ea, ec, xs, none, 0, [], none, 0, [], rfl, hrow, hexs, st_row0 _, .nil, st_row0 _, .nil⟩, da2, dc2, rfl⟩, hm.left (H := [_, _])⟩
end
end Go.Proofs.Ytjfkjpbkmpofkaa
end
