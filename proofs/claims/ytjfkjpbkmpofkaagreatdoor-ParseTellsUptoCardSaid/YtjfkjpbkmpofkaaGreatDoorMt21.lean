/- Own work: texts RpD, RpE1, RpE2, one behind the other. -/
import Derived.Test.YtjfkjpbkmpofkaaGreatDoorMt20
section
namespace Go.Proofs.YtjfkjpbkmpofkaaGreatDoor
open Go.Fw
def AtomC (T : Sp.Src) (pb f : Nat) : Prop := ∀ (I : Imm) (la : Option Addr) (lc deep : Nat) (da : Option Addr) (dc : Nat) (s : Sp.St), TokR I T la lc → s.i ≤ T.l.length → 3 * (T.l.length - s.i) + 2 ≤ f →
  s.ds.length + 2 * (T.l.length - s.i) + 4 ≤ 1099511627776 → deep ≤ 12 → CalM Tryz.prog 71 #[ptr pb, nt s.i] I (PSt pb la lc T s.ds deep da dc) (ToEx pb la lc T deep (Sp.atom T f deep s))
def ExprC (T : Sp.Src) (pb f : Nat) : Prop := ∀ (I : Imm) (la : Option Addr) (lc deep : Nat) (da : Option Addr) (dc : Nat) (s : Sp.St) (m : Nat), TokR I T la lc → s.i ≤ T.l.length → 3 * (T.l.length - s.i) + 3 ≤ f →
  s.ds.length + 2 * (T.l.length - s.i) + 4 ≤ 1099511627776 → deep ≤ 12 → CalM Tryz.prog 67 #[ptr pb, nt s.i, nt m] I (PSt pb la lc T s.ds deep da dc) (ToEx pb la lc T deep (Sp.expr T f deep m s))
structure ExpX where
  f : Nat
  e : Sp.Ex
  s : Sp.St
  I : Imm
  ea : Option Addr
  ec : Nat
  xs : List Value
  da : Option Addr
  dc : Nat
set_option maxHeartbeats 4000000 in
theorem c_expr_step (T : Sp.Src) (pb : Nat) (hT : Ok T) (n : Nat) (ih : ∀ g, g < n → AtomC T pb g ∧ ExprC T pb g) : ExprC T pb n := by
  intro I la lc deep da dc s m hr hi hf hd hdp
  obtain ⟨f, rfl⟩ : ∃ f, n = f + 1 := ⟨n - 1, by omega⟩
  have h2 := hT.size
  have h3 := hT.len
  have hat := (ih f (by omega)).1 I la lc deep da dc s hr hi (by omega) hd hdp
  have hg := (Sp.goes_expr T f).1 deep s
  rw [Sp.expr]
  generalize Sp.atom T f deep s = r0 at hat hg ⊢
  have hg1 := hg.le
  have hg2 := hg.top hi
  have hg3 := hg.ds
  refine CalM.of fun w E hm => enter (N := 67) Tryz.func67 rfl [(0, ptr pb), (1, nt s.i), (2, nt m)] args3 rfl ?_
  repeat' (first
    | (refine m_call hm (by rfl) (by rfl) (by rfl) (by first | exact pm0 | exact pm1_0 | exact pm1_1 | exact pm1_2 | exact pm1_3 | exact pm2_0 | exact pm2_1 | exact pm2_2 | exact pm2_3 | exact pm2_4 | exact pm3_0 | exact pm3_1 | exact pm3_2) (hat) ?_; clear hm; rintro _ _ _ _ ⟨⟨ea, ec, xs, rfl, hrow, hexs⟩, da1, dc1, rfl⟩ hle hm; try simp only [setn] at hm)
    | (refine m_allocS (d := 6) hm (by rfl) (by rfl) ?_; clear hm; intro b6 _ hm)
    | (refine m_varS (d := 8) hm (by rfl) (by rfl) (by rfl) (by rfl) (by rfl) ?_; clear hm; intro b8 _ hm)
    | refine op_move (by rfl) (by rfl) (by rfl) ?_
    | refine op_assign (by rfl) (by rfl) (by rfl) ?_
    | refine op_extract (by rfl) (by rfl) (by rfl) (by rfl) ?_
    | refine wl_nil ?_
    | refine at_then_normal ?_
    | refine wc_seq ?_
    | refine wc_region ?_
    | refine wc_block ?_)
  rename_i I1 _ _
  refine wc_loop (fun x : ExpX => [(0, ptr pb), (1, nt x.s.i), (2, nt m), (6, ptr b6), (8, ptr b8)])
    (fun x w' => Mem E x.I [pObj pb la lc T x.s.ds deep x.da x.dc, dgRow x.s.ds x.da x.dc, .cell b8 (exCells x.e x.ea x.ec) 92, .cell b6 ex0 92] w' ∧ Le I x.I ∧ RowI x.I 92 6 (.slice x.ea x.e.args.length x.ec) x.e.args.length x.xs ∧ ExsAt x.I x.e.args x.xs ∧
      Sp.opL T x.f deep m x.e x.s = Sp.opL T f deep m r0.1 r0.2 ∧ 3 * (T.l.length - x.s.i) + 1 ≤ x.f ∧ x.f ≤ f ∧ x.s.i ≤ T.l.length ∧ x.s.ds.length + 2 * (T.l.length - x.s.i) ≤ s.ds.length + 2 * (T.l.length - s.i) + 1)
    (fun x => T.l.length - x.s.i) ⟨f, r0.1, r0.2, I1, ea, ec, xs, da1, dc1⟩ (by exact ⟨rfl, rfl, rfl, rfl, rfl, trivial⟩) ⟨hm.perm pm2_1, hle, hrow, hexs, rfl, by dsimp only; omega, Nat.le_refl _, hg2, by dsimp only; omega⟩ ?_
  clear hm hrow hexs hle
  rintro ⟨f1, e1, s1, I2, ea1, ec1, xs1, da2, dc2⟩ w2 ⟨hm, hle0, hrow, hexs, hO, hf1, hff, hi1, hd1⟩
  dsimp only at hm hle0 hrow hexs hO hf1 hff hi1 hd1 ⊢
  obtain ⟨f1, rfl⟩ : ∃ f', f1 = f' + 1 := ⟨f1 - 1, by omega⟩
  rw [Sp.opL] at hO
  dsimp only at hO
  replace hr := hr.le hle0
  have h1 := hT.at_ s1.i
  by_cases hc : Sp.tight (T.tok s1.i).text < m ∨ Sp.tight (T.tok s1.i).text = 0
  · rw [if_pos hc] at hO
    rw [← hO]
    repeat' (first
      | (refine m_readC hm (by rfl) (by rfl) (by rfl) (by first | exact sub_nil | exact sub1_0 | exact sub1_1 | exact sub1_2 | exact sub1_3 | exact sub2_0 | exact sub2_1 | exact sub2_2 | exact sub2_3 | exact sub2_4) (c_T s1.i hr) ?_; clear hm; intro _ hm)
      | (refine m_readC hm (by rfl) (by rfl) (by rfl) (by first | exact sub_nil | exact sub1_0 | exact sub1_1 | exact sub1_2 | exact sub1_3 | exact sub2_0 | exact sub2_1 | exact sub2_2 | exact sub2_3 | exact sub2_4) (c_tight (T.tok s1.i).text) ?_; clear hm; intro _ hm)
      | refine m_loadAll hm (by rfl) (by rfl) (by rfl) (by first | exact gt0 | exact gt1 | exact gt2 | exact gt3 | exact gt4 | exact gt5 | exact gt6) (by rfl) ?_
      | (refine m_storeAll hm (by rfl) (by rfl) (by rfl) (by rfl) (by first | exact gt0 | exact gt1 | exact gt2 | exact gt3 | exact gt4 | exact gt5 | exact gt6) (by rfl) (by rfl) (by rfl) ?_; clear hm; intro _ hm; try simp only [setn] at hm)
      | refine m_ret2_agg hm (by rfl) (by rfl) (by rfl) (by first | exact gt0 | exact gt1 | exact gt2 | exact gt3 | exact gt4 | exact gt5 | exact gt6) (by rfl) ?_
      | refine op_move (by rfl) (by rfl) (by rfl) ?_
      | refine op_assign (by rfl) (by rfl) (by rfl) ?_
      | refine op_pick_true (by rfl) (by rfl) (by rfl) (by rfl) ?_
      | refine op_pick_false (by rfl) (by rfl) (by rfl) (by rfl) ?_
      | refine op_gtr (by rfl) (by rfl) (by rfl) (by rfl) ?_
      | refine op_geq (by rfl) (by rfl) (by rfl) (by rfl) ?_
      | refine op_field1 (by rfl) (by rfl) (by rfl) (by rfl) ?_
      | refine wl_skip (by rfl) (by rfl) (by rfl) ?_
      | (refine wl_split_dec (by rfl) (by rfl) (by rfl) (fun _ => ?_) (fun _ => ?_) <;> (try first | contradiction | (exfalso; omega)))
      | refine wl_nil ?_
      | refine at_then_normal ?_
      | refine at_then_exit ?_
      | refine at_block_exit ?_
      | refine wc_seq ?_
      | refine wc_region ?_
      | refine wc_exit ?_
      | refine wc_ret ?_
      | refine wc_cond_false (by rfl) ?_
      | (refine wc_cond_dec (by rfl) (fun _ => ?_) (fun _ => ?_) <;> (try first | contradiction | (exfalso; omega))))
    all_goals first
      | exact ⟨I2, _, ⟨⟨ea1, ec1, xs1, rfl, hrow, hexs⟩, da2, dc2, rfl⟩, hm.left (H := [_, _])⟩
      | (exfalso; omega)
  · rw [if_neg hc] at hO
    have htl := Sp.tight_le (T.tok s1.i).text
    have hlt : s1.i < T.l.length := Sp.tok_lt (Sp.tight_ne (by omega))
    have hex := (ih f1 (by omega)).2 I2 la lc deep da2 dc2 s1.next (Sp.tight (T.tok s1.i).text + 1) hr (by rw [Sp.next_i]; omega) (by rw [Sp.next_i]; omega) (by rw [Sp.next_i, Sp.next_ds]; omega) hdp
    have hg := (Sp.goes_expr T f1).2.2.1 deep (Sp.tight (T.tok s1.i).text + 1) s1.next
    generalize Sp.expr T f1 deep (Sp.tight (T.tok s1.i).text + 1) s1.next = r at hO hex hg
    have hg1 := hg.le
    have hg2 := hg.top (by rw [Sp.next_i]; omega)
    have hg3 := hg.ds
    rw [Sp.next_i] at hg1 hg3
    rw [Sp.next_ds] at hg3
    repeat' (first
      | (refine m_readC hm (by rfl) (by rfl) (by rfl) (by first | exact sub_nil | exact sub1_0 | exact sub1_1 | exact sub1_2 | exact sub1_3 | exact sub2_0 | exact sub2_1 | exact sub2_2 | exact sub2_3 | exact sub2_4) (c_T s1.i hr) ?_; clear hm; intro _ hm)
      | (refine m_readC hm (by rfl) (by rfl) (by rfl) (by first | exact sub_nil | exact sub1_0 | exact sub1_1 | exact sub1_2 | exact sub1_3 | exact sub2_0 | exact sub2_1 | exact sub2_2 | exact sub2_3 | exact sub2_4) (c_tight (T.tok s1.i).text) ?_; clear hm; intro _ hm)
      | (refine m_call hm (by rfl) (by rfl) (by rfl) (by first | exact pm0 | exact pm1_0 | exact pm1_1 | exact pm1_2 | exact pm1_3 | exact pm2_0 | exact pm2_1 | exact pm2_2 | exact pm2_3 | exact pm2_4 | exact pm3_0 | exact pm3_1 | exact pm3_2) (hex) ?_; clear hm; rintro _ _ _ _ ⟨⟨ea2, ec2, xs2, rfl, hrow2, hexs2⟩, da3, dc3, rfl⟩ hle hm; try simp only [setn] at hm)
      | (refine i_buildSlice hm (by rfl) (by rfl) (by rfl) (by rfl) (by rfl) (by rfl) (by rfl) ?_; clear hm; intro I4 a4 _ hle4 hm hrow4)
      | (refine m_varS (d := 10) hm (by rfl) (by rfl) (by rfl) (by rfl) (by rfl) ?_; clear hm; intro b10 _ hm)
      | refine m_load1 hm (by rfl) (by rfl) (by rfl) (by first | exact gt0 | exact gt1 | exact gt2 | exact gt3 | exact gt4 | exact gt5 | exact gt6) (by rfl) ?_
      | refine m_loadAll hm (by rfl) (by rfl) (by rfl) (by first | exact gt0 | exact gt1 | exact gt2 | exact gt3 | exact gt4 | exact gt5 | exact gt6) (by rfl) ?_
      | (refine m_storeAll hm (by rfl) (by rfl) (by rfl) (by rfl) (by first | exact gt0 | exact gt1 | exact gt2 | exact gt3 | exact gt4 | exact gt5 | exact gt6) (by rfl) (by rfl) (by rfl) ?_; clear hm; intro _ hm; try simp only [setn] at hm)
      | refine op_move (by rfl) (by rfl) (by rfl) ?_
      | refine op_assign (by rfl) (by rfl) (by rfl) ?_
      | refine op_pick_true (by rfl) (by rfl) (by rfl) (by rfl) ?_
      | refine op_gtr (by rfl) (by rfl) (by rfl) (by rfl) ?_
      | refine op_geq (by rfl) (by rfl) (by rfl) (by rfl) ?_
      | refine op_extract (by rfl) (by rfl) (by rfl) (by rfl) ?_
      | refine op_field1 (by rfl) (by rfl) (by rfl) (by rfl) ?_
      | refine op_add (by rfl) (by rfl) (by rfl) (by rfl) (by omega) ?_
      | refine op_fieldAddr (by rfl) (by rfl) (by rfl) ?_
      | refine op_struct (by rfl) (by rfl) (by rfl) (by rfl) ?_
      | (refine wl_split_dec (by rfl) (by rfl) (by rfl) (fun _ => ?_) (fun _ => ?_) <;> (try first | contradiction | (exfalso; omega)))
      | refine wl_nil ?_
      | refine at_then_normal ?_
      | refine at_block_normal ?_
      | refine wc_seq ?_
      | refine wc_region ?_
      | refine wc_block ?_
      | refine wc_skip ?_
      | (refine wc_cond_dec (by rfl) (fun _ => ?_) (fun _ => ?_) <;> (try first | contradiction | (exfalso; omega))))
    all_goals try (exfalso; omega)
    · have hmx : max r.1.to e1.to = e1.to := by omega
      rw [hmx] at hO
      exact at_round (⟨f1, .mk 3 (T.tok s1.i).text 0 [e1, r.1] e1.fr e1.to, r.2, I4, a4, 2, _, da3, dc3⟩ : ExpX) (by exact ⟨rfl, rfl, rfl, rfl, rfl, trivial⟩)
        ⟨hm.tl, (hle0.trans hle).trans hle4, hrow4, exs2 (ExAt.le (hle.trans hle4) _ _ (exAt_cells hrow hexs)) (ExAt.le hle4 _ _ (exAt_cells hrow2 hexs2)), hO, by dsimp only; omega, by dsimp only; omega, hg2, by dsimp only; omega⟩ (by dsimp only; omega)
    · have hmx : max r.1.to e1.to = r.1.to := by omega
      rw [hmx] at hO
      exact at_round (⟨f1, .mk 3 (T.tok s1.i).text 0 [e1, r.1] e1.fr r.1.to, r.2, I4, a4, 2, _, da3, dc3⟩ : ExpX) (by exact ⟨rfl, rfl, rfl, rfl, rfl, trivial⟩)
        ⟨hm.tl, (hle0.trans hle).trans hle4, hrow4, exs2 (ExAt.le (hle.trans hle4) _ _ (exAt_cells hrow hexs)) (ExAt.le hle4 _ _ (exAt_cells hrow2 hexs2)), hO, by dsimp only; omega, by dsimp only; omega, hg2, by dsimp only; omega⟩ (by dsimp only; omega)
end Go.Proofs.YtjfkjpbkmpofkaaGreatDoor
end
section
namespace Go.Proofs.YtjfkjpbkmpofkaaGreatDoor
open Go.Fw

set_option maxHeartbeats 4000000 in
theorem c_atom_par (T : Sp.Src) (pb : Nat) (hT : Ok T) (f : Nat) (ih : ExprC T pb f) (I : Imm) (la : Option Addr) (lc deep : Nat) (da : Option Addr) (dc : Nat) (s : Sp.St) (hr : TokR I T la lc) (hi : s.i < T.l.length) (hf : 3 * (T.l.length - s.i) + 2 ≤ f + 1)
    (hd : s.ds.length + 2 * (T.l.length - s.i) + 4 ≤ 1099511627776) (hdeep : deep < 12) (hkind : (T.tok s.i).kind ≠ 2) (hpar : (T.tok s.i).text = [40]) :
    CalM Tryz.prog 71 #[ptr pb, nt s.i] I (PSt pb la lc T s.ds deep da dc) (ToEx pb la lc T deep ((Sp.expr T f (deep + 1) 1 s.next).1, ((Sp.expr T f (deep + 1) 1 s.next).2.need T [41]).2)) := by
  have h2 := hT.size
  have h3 := hT.len
  have h1 := hT.at_ s.i
  refine CalM.of fun w E hm => enter (N := 220) Tryz.func71 rfl [(0, ptr pb), (1, nt s.i)] args2 rfl ?_
  have hex := fun da dc => ih I la lc (deep + 1) da dc s.next 1 hr (by rw [Sp.next_i]; omega) (by rw [Sp.next_i]; omega) (by rw [Sp.next_i, Sp.next_ds]; omega) (by omega)
  have hg := (Sp.goes_expr T f).2.2.1 (deep + 1) 1 s.next
  generalize Sp.expr T f (deep + 1) 1 s.next = r at hex hg ⊢
  have hg1 := hg.le
  have hg2 := hg.top (by rw [Sp.next_i]; omega)
  have hg3 := hg.ds
  rw [Sp.next_i] at hg1 hg3
  rw [Sp.next_ds] at hg3
  have hsub : (((deep + 1 : Nat) : Int)) - 1 = (deep : Int) := by omega
  repeat' (first
    | (refine m_readC hm (by rfl) (by rfl) (by rfl) (by first | exact sub_nil | exact sub1_0 | exact sub1_1 | exact sub1_2 | exact sub1_3 | exact sub2_0 | exact sub2_1 | exact sub2_2 | exact sub2_3 | exact sub2_4) (c_T s.i hr) ?_; clear hm; intro _ hm)
    | (refine m_call hm (by rfl) (by rfl) (by rfl) (by first | exact pm0 | exact pm1_0 | exact pm1_1 | exact pm1_2 | exact pm1_3 | exact pm2_0 | exact pm2_1 | exact pm2_2 | exact pm2_3 | exact pm2_4 | exact pm3_0 | exact pm3_1 | exact pm3_2) (hex _ _) ?_; clear hm; rintro _ _ _ _ ⟨⟨ea, ec, xs, rfl, hrow, hexs⟩, da', dc', rfl⟩ hle hm; try simp only [setn] at hm)
    | (refine m_call hm (by rfl) (by rfl) (by rfl) (by first | exact pm0 | exact pm1_0 | exact pm1_1 | exact pm1_2 | exact pm1_3 | exact pm2_0 | exact pm2_1 | exact pm2_2 | exact pm2_3 | exact pm2_4 | exact pm3_0 | exact pm3_1 | exact pm3_2) (c_need r.2 [41] (hr.le hle) hT (by omega) hg2) ?_; clear hm; rintro _ _ _ _ ⟨rfl, rfl, da2, dc2, rfl⟩ hle hm; try simp only [setn] at hm)
    | (refine op_sub (by rfl) (by rfl) (by rfl) (by rfl) (by omega) ?_; rw [hsub])
    | (refine m_allocS (d := 4) hm (by rfl) (by rfl) ?_; clear hm; intro b4 _ hm)
    | (refine m_varS (d := 6) hm (by rfl) (by rfl) (by rfl) (by rfl) (by rfl) ?_; clear hm; intro b6 _ hm)
    | (refine m_varS (d := 10) hm (by rfl) (by rfl) (by rfl) (by rfl) (by rfl) ?_; clear hm; intro b10 _ hm)
    | refine m_load1 hm (by rfl) (by rfl) (by rfl) (by first | exact gt0 | exact gt1 | exact gt2 | exact gt3 | exact gt4 | exact gt5 | exact gt6) (by rfl) ?_
    | refine m_loadAll hm (by rfl) (by rfl) (by rfl) (by first | exact gt0 | exact gt1 | exact gt2 | exact gt3 | exact gt4 | exact gt5 | exact gt6) (by rfl) ?_
    | (refine m_storeAll hm (by rfl) (by rfl) (by rfl) (by rfl) (by first | exact gt0 | exact gt1 | exact gt2 | exact gt3 | exact gt4 | exact gt5 | exact gt6) (by rfl) (by rfl) (by rfl) ?_; clear hm; intro _ hm; try simp only [setn] at hm)
    | (refine m_store1 hm (by rfl) (by rfl) (by rfl) (by rfl) (by first | exact gt0 | exact gt1 | exact gt2 | exact gt3 | exact gt4 | exact gt5 | exact gt6) (by rfl) (by rfl) (by rfl) ?_; clear hm; intro _ hm; try simp only [setn] at hm)
    | refine m_ret2_agg hm (by rfl) (by rfl) (by rfl) (by first | exact gt0 | exact gt1 | exact gt2 | exact gt3 | exact gt4 | exact gt5 | exact gt6) (by rfl) ?_
    | refine op_move (by rfl) (by rfl) (by rfl) ?_
    | refine op_assign (by rfl) (by rfl) (by rfl) ?_
    | refine op_geq (by rfl) (by rfl) (by rfl) (by rfl) ?_
    | refine op_eql (by rfl) (by rfl) (by rfl) (by rfl) ?_
    | refine op_eql_str (by rfl) (by rfl) (by rfl) (by rfl) ?_
    | refine op_len_slice (by rfl) (by rfl) (by rfl) ?_
    | refine op_extract (by rfl) (by rfl) (by rfl) (by rfl) ?_
    | refine op_nilCheck (by rfl) (by rfl) (by rfl) ?_
    | refine op_add (by rfl) (by rfl) (by rfl) (by rfl) (by omega) ?_
    | refine op_fieldAddr (by rfl) (by rfl) (by rfl) ?_
    | refine wl_nil ?_
    | refine at_then_normal ?_
    | refine at_then_ret ?_
    | refine wc_seq ?_
    | refine wc_region ?_
    | refine wc_skip ?_
    | refine wc_ret ?_
    | (refine wc_cond_dec (by rfl) (fun _ => ?_) (fun _ => ?_) <;> (try first | contradiction | (exfalso; omega))))
  trace_state
  exact ⟨_, _, ⟨⟨ea, ec, xs, rfl, hrow, hexs⟩, da2, dc2, rfl⟩, hm.left (H := [_, _])⟩
end Go.Proofs.YtjfkjpbkmpofkaaGreatDoor
end
section
namespace Go.Proofs.YtjfkjpbkmpofkaaGreatDoor
open Go.Fw
structure ArgX where
  f : Nat
  l : List Sp.Ex
  n : Nat
  s : Sp.St
  more : Bool
  I : Imm
  a : Option Addr
  cp : Nat
  xs : List Value
  da : Option Addr
  dc : Nat
set_option maxHeartbeats 4000000 in
theorem c_atom_call (T : Sp.Src) (pb : Nat) (hT : Ok T) (f : Nat) (ih : ∀ g, g < f → ExprC T pb g) (I : Imm) (la : Option Addr) (lc deep : Nat) (da : Option Addr) (dc : Nat) (s : Sp.St) (hr : TokR I T la lc) (hf : 3 * (T.l.length - s.i) + 2 ≤ f + 1)
    (hd : s.ds.length + 2 * (T.l.length - s.i) + 4 ≤ 1099511627776) (hdeep : deep < 12) (hkind : (T.tok s.i).kind ≠ 2) (hpar : (T.tok s.i).text ≠ [40]) (hname : Sp.name (T.tok s.i).text = true) (hopen : T.is (s.i + 1) [40] = true) :
    CalM Tryz.prog 71 #[ptr pb, nt s.i] I (PSt pb la lc T s.ds deep da dc) (ToEx pb la lc T deep
      (.mk 4 (T.tok s.i).text 0 (Sp.argL T f (deep + 1) [] s.next.next).1 (T.tok s.i).pos (T.endOf ((Sp.argL T f (deep + 1) [] s.next.next).2.need T [41]).2.i), ((Sp.argL T f (deep + 1) [] s.next.next).2.need T [41]).2)) := by
  have h2 := hT.size
  have h3 := hT.len
  have h1 := hT.at_ s.i
  have hlt := Sp.is_lt hopen
  have hn := c_rname (T.tok s.i).text (by omega)
  rw [hname] at hn
  have hop := fun ds deep da dc => c_is (pb := pb) (ds := ds) (deep := deep) (da := da) (dc := dc) (s.i + 1) [40] hr
  rw [hopen] at hop
  have hg := (Sp.goes_expr T f).2.1 (deep + 1) [] s.next.next
  have hg1 := hg.le
  have hg2 := hg.top (by rw [Sp.next_i, Sp.next_i]; omega)
  have hg3 := hg.ds
  have hAi : s.next.next.i = s.i + 1 + 1 := rfl
  have hAd : s.next.next.ds = s.ds := rfl
  obtain ⟨R, hR⟩ : ∃ R, R = Sp.argL T f (deep + 1) [] s.next.next := ⟨_, rfl⟩
  rw [← hR] at hg hg1 hg2 hg3 ⊢
  have hsub : (((deep + 1 : Nat) : Int)) - 1 = (deep : Int) := by omega
  refine CalM.of fun w E hm => enter (N := 220) Tryz.func71 rfl [(0, ptr pb), (1, nt s.i)] args2 rfl ?_
  repeat' (first
    | (refine wc_mid 33 (fun b : Bool => [(0, ptr pb), (1, nt s.next.next.i), (4, ptr b4), (12, ptr b12), (13, .bool b)]) (fun b w' => Mem E I [.cell b12 [nt 4, str (T.tok s.i).text, nt 0, .slice none 0 0, nt (T.tok s.i).pos, nt ((T.tok s.i).pos + (T.tok s.i).text.length)] 92, .cell b6 (encTok (T.tok s.i)) 70, .cell b4 ex0 92, pObj pb la lc T s.ds (deep + 1) da dc, dgRow s.ds da dc] w' ∧ b = (decide (s.next.next.i < T.l.length) && !T.is s.next.next.i [41])) ?_ ?_)
    | (refine m_readC hm (by rfl) (by rfl) (by rfl) (by first | exact sub_nil | exact sub1_0 | exact sub1_1 | exact sub1_2 | exact sub1_3 | exact sub2_0 | exact sub2_1 | exact sub2_2 | exact sub2_3 | exact sub2_4) (c_T s.i hr) ?_; clear hm; intro _ hm)
    | (refine op_call (by rfl) (by rfl) (by rfl) (by exact hn _) ?_; rintro _ _ ⟨rfl, hk⟩; replace hm := hm.kept0 hk)
    | (refine m_readC hm (by rfl) (by rfl) (by rfl) (by first | exact sub_nil | exact sub1_0 | exact sub1_1 | exact sub1_2 | exact sub1_3 | exact sub2_0 | exact sub2_1 | exact sub2_2 | exact sub2_3 | exact sub2_4) (hop _ _ _ _) ?_; clear hm; intro _ hm)
    | (refine m_readC hm (by rfl) (by rfl) (by rfl) (by first | exact sub_nil | exact sub1_0 | exact sub1_1 | exact sub1_2 | exact sub1_3 | exact sub2_0 | exact sub2_1 | exact sub2_2 | exact sub2_3 | exact sub2_4) (c_is (s.i + 1 + 1) [41] hr) ?_; clear hm; intro _ hm)
    | (refine m_allocS (d := 4) hm (by rfl) (by rfl) ?_; clear hm; intro b4 _ hm)
    | (refine m_varS (d := 6) hm (by rfl) (by rfl) (by rfl) (by rfl) (by rfl) ?_; clear hm; intro b6 _ hm)
    | (refine m_varS (d := 12) hm (by rfl) (by rfl) (by rfl) (by rfl) (by rfl) ?_; clear hm; intro b12 _ hm)
    | refine m_load1 hm (by rfl) (by rfl) (by rfl) (by first | exact gt0 | exact gt1 | exact gt2 | exact gt3 | exact gt4 | exact gt5 | exact gt6) (by rfl) ?_
    | (refine m_store1 hm (by rfl) (by rfl) (by rfl) (by rfl) (by first | exact gt0 | exact gt1 | exact gt2 | exact gt3 | exact gt4 | exact gt5 | exact gt6) (by rfl) (by rfl) (by rfl) ?_; clear hm; intro _ hm; try simp only [setn] at hm)
    | refine op_move (by rfl) (by rfl) (by rfl) ?_
    | refine op_assign (by rfl) (by rfl) (by rfl) ?_
    | refine op_pick_true (by rfl) (by rfl) (by rfl) (by rfl) ?_
    | refine op_pick_false (by rfl) (by rfl) (by rfl) (by rfl) ?_
    | refine op_lss (by rfl) (by rfl) (by rfl) (by rfl) ?_
    | refine op_geq (by rfl) (by rfl) (by rfl) (by rfl) ?_
    | refine op_eql (by rfl) (by rfl) (by rfl) (by rfl) ?_
    | refine op_eql_str (by rfl) (by rfl) (by rfl) (by rfl) ?_
    | refine op_len_str (by rfl) (by rfl) (by rfl) ?_
    | refine op_len_slice (by rfl) (by rfl) (by rfl) ?_
    | refine op_not (by rfl) (by rfl) (by rfl) ?_
    | refine op_nilCheck (by rfl) (by rfl) (by rfl) ?_
    | refine op_add (by rfl) (by rfl) (by rfl) (by rfl) (by omega) ?_
    | refine op_fieldAddr (by rfl) (by rfl) (by rfl) ?_
    | refine op_struct (by rfl) (by rfl) (by rfl) (by rfl) ?_
    | refine wl_skip (by rfl) (by rfl) (by rfl) ?_
    | (refine wl_split_dec (by rfl) (by rfl) (by rfl) (fun _ => ?_) (fun _ => ?_) <;> (try first | contradiction | (exfalso; omega)))
    | refine wl_nil ?_
    | refine at_then_normal ?_
    | refine wc_seq ?_
    | refine wc_region ?_
    | refine wc_skip ?_
    | refine wc_cond_false (by rfl) ?_
    | (refine wc_cond_dec (by rfl) (fun _ => ?_) (fun _ => ?_) <;> (try first | contradiction | (exfalso; omega))))
  · refine at_cut _ (by exact ⟨rfl, rfl, rfl, rfl, rfl, trivial⟩) ⟨hm, ?_⟩
    rw [decide_eq_true (by omega), Bool.true_and, hAi]
  · refine at_cut _ (by exact ⟨rfl, rfl, rfl, rfl, rfl, trivial⟩) ⟨hm, ?_⟩
    rw [decide_eq_false (by omega), Bool.false_and]
  clear hm hn hop
  rintro b w1 ⟨hm, hb⟩
  repeat' (first
    | refine at_then_normal ?_
    | refine wc_block ?_)
  have hm := hm.nil 92 6
  refine wc_loop (fun x : ArgX => [(0, ptr pb), (1, nt x.s.i), (4, ptr b4), (12, ptr b12), (13, .bool x.more)])
    (fun x w' => Mem E x.I [pObj pb la lc T x.s.ds (deep + 1) x.da x.dc, dgRow x.s.ds x.da x.dc, .row (.slice x.a x.n x.cp) 92 6 x.n x.xs, .cell b12 [nt 4, str (T.tok s.i).text, nt 0, .slice x.a x.n x.cp, nt (T.tok s.i).pos, nt ((T.tok s.i).pos + (T.tok s.i).text.length)] 92, .cell b6 (encTok (T.tok s.i)) 70, .cell b4 ex0 92] w' ∧
      Le I x.I ∧ ExsAt x.I x.l x.xs ∧ x.l.length = x.n ∧ x.n ≤ 5 ∧ x.f ≤ f ∧ x.s.i ≤ T.l.length ∧ x.s.ds.length + 2 * (T.l.length - x.s.i) ≤ s.ds.length + 2 * (T.l.length - s.i) + 1 ∧
      (x.more = true → x.s.i < T.l.length ∧ T.is x.s.i [41] = false ∧ Sp.argL T x.f (deep + 1) x.l x.s = R ∧ 3 * (T.l.length - x.s.i) + 4 ≤ x.f ∧ x.s.ds.length + 2 * (T.l.length - x.s.i) ≤ s.ds.length + 2 * (T.l.length - s.i)) ∧
      (x.more = false → R = (x.l, x.s)))
    (fun x => 2 * (T.l.length - x.s.i) + x.more.toNat) ⟨f, [], 0, s.next.next, b, I, none, 0, [], da, dc⟩ (by exact ⟨rfl, rfl, rfl, rfl, rfl, trivial⟩) ⟨by rw [hAd]; exact hm.perm pm2_4, Le.refl _, .nil, rfl, by dsimp only; omega, Nat.le_refl _, by dsimp only; omega, by dsimp only; rw [hAd]; omega, ?_, ?_⟩ ?_
  · intro hb'
    dsimp only at hb' ⊢
    rw [hb', eq_comm, Bool.and_eq_true, decide_eq_true_eq, Bool.not_eq_true'] at hb
    exact ⟨hb.1, hb.2, hR.symm, by omega, by rw [hAd]; omega⟩
  · intro hb'
    dsimp only at hb' ⊢
    rw [hb', eq_comm, Bool.and_eq_false_iff, decide_eq_false_iff_not, Bool.not_eq_false'] at hb
    obtain ⟨f1, rfl⟩ : ∃ f1, f = f1 + 1 := ⟨f - 1, by omega⟩
    rw [hR, Sp.argL, if_pos (hb.imp_left (by omega))]
  clear hm hb
  rintro ⟨f1, l1, n1, s1, more, I1, a1, cp1, xs1, da1, dc1⟩ w2 ⟨hm, hle0, hexs, hn1, hn5, hff, hi1, hd1, hmt, hmf⟩
  dsimp only at hm hle0 hexs hn1 hn5 hff hi1 hd1 hmt hmf ⊢
  have hr1 := hr.le hle0
  cases more
  case false =>
    have hR' := hmf rfl
    subst hR'
    have hg4 := (Sp.goes_need T s1 [41]).top hi1
    repeat' (first
      | (refine m_call hm (by rfl) (by rfl) (by rfl) (by first | exact pm0 | exact pm1_0 | exact pm1_1 | exact pm1_2 | exact pm1_3 | exact pm2_0 | exact pm2_1 | exact pm2_2 | exact pm2_3 | exact pm2_4 | exact pm3_0 | exact pm3_1 | exact pm3_2) (c_need s1 [41] hr1 hT (by omega) hi1) ?_; clear hm; rintro _ _ _ _ ⟨rfl, rfl, da2, dc2, rfl⟩ hle hm; try simp only [setn] at hm)
      | (refine op_sub (by rfl) (by rfl) (by rfl) (by rfl) (by omega) ?_; rw [hsub])
      | (refine m_readC hm (by rfl) (by rfl) (by rfl) (by first | exact sub_nil | exact sub1_0 | exact sub1_1 | exact sub1_2 | exact sub1_3 | exact sub2_0 | exact sub2_1 | exact sub2_2 | exact sub2_3 | exact sub2_4) (c_end (s1.need T [41]).2.i hr1 hT hg4) ?_; clear hm; intro _ hm)
      | refine m_load1 hm (by rfl) (by rfl) (by rfl) (by first | exact gt0 | exact gt1 | exact gt2 | exact gt3 | exact gt4 | exact gt5 | exact gt6) (by rfl) ?_
      | refine m_loadAll hm (by rfl) (by rfl) (by rfl) (by first | exact gt0 | exact gt1 | exact gt2 | exact gt3 | exact gt4 | exact gt5 | exact gt6) (by rfl) ?_
      | (refine m_storeAll hm (by rfl) (by rfl) (by rfl) (by rfl) (by first | exact gt0 | exact gt1 | exact gt2 | exact gt3 | exact gt4 | exact gt5 | exact gt6) (by rfl) (by rfl) (by rfl) ?_; clear hm; intro _ hm; try simp only [setn] at hm)
      | (refine m_store1 hm (by rfl) (by rfl) (by rfl) (by rfl) (by first | exact gt0 | exact gt1 | exact gt2 | exact gt3 | exact gt4 | exact gt5 | exact gt6) (by rfl) (by rfl) (by rfl) ?_; clear hm; intro _ hm; try simp only [setn] at hm)
      | refine m_ret2_agg hm (by rfl) (by rfl) (by rfl) (by first | exact gt0 | exact gt1 | exact gt2 | exact gt3 | exact gt4 | exact gt5 | exact gt6) (by rfl) ?_
      | refine op_move (by rfl) (by rfl) (by rfl) ?_
      | refine op_assign (by rfl) (by rfl) (by rfl) ?_
      | refine op_extract (by rfl) (by rfl) (by rfl) (by rfl) ?_
      | refine op_nilCheck (by rfl) (by rfl) (by rfl) ?_
      | refine op_fieldAddr (by rfl) (by rfl) (by rfl) ?_
      | refine wl_nil ?_
      | refine at_then_normal ?_
      | refine at_then_exit ?_
      | refine at_block_exit ?_
      | refine wc_seq ?_
      | refine wc_region ?_
      | refine wc_exit ?_
      | refine wc_ret ?_
      | refine wc_cond_false (by rfl) ?_)
    subst hn1
    obtain ⟨I3, hle3, hm3, hrow3⟩ := (hm.perm pm1_2).freeze
    exact ⟨I3, _, ⟨⟨a1, cp1, xs1, rfl, hrow3, ExsAt.le hle3 _ _ hexs⟩, da2, dc2, rfl⟩, hm3.left (H := [_, _])⟩
  obtain ⟨hlt1, his1, hL, hf1, hd2⟩ := hmt rfl
  obtain ⟨f1, rfl⟩ : ∃ f', f1 = f' + 1 := ⟨f1 - 1, by omega⟩
  rw [Sp.argL, if_neg (by rw [his1]; simp; omega)] at hL
  by_cases h5 : l1.length = 5
  · rw [if_pos h5] at hL
    have hg4 := (Sp.goes_need T (s1.bad T 5) [41]).top hi1
    have hbd : (s1.bad T 5).ds.length = s1.ds.length + 1 := by simp [Sp.St.bad]
    subst hL
    repeat' (first
      | (refine m_call hm (by rfl) (by rfl) (by rfl) (by first | exact pm0 | exact pm1_0 | exact pm1_1 | exact pm1_2 | exact pm1_3 | exact pm2_0 | exact pm2_1 | exact pm2_2 | exact pm2_3 | exact pm2_4 | exact pm3_0 | exact pm3_1 | exact pm3_2) (c_bad s1.i 5 hr1 hT (by omega)) ?_; clear hm; rintro _ _ _ _ ⟨rfl, rfl, da2, dc2, rfl⟩ hle hm; try simp only [setn] at hm)
      | (refine m_call hm (by rfl) (by rfl) (by rfl) (by first | exact pm0 | exact pm1_0 | exact pm1_1 | exact pm1_2 | exact pm1_3 | exact pm2_0 | exact pm2_1 | exact pm2_2 | exact pm2_3 | exact pm2_4 | exact pm3_0 | exact pm3_1 | exact pm3_2) (c_need (s1.bad T 5) [41] hr1 hT (by omega) hi1) ?_; clear hm; rintro _ _ _ _ ⟨rfl, rfl, da3, dc3, rfl⟩ hle hm; try simp only [setn] at hm)
      | (refine op_sub (by rfl) (by rfl) (by rfl) (by rfl) (by omega) ?_; rw [hsub])
      | (refine m_readC hm (by rfl) (by rfl) (by rfl) (by first | exact sub_nil | exact sub1_0 | exact sub1_1 | exact sub1_2 | exact sub1_3 | exact sub2_0 | exact sub2_1 | exact sub2_2 | exact sub2_3 | exact sub2_4) (c_end ((s1.bad T 5).need T [41]).2.i hr1 hT hg4) ?_; clear hm; intro _ hm)
      | refine m_load1 hm (by rfl) (by rfl) (by rfl) (by first | exact gt0 | exact gt1 | exact gt2 | exact gt3 | exact gt4 | exact gt5 | exact gt6) (by rfl) ?_
      | refine m_loadAll hm (by rfl) (by rfl) (by rfl) (by first | exact gt0 | exact gt1 | exact gt2 | exact gt3 | exact gt4 | exact gt5 | exact gt6) (by rfl) ?_
      | (refine m_storeAll hm (by rfl) (by rfl) (by rfl) (by rfl) (by first | exact gt0 | exact gt1 | exact gt2 | exact gt3 | exact gt4 | exact gt5 | exact gt6) (by rfl) (by rfl) (by rfl) ?_; clear hm; intro _ hm; try simp only [setn] at hm)
      | (refine m_store1 hm (by rfl) (by rfl) (by rfl) (by rfl) (by first | exact gt0 | exact gt1 | exact gt2 | exact gt3 | exact gt4 | exact gt5 | exact gt6) (by rfl) (by rfl) (by rfl) ?_; clear hm; intro _ hm; try simp only [setn] at hm)
      | refine m_ret2_agg hm (by rfl) (by rfl) (by rfl) (by first | exact gt0 | exact gt1 | exact gt2 | exact gt3 | exact gt4 | exact gt5 | exact gt6) (by rfl) ?_
      | refine op_move (by rfl) (by rfl) (by rfl) ?_
      | refine op_assign (by rfl) (by rfl) (by rfl) ?_
      | refine op_eql (by rfl) (by rfl) (by rfl) (by rfl) ?_
      | refine op_len_slice (by rfl) (by rfl) (by rfl) ?_
      | refine op_extract (by rfl) (by rfl) (by rfl) (by rfl) ?_
      | refine op_nilCheck (by rfl) (by rfl) (by rfl) ?_
      | refine op_fieldAddr (by rfl) (by rfl) (by rfl) ?_
      | refine wl_nil ?_
      | refine at_then_normal ?_
      | refine at_then_exit ?_
      | refine at_block_exit ?_
      | refine at_block_other (by rfl) ?_
      | refine wc_seq ?_
      | refine wc_region ?_
      | refine wc_block ?_
      | refine wc_skip ?_
      | refine wc_exit ?_
      | refine wc_ret ?_
      | refine wc_cond_true (by rfl) ?_
      | (refine wc_cond_dec (by rfl) (fun _ => ?_) (fun _ => ?_) <;> (try first | contradiction | (exfalso; omega))))
    all_goals try (exfalso; omega)
    subst hn1
    obtain ⟨I3, hle3, hm3, hrow3⟩ := (hm.perm pm1_2).freeze
    exact ⟨I3, _, ⟨⟨a1, cp1, xs1, rfl, hrow3, ExsAt.le hle3 _ _ hexs⟩, da3, dc3, rfl⟩, hm3.left (H := [_, _])⟩
  rw [if_neg h5] at hL
  dsimp only at hL
  have hex := fun da dc => ih f1 (by omega) I1 la lc (deep + 1) da dc s1 1 hr1 (by omega) (by omega) (by omega) (by omega)
  have hgr := (Sp.goes_expr T f1).2.2.1 (deep + 1) 1 s1
  generalize Sp.expr T f1 (deep + 1) 1 s1 = r at hL hex hgr
  have hgr1 := hgr.le
  have hgr2 := hgr.top hi1
  have hgr3 := hgr.ds
  have hq := fun I (hr : TokR I T la lc) ds deep da dc => c_is (pb := pb) (ds := ds) (deep := deep) (da := da) (dc := dc) r.2.i [44] hr
  have hnl : (l1 ++ [r.1]).length = n1 + 1 := by simp [hn1]
  have hn4 : n1 < 5 := by omega
  have hni : r.2.next.i = r.2.i + 1 := rfl
  have hnd : r.2.next.ds.length = r.2.ds.length := rfl
  by_cases hcomma : T.is r.2.i [44] = true
  · rw [if_pos hcomma] at hL
    rw [hcomma] at hq
    have hlt2 := Sp.is_lt hcomma
    repeat' (first
      | (refine m_call hm (by rfl) (by rfl) (by rfl) (by first | exact pm0 | exact pm1_0 | exact pm1_1 | exact pm1_2 | exact pm1_3 | exact pm2_0 | exact pm2_1 | exact pm2_2 | exact pm2_3 | exact pm2_4 | exact pm3_0 | exact pm3_1 | exact pm3_2) (hex _ _) ?_; clear hm; rintro _ I2 _ _ ⟨⟨ea, ec, xs, rfl, hrow, hexs2⟩, da', dc', rfl⟩ hle hm; have hleI2 := hle; try simp only [setn] at hm)
      | (refine m_readC hm (by rfl) (by rfl) (by rfl) (by first | exact sub_nil | exact sub1_0 | exact sub1_1 | exact sub1_2 | exact sub1_3 | exact sub2_0 | exact sub2_1 | exact sub2_2 | exact sub2_3 | exact sub2_4) (hq _ (hr1.le hle) _ _ _ _) ?_; clear hm; intro _ hm)
      | (refine m_readC hm (by rfl) (by rfl) (by rfl) (by first | exact sub_nil | exact sub1_0 | exact sub1_1 | exact sub1_2 | exact sub1_3 | exact sub2_0 | exact sub2_1 | exact sub2_2 | exact sub2_3 | exact sub2_4) (c_is (r.2.i + 1) [41] (hr1.le hle)) ?_; clear hm; intro _ hm)
      | (refine m_varS (d := 14) hm (by rfl) (by rfl) (by rfl) (by rfl) (by rfl) ?_; clear hm; intro b14 _ hm)
      | (refine m_push (d := 179) hm (by rfl) (by rfl) (by rfl) (by rfl) (by rfl) (by first | exact gt0 | exact gt1 | exact gt2 | exact gt3 | exact gt4 | exact gt5 | exact gt6) (by rfl) (by rfl) (by rfl) (by rfl) (by omega) (by omega) ?_; clear hm; intro a179 cp179 _ _ hm; try simp only [setn] at hm)
      | refine m_load1 hm (by rfl) (by rfl) (by rfl) (by first | exact gt0 | exact gt1 | exact gt2 | exact gt3 | exact gt4 | exact gt5 | exact gt6) (by rfl) ?_
      | refine m_loadAll hm (by rfl) (by rfl) (by rfl) (by first | exact gt0 | exact gt1 | exact gt2 | exact gt3 | exact gt4 | exact gt5 | exact gt6) (by rfl) ?_
      | (refine m_store1 hm (by rfl) (by rfl) (by rfl) (by rfl) (by first | exact gt0 | exact gt1 | exact gt2 | exact gt3 | exact gt4 | exact gt5 | exact gt6) (by rfl) (by rfl) (by rfl) ?_; clear hm; intro _ hm; try simp only [setn] at hm)
      | refine op_move (by rfl) (by rfl) (by rfl) ?_
      | refine op_assign (by rfl) (by rfl) (by rfl) ?_
      | refine op_pick_true (by rfl) (by rfl) (by rfl) (by rfl) ?_
      | refine op_pick_false (by rfl) (by rfl) (by rfl) (by rfl) ?_
      | refine op_lss (by rfl) (by rfl) (by rfl) (by rfl) ?_
      | refine op_eql (by rfl) (by rfl) (by rfl) (by rfl) ?_
      | refine op_len_slice (by rfl) (by rfl) (by rfl) ?_
      | refine op_not (by rfl) (by rfl) (by rfl) ?_
      | refine op_extract (by rfl) (by rfl) (by rfl) (by rfl) ?_
      | refine op_nilCheck (by rfl) (by rfl) (by rfl) ?_
      | refine op_add (by rfl) (by rfl) (by rfl) (by rfl) (by omega) ?_
      | refine op_fieldAddr (by rfl) (by rfl) (by rfl) ?_
      | refine wl_skip (by rfl) (by rfl) (by rfl) ?_
      | (refine wl_split_dec (by rfl) (by rfl) (by rfl) (fun _ => ?_) (fun _ => ?_) <;> (try first | contradiction | (exfalso; omega)))
      | refine wl_nil ?_
      | refine at_then_normal ?_
      | refine at_block_normal ?_
      | refine wc_seq ?_
      | refine wc_region ?_
      | refine wc_block ?_
      | refine wc_skip ?_
      | refine wc_cond_true (by rfl) ?_
      | (refine wc_cond_dec (by rfl) (fun _ => ?_) (fun _ => ?_) <;> (try first | contradiction | (exfalso; omega))))
    all_goals try (exfalso; omega)
    · refine at_round (⟨f1, l1 ++ [r.1], n1 + 1, r.2.next, !T.is (r.2.i + 1) [41], I2, _, _, _, da', dc'⟩ : ArgX) (by exact ⟨rfl, rfl, rfl, rfl, rfl, trivial⟩) ⟨hm.tl, hle0.trans hle, (ExsAt.le hle _ _ hexs).snoc (exAt_cells hrow hexs2), hnl, by dsimp only; omega, by dsimp only; omega, by dsimp only; omega, by dsimp only; omega, ?_, ?_⟩ (by dsimp only [Bool.toNat_true]; have := Bool.toNat_le (!T.is (r.2.i + 1) [41]); omega)
      · intro hb
        dsimp only at hb ⊢
        exact ⟨by omega, (show T.is (r.2.i + 1) [41] = false by simpa using hb), hL, by omega, by omega⟩
      · intro hb
        dsimp only at hb ⊢
        obtain ⟨f1, rfl⟩ : ∃ f', f1 = f' + 1 := ⟨f1 - 1, by omega⟩
        rw [← hL, Sp.argL, if_pos (.inr (show T.is (r.2.i + 1) [41] = true by simpa using hb))]
    · refine at_round (⟨f1, l1 ++ [r.1], n1 + 1, r.2.next, false, I2, _, _, _, da', dc'⟩ : ArgX) (by exact ⟨rfl, rfl, rfl, rfl, rfl, trivial⟩) ⟨hm.tl, hle0.trans hle, (ExsAt.le hle _ _ hexs).snoc (exAt_cells hrow hexs2), hnl, by dsimp only; omega, by dsimp only; omega, by dsimp only; omega, by dsimp only; omega, fun h => (by cases h), fun _ => ?_⟩ (by dsimp only [Bool.toNat_true, Bool.toNat_false]; omega)
      dsimp only
      obtain ⟨f1, rfl⟩ : ∃ f', f1 = f' + 1 := ⟨f1 - 1, by omega⟩
      rw [← hL, Sp.argL, if_pos (.inl (by omega))]
  · rw [if_neg hcomma] at hL
    rw [show T.is r.2.i [44] = false by simpa using hcomma] at hq
    repeat' (first
      | (refine m_call hm (by rfl) (by rfl) (by rfl) (by first | exact pm0 | exact pm1_0 | exact pm1_1 | exact pm1_2 | exact pm1_3 | exact pm2_0 | exact pm2_1 | exact pm2_2 | exact pm2_3 | exact pm2_4 | exact pm3_0 | exact pm3_1 | exact pm3_2) (hex _ _) ?_; clear hm; rintro _ I2 _ _ ⟨⟨ea, ec, xs, rfl, hrow, hexs2⟩, da', dc', rfl⟩ hle hm; have hleI2 := hle; try simp only [setn] at hm)
      | (refine m_readC hm (by rfl) (by rfl) (by rfl) (by first | exact sub_nil | exact sub1_0 | exact sub1_1 | exact sub1_2 | exact sub1_3 | exact sub2_0 | exact sub2_1 | exact sub2_2 | exact sub2_3 | exact sub2_4) (hq _ (hr1.le hle) _ _ _ _) ?_; clear hm; intro _ hm)
      | (refine m_varS (d := 14) hm (by rfl) (by rfl) (by rfl) (by rfl) (by rfl) ?_; clear hm; intro b14 _ hm)
      | (refine m_push (d := 179) hm (by rfl) (by rfl) (by rfl) (by rfl) (by rfl) (by first | exact gt0 | exact gt1 | exact gt2 | exact gt3 | exact gt4 | exact gt5 | exact gt6) (by rfl) (by rfl) (by rfl) (by rfl) (by omega) (by omega) ?_; clear hm; intro a179 cp179 _ _ hm; try simp only [setn] at hm)
      | refine m_load1 hm (by rfl) (by rfl) (by rfl) (by first | exact gt0 | exact gt1 | exact gt2 | exact gt3 | exact gt4 | exact gt5 | exact gt6) (by rfl) ?_
      | refine m_loadAll hm (by rfl) (by rfl) (by rfl) (by first | exact gt0 | exact gt1 | exact gt2 | exact gt3 | exact gt4 | exact gt5 | exact gt6) (by rfl) ?_
      | (refine m_store1 hm (by rfl) (by rfl) (by rfl) (by rfl) (by first | exact gt0 | exact gt1 | exact gt2 | exact gt3 | exact gt4 | exact gt5 | exact gt6) (by rfl) (by rfl) (by rfl) ?_; clear hm; intro _ hm; try simp only [setn] at hm)
      | refine op_move (by rfl) (by rfl) (by rfl) ?_
      | refine op_assign (by rfl) (by rfl) (by rfl) ?_
      | refine op_eql (by rfl) (by rfl) (by rfl) (by rfl) ?_
      | refine op_len_slice (by rfl) (by rfl) (by rfl) ?_
      | refine op_extract (by rfl) (by rfl) (by rfl) (by rfl) ?_
      | refine op_fieldAddr (by rfl) (by rfl) (by rfl) ?_
      | refine wl_nil ?_
      | refine at_then_normal ?_
      | refine at_block_normal ?_
      | refine wc_seq ?_
      | refine wc_region ?_
      | refine wc_block ?_
      | refine wc_skip ?_
      | refine wc_cond_true (by rfl) ?_
      | refine wc_cond_false (by rfl) ?_
      | (refine wc_cond_dec (by rfl) (fun _ => ?_) (fun _ => ?_) <;> (try first | contradiction | (exfalso; omega))))
    all_goals try (exfalso; omega)
    exact at_round (⟨f1, l1 ++ [r.1], n1 + 1, r.2, false, I2, _, _, _, da', dc'⟩ : ArgX) (by exact ⟨rfl, rfl, rfl, rfl, rfl, trivial⟩) ⟨hm.tl, hle0.trans hle, (ExsAt.le hle _ _ hexs).snoc (exAt_cells hrow hexs2), hnl, by dsimp only; omega, by dsimp only; omega, hgr2, by dsimp only; omega, fun h => (by cases h), fun _ => hL.symm⟩ (by dsimp only [Bool.toNat_true, Bool.toNat_false]; omega)
end Go.Proofs.YtjfkjpbkmpofkaaGreatDoor
end
