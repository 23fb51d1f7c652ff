/- Own work: texts PpE, PpF, PpG, PpH, one behind the other. -/
import Derived.Test.YthmdffgiockcbaaGreatDoorRb19
import Derived.Lib.MinMax
section
namespace Go.Fw
open Go
section
variable {P : Program} {N : Nat} {ds : List Deferred} {Q : Exit → Act → World → Prop} {K : Act → World → Prop} {l : Log} {w : World} {ops : Array Oper} {os : List Oper}
variable {d : Nat} {ty : TypeId} {pos : String} {af : Array Edge} {g : Option (Nat × Bool)} {t t' : TypeId} {x y : Operand}
theorem op_max {ts : Array TypeId} {a b : Nat} (hw : want ops l ⟨some d, .call ⟨.builtin .max, #[x, y], ts⟩, ty, pos, af, g⟩ = some true) (hN : Nat.blt d N = true)
    (hx : ev l x = some (.int .i64 (a : Int))) (hy : ev l y = some (.int .i64 (b : Int))) (k : WL P N ds ops Q os ((d, .int .i64 ((max a b : Nat) : Int)) :: l) w) :
    WL P N ds ops Q (⟨some d, .call ⟨.builtin .max, #[x, y], ts⟩, ty, pos, af, g⟩ :: os) l w :=
  wl_value rfl hw hN (fun c hc => by
    have h := Lib.run_max_ints (P := P) w ts ty .i64 .i64 (a : Int) (b : Int)
    simp [execOp, resolve, invoke, builtin, hc.ev hx, hc.ev hy, h]
    omega) k
theorem q_max {ts : Array TypeId} {a b : Nat} (hw : want ops l ⟨some d, .call ⟨.builtin .max, #[x, y], ts⟩, ty, pos, af, g⟩ = some true) (hN : Nat.blt d N = true)
    (hx : ev l x = some (.int .i64 (a : Int))) (hy : ev l y = some (.int .i64 (b : Int))) (k : WQ P N ds ops w K os ((d, .int .i64 ((max a b : Nat) : Int)) :: l)) :
    WQ P N ds ops w K (⟨some d, .call ⟨.builtin .max, #[x, y], ts⟩, ty, pos, af, g⟩ :: os) l :=
  wq_value rfl hw hN (fun w' hkq c hc => by
    have h := Lib.run_max_ints (P := P) w' ts ty .i64 .i64 (a : Int) (b : Int)
    simp [execOp, resolve, invoke, builtin, hc.ev hx, hc.ev hy, h]
    omega) k
end
end Go.Fw
namespace Go.Proofs.YthmdffgiockcbaaGreatDoor
open Go.Fw
def AtomQ (T : Sp.Src) (pb f : Nat) : Prop := ∀ (I : Imm) (la : Option Addr) (lc deep : Nat) (da : Option Addr) (dc : Nat) (s : Sp.St), Conv I → TokR I T la lc → s.i ≤ T.l.length → 3 * (T.l.length - s.i) + 2 ≤ f →
  s.ds.length + 2 * (T.l.length - s.i) + 4 ≤ 1099511627776 → deep ≤ 12 → CalM Tryz.prog 195 #[ptr pb] I (QSt pb la lc T s deep da dc) (ToQE pb la lc T deep (Sp.atom T f deep s))
def ExprQ (T : Sp.Src) (pb f : Nat) : Prop := ∀ (I : Imm) (la : Option Addr) (lc deep : Nat) (da : Option Addr) (dc : Nat) (s : Sp.St) (m : Nat), Conv I → TokR I T la lc → s.i ≤ T.l.length → 3 * (T.l.length - s.i) + 3 ≤ f →
  s.ds.length + 2 * (T.l.length - s.i) + 4 ≤ 1099511627776 → deep ≤ 12 → CalM Tryz.prog 184 #[ptr pb, nt m] I (QSt pb la lc T s deep da dc) (ToQE pb la lc T deep (Sp.expr T f deep m s))
structure QExp where
  f : Nat
  e : Sp.Ex
  s : Sp.St
  I : Imm
  ea : Option Addr
  ec : Nat
  xs : List Value
  da : Option Addr
  dc : Nat
set_option maxHeartbeats 4000000 in
theorem p_expr_step (T : Sp.Src) (pb : Nat) (hT : Ok T) (n : Nat) (ih : ∀ g, g < n → AtomQ T pb g ∧ ExprQ T pb g) : ExprQ T pb n := by
  intro I la lc deep da dc s m hC hr hi hf hd hdp
  obtain ⟨f, rfl⟩ : ∃ f, n = f + 1 := ⟨n - 1, by omega⟩
  have h2 := hT.size
  have h3 := hT.len
  have hat := (ih f (by omega)).1 I la lc deep da dc s hC hr hi (by omega) hd hdp
  have hg := (Sp.goes_expr T f).1 deep s
  rw [Sp.expr]
  generalize Sp.atom T f deep s = r0 at hat hg ⊢
  have hg1 := hg.le
  have hg2 := hg.top hi
  have hg3 := hg.ds
  refine CalM.of fun w E hm => enter (N := 47) Tryz.func184 rfl [(0, ptr pb), (1, nt m)] args2 rfl ?_
  repeat' (first|(refine m_call hm (hc:=hat) (k:=?_); clear hm; rintro _ I1 _ _ ⟨⟨ea, ec, xs, rfl, hrow, hexs⟩, da1, dc1, rfl⟩ hle hm; have hleI1 := hle; try simp only [setn] at hm)|(refine m_allocS (d:=4) hm (k:=?_); clear hm; intro b4 _ hm)|(refine m_varS (d:=5) hm (k:=?_); clear hm; intro b5 _ hm)|refine op_move (k:=?_)|refine wl_nil ?_|refine at_then_normal ?_|refine wc_seq ?_|refine wc_region ?_|refine wc_block ?_)
  refine wc_loop (fun x : QExp => [(0, ptr pb), (1, nt m), (4, ptr b4), (5, ptr b5)])
    (fun x w' => Mem E x.I [qObj pb la lc T x.s deep x.da x.dc, dgRow x.s.ds x.da x.dc, .cell b5 (exCells x.e x.ea x.ec) 102, .cell b4 ex0 102] w' ∧ Le I x.I ∧ RowI x.I 102 6 (.slice x.ea x.e.args.length x.ec) x.e.args.length x.xs ∧ ExsAt x.I x.e.args x.xs ∧
      Sp.opL T x.f deep m x.e x.s = Sp.opL T f deep m r0.1 r0.2 ∧ 3 * (T.l.length - x.s.i) + 1 ≤ x.f ∧ x.f ≤ f ∧ x.s.i ≤ T.l.length ∧ x.s.ds.length + 2 * (T.l.length - x.s.i) ≤ s.ds.length + 2 * (T.l.length - s.i) + 1)
    (fun x => T.l.length - x.s.i) ⟨f, r0.1, r0.2, I1, ea, ec, xs, da1, dc1⟩ (by exact ⟨rfl, rfl, rfl, rfl, trivial⟩) ⟨hm.perm pm2_1, hleI1, hrow, hexs, rfl, by dsimp only; omega, Nat.le_refl _, hg2, by dsimp only; omega⟩ ?_
  clear hm hrow hexs hleI1
  rintro ⟨f1, e1, s1, I2, ea1, ec1, xs1, da2, dc2⟩ w2 ⟨hm, hle0, hrow, hexs, hO, hf1, hff, hi1, hd1⟩
  dsimp only at hm hle0 hrow hexs hO hf1 hff hi1 hd1 ⊢
  obtain ⟨f1, rfl⟩ : ∃ f', f1 = f' + 1 := ⟨f1 - 1, by omega⟩
  rw [Sp.opL] at hO
  dsimp only at hO
  replace hr := hr.le hle0
  replace hC := hC.le hle0
  have h1 := hT.at_ s1.i
  have ht := p_tight (T.tok s1.i).text
  by_cases hc : Sp.tight (T.tok s1.i).text < m ∨ Sp.tight (T.tok s1.i).text = 0
  · rw [if_pos hc] at hO
    rw [← hO]
    repeat' (first|(refine m_readC hm (hc:=p_peek s1 hr) (k:=?_); clear hm; intro _ hm)|(refine op_call (hc:=by exact ht _) (k:=?_); rintro _ _ ⟨rfl, rfl⟩)|refine m_loadAll hm (k:=?_)|(refine m_storeAll hm (k:=?_); clear hm; intro _ hm; try simp only [setn] at hm)|refine m_ret_agg hm (h:=?_)|refine op_move (k:=?_)|refine op_assign (k:=?_)|refine op_pick_true (k:=?_)|refine op_pick_false (k:=?_)|refine op_lss (k:=?_)|refine op_eql (k:=?_)|refine wl_skip (k:=?_)|(refine wl_split_dec (h1:=fun _ => ?_) (h0:=fun _ => ?_)<;> (try first | contradiction | (exfalso; omega)))|refine wl_nil ?_|refine at_then_normal ?_|refine at_then_ret ?_|refine at_block_ret ?_|refine wc_seq ?_|refine wc_region ?_|refine wc_block ?_|refine wc_ret ?_|refine wc_cond_true (ht:=?_)|(refine wc_cond_dec (ht:=fun _ => ?_) (hf:=fun _ => ?_)<;> (try first | contradiction | (exfalso; omega))))
    all_goals first
      | exact ⟨I2, _, ⟨⟨ea1, ec1, xs1, rfl, hrow, hexs⟩, da2, dc2, rfl⟩, hm.left (H := [_, _])⟩
      | (exfalso; omega)
  · rw [if_neg hc] at hO
    have htl := Sp.tight_le (T.tok s1.i).text
    have hlt : s1.i < T.l.length := Sp.tok_lt (Sp.tight_ne (by omega))
    have hex := fun da dc => (ih f1 (by omega)).2 I2 la lc deep da dc s1.next (Sp.tight (T.tok s1.i).text + 1) hC hr (by rw [Sp.next_i]; omega) (by rw [Sp.next_i]; omega) (by rw [Sp.next_i, Sp.next_ds]; omega) hdp
    have hg := (Sp.goes_expr T f1).2.2.1 deep (Sp.tight (T.tok s1.i).text + 1) s1.next
    generalize Sp.expr T f1 deep (Sp.tight (T.tok s1.i).text + 1) s1.next = r at hO hex hg
    have hg1 := hg.le
    have hg2 := hg.top (by rw [Sp.next_i]; omega)
    have hg3 := hg.ds
    rw [Sp.next_i] at hg1 hg3
    rw [Sp.next_ds] at hg3
    repeat' (first|(refine m_readC hm (hc:=p_peek s1 hr) (k:=?_); clear hm; intro _ hm)|(refine op_call (hc:=by exact ht _) (k:=?_); rintro _ _ ⟨rfl, rfl⟩)|(refine m_call hm (hc:=hex _ _) (k:=?_); clear hm; rintro _ I3 _ _ ⟨⟨ea2, ec2, xs2, rfl, hrow2, hexs2⟩, da3, dc3, rfl⟩ hle hm; have hleI3 := hle; try simp only [setn] at hm)|(refine i_buildSlice hm (k:=?_); clear hm; intro I4 a4 _ hle4 hm hrow4)|(refine op_max (by rfl) (by rfl) (by rfl) (by rfl) ?_)|(refine m_varS (d:=8) hm (k:=?_); clear hm; intro b8 _ hm)|refine m_load1 hm (k:=?_)|refine m_loadAll hm (k:=?_)|(refine m_storeAll hm (k:=?_); clear hm; intro _ hm; try simp only [setn] at hm)|(refine m_store1 hm (k:=?_); clear hm; intro _ hm; try simp only [setn] at hm)|refine op_move (k:=?_)|refine op_assign (k:=?_)|refine op_pick_false (k:=?_)|refine op_lss (k:=?_)|refine op_eql (k:=?_)|refine op_nilCheck (k:=?_)|refine op_add (k:=?_)|refine op_fieldAddr (k:=?_)|refine op_struct (k:=?_)|(refine wl_split_dec (h1:=fun _ => ?_) (h0:=fun _ => ?_)<;> (try first | contradiction | (exfalso; omega)))|refine wl_nil ?_|refine at_then_normal ?_|refine at_block_normal ?_|refine wc_seq ?_|refine wc_region ?_|refine wc_block ?_|refine wc_skip ?_|(refine wc_cond_dec (ht:=fun _ => ?_) (hf:=fun _ => ?_)<;> (try first | contradiction | (exfalso; omega))))
    all_goals try (exfalso; omega)
    exact at_round (⟨f1, .mk 3 (T.tok s1.i).text 0 [e1, r.1] e1.fr (max r.1.to e1.to), r.2, I4, a4, 2, _, da3, dc3⟩ : QExp) (by exact ⟨rfl, rfl, rfl, rfl, trivial⟩)
      ⟨hm.tl, (hle0.trans hleI3).trans hle4, hrow4, exs2 (ExAt.le (hleI3.trans hle4) _ _ (exAt_cells hrow hexs)) (ExAt.le hle4 _ _ (exAt_cells hrow2 hexs2)), hO, by dsimp only; omega, by dsimp only; omega, hg2, by dsimp only; omega⟩ (by dsimp only; omega)
end Go.Proofs.YthmdffgiockcbaaGreatDoor
end
section
namespace Go.Proofs.YthmdffgiockcbaaGreatDoor
open Go.Fw
section
variable {T : Sp.Src} {pb f : Nat} {I : Imm} {la : Option Addr} {lc deep : Nat} {da : Option Addr} {dc : Nat} {s : Sp.St}
theorem p_retA {E : Ent} {N i b1 b2 ec : Nat} {ea : Option Addr} {xs : List Value} {R : List HItem} {l : Log} {w : World} {e : Sp.Ex} {s' : Sp.St} (hdp : deep ≤ 12) (hx : lk l 2 = some (ptr b2))
    (hm : Mem E I (.cell b1 [ptr pb] 180 :: qObj pb la lc T s' (deep + 1) da dc :: dgRow s'.ds da dc :: R) w) (hb : R[i]? = some (.cell b2 (exCells e ea ec) 102))
    (hrow : RowI I 102 6 (.slice ea e.args.length ec) e.args.length xs) (hexs : ExsAt I e.args xs) :
    At N [⟨.fn (.func 204) #[ptr b1], #[]⟩] (bodyPostD Tryz.prog Tryz.f195 (Ret (fun v w' => ∃ I' H', ToQE pb la lc T deep (e, s') v I' H' ∧ Mem E I' H' w'))) .ret l w :=
  m_retD_cell (i := i + 3) (H' := .cell b1 [ptr pb] 180 :: qObj pb la lc T s' deep da dc :: dgRow s'.ds da dc :: R) rfl hx (p_decA hdp hm) hb rfl
    (fun _w' hm' => ⟨I, _, ⟨⟨ea, ec, xs, rfl, hrow, hexs⟩, da, dc, rfl⟩, hm'.tl.left (H := [_, _])⟩)
theorem ex0_row (I : Imm) : RowI I 102 6 (.slice none ([] : List Sp.Ex).length 0) ([] : List Sp.Ex).length [] := rowI_nil _ _ _ _ _
set_option maxHeartbeats 4000000 in
theorem pa_end (hT : Ok T) (hr : TokR I T la lc) (hi : s.i ≤ T.l.length) (hd : s.ds.length + 4 ≤ 1099511627776) (hend : T.l.length ≤ s.i) :
    CalM Tryz.prog 195 #[ptr pb] I (QSt pb la lc T s deep da dc) (ToQE pb la lc T deep (Sp.none_ T s 2)) := by
  refine CalM.of fun w E hm => enter_defers (N := 153) Tryz.func195 rfl [(0, ptr pb)] args1 rfl ?_
  repeat' (first|(refine m_readC hm (hc:=p_here s hr) (k:=?_); clear hm; intro _ hm)|(refine m_call hm (hc:=p_none s 2 hr hT hi (by omega)) (k:=?_); clear hm; rintro _ _ _ _ ⟨⟨ea, ec, xs, rfl, hrow, hexs⟩, da', dc', rfl⟩ hle hm; try simp only [setn] at hm)|(refine at_retD0_cell hm (h:=?_))|(refine m_box (d:=1) hm (k:=?_); clear hm; intro b1 _ hm)|(refine m_allocS (d:=2) hm (k:=?_); clear hm; intro b2 _ hm)|refine m_load1 hm (k:=?_)|refine mq_load1 hm (k:=?_)|(refine m_storeAll hm (k:=?_); clear hm; intro _ hm; try simp only [setn] at hm)|refine op_assign (k:=?_)|refine wl_nil ?_|refine at_then_normal ?_|refine at_then_ret ?_|refine wc_seq ?_|refine wc_region ?_|refine wc_ret ?_|refine wc_quiet (h:=?_)|(refine wq_nil ?_; intro _ hkq; replace hm := hm.kept0 hkq; clear hkq)|(refine wc_cond_dec (ht:=fun _ => ?_) (hf:=fun _ => ?_)<;> (try first | contradiction | (exfalso; omega)))|refine q_eql (k:=?_)|refine q_len_slice (k:=?_)|refine q_nilCheck (k:=?_)|refine q_fieldAddr (k:=?_))
  all_goals try (exfalso; omega)
  exact ⟨_, _, ⟨⟨ea, ec, xs, rfl, hrow, hexs⟩, da', dc', rfl⟩, hm.left (H := [_, _])⟩
set_option maxHeartbeats 4000000 in
theorem pa_deep (hT : Ok T) (hr : TokR I T la lc) (hi : s.i ≤ T.l.length) (hd : s.ds.length + 4 ≤ 1099511627776) (hend : s.i < T.l.length) (hdp : deep = 12) :
    CalM Tryz.prog 195 #[ptr pb] I (QSt pb la lc T s deep da dc) (ToQE pb la lc T deep (Sp.none_ T s 12)) := by
  refine CalM.of fun w E hm => enter_defers (N := 153) Tryz.func195 rfl [(0, ptr pb)] args1 rfl ?_
  repeat' (first|(refine m_readC hm (hc:=p_here s hr) (k:=?_); clear hm; intro _ hm)|(refine m_call hm (hc:=p_none s 12 hr hT hi (by omega)) (k:=?_); clear hm; rintro _ _ _ _ ⟨⟨ea, ec, xs, rfl, hrow, hexs⟩, da', dc', rfl⟩ hle hm; try simp only [setn] at hm)|(refine at_retD0_cell hm (h:=?_))|(refine m_box (d:=1) hm (k:=?_); clear hm; intro b1 _ hm)|(refine m_allocS (d:=2) hm (k:=?_); clear hm; intro b2 _ hm)|refine m_load1 hm (k:=?_)|refine mq_load1 hm (k:=?_)|(refine m_storeAll hm (k:=?_); clear hm; intro _ hm; try simp only [setn] at hm)|refine op_assign (k:=?_)|refine op_eql (k:=?_)|refine op_nilCheck (k:=?_)|refine op_fieldAddr (k:=?_)|refine wl_nil ?_|refine at_then_normal ?_|refine at_then_ret ?_|refine wc_seq ?_|refine wc_region ?_|refine wc_skip ?_|refine wc_ret ?_|refine wc_quiet (h:=?_)|(refine wq_nil ?_; intro _ hkq; replace hm := hm.kept0 hkq; clear hkq)|(refine wc_cond_dec (ht:=fun _ => ?_) (hf:=fun _ => ?_)<;> (try first | contradiction | (exfalso; omega)))|refine q_eql (k:=?_)|refine q_len_slice (k:=?_)|refine q_nilCheck (k:=?_)|refine q_fieldAddr (k:=?_))
  all_goals try (exfalso; omega)
  exact ⟨_, _, ⟨⟨ea, ec, xs, rfl, hrow, hexs⟩, da', dc', rfl⟩, hm.left (H := [_, _])⟩
set_option maxHeartbeats 4000000 in
theorem pa_none (hT : Ok T) (hr : TokR I T la lc) (hi : s.i ≤ T.l.length) (hd : s.ds.length + 4 ≤ 1099511627776) (hend : s.i < T.l.length) (hdp : deep < 12) (hk : (T.tok s.i).kind ≠ 2) (hp : (T.tok s.i).text ≠ [40]) (hname : Sp.name (T.tok s.i).text = false) :
    CalM Tryz.prog 195 #[ptr pb] I (QSt pb la lc T s deep da dc) (ToQE pb la lc T deep (Sp.none_ T s 2)) := by
  have h1 := hT.at_ s.i
  have h2 := hT.size
  have htk := tok_get hend
  have hn := c_name (T.tok s.i).text (by omega)
  rw [hname] at hn
  refine CalM.of fun w E hm => enter_defers (N := 153) Tryz.func195 rfl [(0, ptr pb)] args1 rfl ?_
  repeat' (first|(refine m_readC hm (hc:=p_here s hr) (k:=?_); clear hm; intro _ hm)|(refine wc_semi_mem (id:=8) (hm.perm pm0) 10 11 (h:=?_); clear hm; intro wd hR hm)|(refine iw_indexFlat (hr:=by exact hr) (he:=by intro _; rfl) (hz:=by exact htk) (k:=?_); intro b1' o1 hp1)|(refine op_call (hc:=by exact hn _) (k:=?_); rintro _ _ ⟨rfl, hk⟩; replace hm := hm.kept0 hk)|(refine m_call hm (hc:=p_none s 2 hr hT hi (by omega)) (k:=?_); clear hm; rintro _ _ _ _ ⟨⟨ea, ec, xs, rfl, hrow, hexs⟩, da', dc', rfl⟩ hle hm; try simp only [setn] at hm)|refine mw_load1 hR (k:=?_)|refine iw_loadN hR (k:=?_)|(refine mt_allocS (d:=4) hm (k:=?_); clear hm; intro b4 _ hm)|(refine ws_nil ?_; replace hm := hR.back hm; clear hR; try simp only [setn] at hm)|(refine m_box (d:=1) hm (k:=?_); clear hm; intro b1 _ hm)|(refine m_allocS (d:=2) hm (k:=?_); clear hm; intro b2 _ hm)|refine m_load1 hm (k:=?_)|refine mq_load1 hm (k:=?_)|(refine m_storeAll hm (k:=?_); clear hm; intro _ hm; try simp only [setn] at hm)|(refine m_store1 hm (k:=?_); clear hm; intro _ hm; try simp only [setn] at hm)|refine op_assign (k:=?_)|refine op_eql (k:=?_)|refine op_eql_str (k:=?_)|refine op_not (k:=?_)|refine op_nilCheck (k:=?_)|refine op_makeFunc (k:=?_)|refine op_add (k:=?_)|refine op_fieldAddr (k:=?_)|refine wl_nil ?_|refine at_then_normal ?_|refine at_then_ret ?_|refine at_block_ret ?_|refine wc_seq ?_|refine wc_region ?_|refine wc_block ?_|refine wc_skip ?_|refine wc_ret ?_|refine op_defer (k:=?_)|refine wc_quiet (h:=?_)|(refine wq_nil ?_; intro _ hkq; replace hm := hm.kept0 hkq; clear hkq)|refine wc_cond_true (ht:=?_)|(refine wc_cond_dec (ht:=fun _ => ?_) (hf:=fun _ => ?_)<;> (try first | contradiction | (exfalso; omega)))|refine q_eql (k:=?_)|refine q_len_slice (k:=?_)|refine q_nilCheck (k:=?_)|refine q_fieldAddr (k:=?_)|refine v_nilCheck (k:=?_)|refine v_fieldAddr (k:=?_)|refine wv_nil ?_)
  all_goals try (exfalso; first | omega | contradiction)
  exact p_retA (i := 1) (by omega) rfl (hm.front 4 rfl) rfl hrow hexs
set_option maxHeartbeats 4000000 in
theorem pa_num (hT : Ok T) (hC : Conv I) (hr : TokR I T la lc) (hi : s.i ≤ T.l.length) (hd : s.ds.length + 4 ≤ 1099511627776) (hend : s.i < T.l.length) (hdp : deep < 12) (hk : (T.tok s.i).kind = 2) :
    CalM Tryz.prog 195 #[ptr pb] I (QSt pb la lc T s deep da dc) (ToQE pb la lc T deep
      (if 1000000000 < Sp.digits (T.tok s.i).text then (.mk 1 [] 0 [] (T.tok s.i).pos ((T.tok s.i).pos + (T.tok s.i).text.length), (s.bad T 3).next) else (.mk 1 [] (Sp.digits (T.tok s.i).text) [] (T.tok s.i).pos ((T.tok s.i).pos + (T.tok s.i).text.length), s.next))) := by
  have h1 := hT.at_ s.i
  have h2 := hT.size
  have h3 := hT.len
  have htk := tok_get hend
  have hl1 : 1 ≤ (T.tok s.i).text.length := by
    rw [Sp.Src.tok, List.getD_eq_getElem?_getD, List.getElem?_eq_getElem hend]
    exact hT.len1 _ (List.getElem_mem hend)
  have hat := p_atoi (I := I) (T.tok s.i).text hl1 (by omega) (hT.digs hk) hC
  have hbi : (s.bad T 3).i = s.i := rfl
  have hen : T.endOf (s.i + 1) = (T.tok s.i).pos + (T.tok s.i).text.length := rfl
  have hls := p_last (pb := pb) (deep := deep + 1) (da := da) (dc := dc) s.next hr hT (by rw [Sp.next_i]; omega)
  have hlb := fun da dc => p_last (pb := pb) (deep := deep + 1) (da := da) (dc := dc) (s.bad T 3).next hr hT (by rw [Sp.next_i]; omega)
  rw [show T.endOf s.next.i = (T.tok s.i).pos + (T.tok s.i).text.length from hen] at hls
  rw [show T.endOf (s.bad T 3).next.i = (T.tok s.i).pos + (T.tok s.i).text.length from hen] at hlb
  refine CalM.of fun w E hm => enter_defers (N := 153) Tryz.func195 rfl [(0, ptr pb)] args1 rfl ?_
  by_cases hbig : 1000000000 < Sp.digits (T.tok s.i).text
  · rw [if_pos hbig]
    repeat' (first|(refine m_readC hm (hc:=p_here s hr) (k:=?_); clear hm; intro _ hm)|(refine wc_semi_mem (id:=8) (hm.perm pm0) 10 11 (h:=?_); clear hm; intro wd hR hm)|(refine iw_indexFlat (hr:=by exact hr) (he:=by intro _; rfl) (hz:=by exact htk) (k:=?_); intro b1' o1 hp1)|(refine m_call hm (hc:=hat) (k:=?_); clear hm; rintro _ _ _ _ ⟨rfl, rfl, (⟨hsm, rfl⟩ | ⟨_, nv, ev, rfl, (⟨rfl, hnv⟩ | ⟨te, pe, rfl⟩)⟩)⟩ hle hm; try simp only [setn] at hm)|(refine op_neq_held (by rfl) (by rfl) (by rfl) (by rfl) (by kernel_rfl) ?_)|(refine op_neq_none (by rfl) (by rfl) (by rfl) (by rfl) (by kernel_rfl) ?_)|(refine m_call hm (hc:=p_tell s 3 hr hT hi (by omega)) (k:=?_); clear hm; rintro _ _ _ _ ⟨rfl, rfl, da', dc', rfl⟩ hle hm; try simp only [setn] at hm)|(refine m_readC hm (hc:=hlb _ _) (k:=?_); clear hm; intro _ hm)|refine mw_load1 hR (k:=?_)|refine iw_loadN hR (k:=?_)|(refine mt_allocS (d:=4) hm (k:=?_); clear hm; intro b4 _ hm)|(refine ws_nil ?_; replace hm := hR.back hm; clear hR; try simp only [setn] at hm)|(refine m_box (d:=1) hm (k:=?_); clear hm; intro b1 _ hm)|(refine m_allocS (d:=2) hm (k:=?_); clear hm; intro b2 _ hm)|refine m_load1 hm (k:=?_)|refine mq_load1 hm (k:=?_)|(refine m_storeAll hm (k:=?_); clear hm; intro _ hm; try simp only [setn] at hm)|(refine m_store1 hm (k:=?_); clear hm; intro _ hm; try simp only [setn] at hm)|refine op_move (k:=?_)|refine op_assign (k:=?_)|refine op_pick_true (k:=?_)|refine op_pick_false (k:=?_)|refine op_gtr (k:=?_)|refine op_eql (k:=?_)|refine op_extract (k:=?_)|refine op_nilCheck (k:=?_)|refine op_makeFunc (k:=?_)|refine op_add (k:=?_)|refine op_fieldAddr (k:=?_)|refine op_struct (k:=?_)|refine wl_skip (k:=?_)|refine wl_nil ?_|refine at_then_normal ?_|refine at_then_ret ?_|refine at_block_ret ?_|refine wc_seq ?_|refine wc_region ?_|refine wc_block ?_|refine wc_skip ?_|refine wc_ret ?_|refine op_defer (k:=?_)|refine wc_quiet (h:=?_)|(refine wq_nil ?_; intro _ hkq; replace hm := hm.kept0 hkq; clear hkq)|refine wc_cond_true (ht:=?_)|(refine wc_cond_dec (ht:=fun _ => ?_) (hf:=fun _ => ?_)<;> (try first | contradiction | (exfalso; omega)))|refine q_eql (k:=?_)|refine q_len_slice (k:=?_)|refine q_nilCheck (k:=?_)|refine q_fieldAddr (k:=?_)|refine v_nilCheck (k:=?_)|refine v_fieldAddr (k:=?_)|refine wv_nil ?_)
    all_goals try (exfalso; first | omega | contradiction)
    all_goals exact p_retA (i := 1) (e := .mk 1 [] 0 [] (T.tok s.i).pos ((T.tok s.i).pos + (T.tok s.i).text.length)) (s' := (s.bad T 3).next) (by omega) rfl (hm.front 4 rfl) rfl (ex0_row _) .nil
  · rw [if_neg hbig]
    repeat' (first|(refine m_readC hm (hc:=p_here s hr) (k:=?_); clear hm; intro _ hm)|(refine wc_semi_mem (id:=8) (hm.perm pm0) 10 11 (h:=?_); clear hm; intro wd hR hm)|(refine iw_indexFlat (hr:=by exact hr) (he:=by intro _; rfl) (hz:=by exact htk) (k:=?_); intro b1' o1 hp1)|(refine m_call hm (hc:=hat) (k:=?_); clear hm; rintro _ _ _ _ ⟨rfl, rfl, (⟨hsm, rfl⟩ | ⟨hbg, nv, ev, rfl, _⟩)⟩ hle hm; try simp only [setn] at hm)|(refine op_neq_none (by rfl) (by rfl) (by rfl) (by rfl) (by kernel_rfl) ?_)|(refine m_readC hm (hc:=hls) (k:=?_); clear hm; intro _ hm)|refine mw_load1 hR (k:=?_)|refine iw_loadN hR (k:=?_)|(refine mt_allocS (d:=4) hm (k:=?_); clear hm; intro b4 _ hm)|(refine ws_nil ?_; replace hm := hR.back hm; clear hR; try simp only [setn] at hm)|(refine m_box (d:=1) hm (k:=?_); clear hm; intro b1 _ hm)|(refine m_allocS (d:=2) hm (k:=?_); clear hm; intro b2 _ hm)|refine m_load1 hm (k:=?_)|refine mq_load1 hm (k:=?_)|(refine m_storeAll hm (k:=?_); clear hm; intro _ hm; try simp only [setn] at hm)|(refine m_store1 hm (k:=?_); clear hm; intro _ hm; try simp only [setn] at hm)|refine op_move (k:=?_)|refine op_assign (k:=?_)|refine op_pick_false (k:=?_)|refine op_gtr (k:=?_)|refine op_eql (k:=?_)|refine op_extract (k:=?_)|refine op_nilCheck (k:=?_)|refine op_makeFunc (k:=?_)|refine op_add (k:=?_)|refine op_fieldAddr (k:=?_)|refine op_struct (k:=?_)|refine wl_nil ?_|refine at_then_normal ?_|refine at_then_ret ?_|refine at_block_ret ?_|refine wc_seq ?_|refine wc_region ?_|refine wc_block ?_|refine wc_skip ?_|refine wc_ret ?_|refine op_defer (k:=?_)|refine wc_quiet (h:=?_)|(refine wq_nil ?_; intro _ hkq; replace hm := hm.kept0 hkq; clear hkq)|(refine wc_cond_dec (ht:=fun _ => ?_) (hf:=fun _ => ?_)<;> (try first | contradiction | (exfalso; omega)))|refine q_eql (k:=?_)|refine q_len_slice (k:=?_)|refine q_nilCheck (k:=?_)|refine q_fieldAddr (k:=?_)|refine v_nilCheck (k:=?_)|refine v_fieldAddr (k:=?_)|refine wv_nil ?_)
    all_goals try (exfalso; first | omega | contradiction)
    exact p_retA (i := 1) (e := .mk 1 [] (Sp.digits (T.tok s.i).text) [] (T.tok s.i).pos ((T.tok s.i).pos + (T.tok s.i).text.length)) (s' := s.next) (by omega) rfl (((hm.front 4 rfl).front 4 rfl).front 4 rfl) rfl (ex0_row _) .nil
end
end Go.Proofs.YthmdffgiockcbaaGreatDoor
end
section
namespace Go.Proofs.YthmdffgiockcbaaGreatDoor
open Go.Fw
section
variable {T : Sp.Src} {pb f : Nat} {I : Imm} {la : Option Addr} {lc deep : Nat} {da : Option Addr} {dc : Nat} {s : Sp.St}
set_option maxHeartbeats 4000000 in
theorem pa_par (hT : Ok T) (hC : Conv I) (hr : TokR I T la lc) (hf : 3 * (T.l.length - s.i) + 2 ≤ f + 1) (ih : ExprQ T pb f)
    (hd : s.ds.length + 2 * (T.l.length - s.i) + 4 ≤ 1099511627776) (hend : s.i < T.l.length) (hdp : deep < 12) (hk : (T.tok s.i).kind ≠ 2) (hpar : (T.tok s.i).text = [40]) :
    CalM Tryz.prog 195 #[ptr pb] I (QSt pb la lc T s deep da dc) (ToQE pb la lc T deep ((Sp.expr T f (deep + 1) 1 s.next).1, ((Sp.expr T f (deep + 1) 1 s.next).2.need T [41]).2)) := by
  have h1 := hT.at_ s.i
  have h2 := hT.size
  have h3 := hT.len
  have htk := tok_get hend
  have hex := fun da dc => ih I la lc (deep + 1) da dc s.next 1 hC hr (by rw [Sp.next_i]; omega) (by rw [Sp.next_i]; omega) (by rw [Sp.next_i, Sp.next_ds]; omega) (by omega)
  have hg := (Sp.goes_expr T f).2.2.1 (deep + 1) 1 s.next
  generalize Sp.expr T f (deep + 1) 1 s.next = r at hex hg ⊢
  have hg1 := hg.le
  have hg2 := hg.top (by rw [Sp.next_i]; omega)
  have hg3 := hg.ds
  rw [Sp.next_i] at hg1 hg3
  rw [Sp.next_ds] at hg3
  refine CalM.of fun w E hm => enter_defers (N := 153) Tryz.func195 rfl [(0, ptr pb)] args1 rfl ?_
  repeat' (first|(refine m_readC hm (hc:=p_here s hr) (k:=?_); clear hm; intro _ hm)|(refine wc_semi_mem (id:=8) (hm.perm pm0) 10 11 (h:=?_); clear hm; intro wd hR hm)|(refine iw_indexFlat (hr:=by exact hr) (he:=by intro _; rfl) (hz:=by exact htk) (k:=?_); intro b1' o1 hp1)|(refine m_call hm (hc:=hex _ _) (k:=?_); clear hm; rintro _ I2 _ _ ⟨⟨ea, ec, xs, rfl, hrow, hexs⟩, da', dc', rfl⟩ hle hm; have hleI2 := hle; try simp only [setn] at hm)|(refine m_call hm (hc:=p_must r.2 [41] (by simp) (hr.le hleI2) hT (by omega) hg2) (k:=?_); clear hm; rintro _ _ _ _ ⟨rfl, rfl, da2, dc2, rfl⟩ hle hm; try simp only [setn] at hm)|refine mw_load1 hR (k:=?_)|refine iw_loadN hR (k:=?_)|(refine mt_allocS (d:=4) hm (k:=?_); clear hm; intro b4 _ hm)|(refine ws_nil ?_; replace hm := hR.back hm; clear hR; try simp only [setn] at hm)|(refine m_box (d:=1) hm (k:=?_); clear hm; intro b1 _ hm)|(refine m_allocS (d:=2) hm (k:=?_); clear hm; intro b2 _ hm)|(refine m_varS (d:=7) hm (k:=?_); clear hm; intro b7 _ hm)|refine m_load1 hm (k:=?_)|refine m_loadAll hm (k:=?_)|refine mq_load1 hm (k:=?_)|(refine m_storeAll hm (k:=?_); clear hm; intro _ hm; try simp only [setn] at hm)|(refine m_store1 hm (k:=?_); clear hm; intro _ hm; try simp only [setn] at hm)|refine op_assign (k:=?_)|refine op_eql (k:=?_)|refine op_eql_str (k:=?_)|refine op_nilCheck (k:=?_)|refine op_makeFunc (k:=?_)|refine op_add (k:=?_)|refine op_fieldAddr (k:=?_)|refine wl_nil ?_|refine at_then_normal ?_|refine at_then_ret ?_|refine at_block_ret ?_|refine wc_seq ?_|refine wc_region ?_|refine wc_block ?_|refine wc_skip ?_|refine wc_ret ?_|refine op_defer (k:=?_)|refine wc_quiet (h:=?_)|(refine wq_nil ?_; intro _ hkq; replace hm := hm.kept0 hkq; clear hkq)|(refine wc_cond_dec (ht:=fun _ => ?_) (hf:=fun _ => ?_)<;> (try first | contradiction | (exfalso; omega)))|refine q_eql (k:=?_)|refine q_len_slice (k:=?_)|refine q_nilCheck (k:=?_)|refine q_fieldAddr (k:=?_)|refine v_nilCheck (k:=?_)|refine v_fieldAddr (k:=?_)|refine wv_nil ?_)
  all_goals try (exfalso; first | omega | contradiction)
  exact p_retA (i := 2) (e := r.1) (s' := (r.2.need T [41]).2) (by omega) rfl (hm.front 5 rfl) rfl hrow hexs
set_option maxHeartbeats 4000000 in
theorem pa_var (hT : Ok T) (hr : TokR I T la lc) (_hi : s.i ≤ T.l.length) (_hd : s.ds.length + 4 ≤ 1099511627776) (hend : s.i < T.l.length) (hdp : deep < 12) (hk : (T.tok s.i).kind ≠ 2) (hp : (T.tok s.i).text ≠ [40]) (hname : Sp.name (T.tok s.i).text = true) (hopen : T.is (s.i + 1) [40] = false) :
    CalM Tryz.prog 195 #[ptr pb] I (QSt pb la lc T s deep da dc) (ToQE pb la lc T deep (.mk 2 (T.tok s.i).text 0 [] (T.tok s.i).pos ((T.tok s.i).pos + (T.tok s.i).text.length), s.next)) := by
  have h1 := hT.at_ s.i
  have h2 := hT.size
  have h3 := hT.len
  have htk := tok_get hend
  have hn := c_name (T.tok s.i).text (by omega)
  rw [hname] at hn
  have he := fun da dc => p_eat (pb := pb) (deep := deep + 1) (da := da) (dc := dc) s.next [40] (by simp) hr hT (by rw [Sp.next_i]; omega)
  rw [show T.is s.next.i [40] = false from hopen, if_neg (by simp)] at he
  have hen : T.endOf (s.i + 1) = (T.tok s.i).pos + (T.tok s.i).text.length := rfl
  have hls := fun da dc => p_last (pb := pb) (deep := deep + 1) (da := da) (dc := dc) s.next hr hT (by rw [Sp.next_i]; omega)
  rw [show T.endOf s.next.i = (T.tok s.i).pos + (T.tok s.i).text.length from hen] at hls
  refine CalM.of fun w E hm => enter_defers (N := 153) Tryz.func195 rfl [(0, ptr pb)] args1 rfl ?_
  repeat' (first|(refine m_readC hm (hc:=p_here s hr) (k:=?_); clear hm; intro _ hm)|(refine wc_semi_mem (id:=8) (hm.perm pm0) 10 11 (h:=?_); clear hm; intro wd hR hm)|(refine iw_indexFlat (hr:=by exact hr) (he:=by intro _; rfl) (hz:=by exact htk) (k:=?_); intro b1' o1 hp1)|(refine op_call (hc:=by exact hn _) (k:=?_); rintro _ _ ⟨rfl, hk⟩; replace hm := hm.kept0 hk)|(refine m_call hm (hc:=he _ _) (k:=?_); clear hm; rintro _ _ _ _ ⟨rfl, rfl, da', dc', rfl⟩ hle hm; try simp only [setn] at hm)|(refine m_readC hm (hc:=hls _ _) (k:=?_); clear hm; intro _ hm)|refine mw_load1 hR (k:=?_)|refine iw_loadN hR (k:=?_)|(refine mt_allocS (d:=4) hm (k:=?_); clear hm; intro b4 _ hm)|(refine ws_nil ?_; replace hm := hR.back hm; clear hR; try simp only [setn] at hm)|(refine m_box (d:=1) hm (k:=?_); clear hm; intro b1 _ hm)|(refine m_allocS (d:=2) hm (k:=?_); clear hm; intro b2 _ hm)|(refine m_varS (d:=8) hm (k:=?_); clear hm; intro b8 _ hm)|refine m_load1 hm (k:=?_)|refine m_loadAll hm (k:=?_)|refine mq_load1 hm (k:=?_)|(refine m_storeAll hm (k:=?_); clear hm; intro _ hm; try simp only [setn] at hm)|(refine m_store1 hm (k:=?_); clear hm; intro _ hm; try simp only [setn] at hm)|refine op_move (k:=?_)|refine op_assign (k:=?_)|refine op_eql (k:=?_)|refine op_eql_str (k:=?_)|refine op_not (k:=?_)|refine op_nilCheck (k:=?_)|refine op_makeFunc (k:=?_)|refine op_add (k:=?_)|refine op_fieldAddr (k:=?_)|refine op_struct (k:=?_)|refine wl_nil ?_|refine at_then_normal ?_|refine at_block_normal ?_|refine wc_seq ?_|refine wc_region ?_|refine wc_block ?_|refine wc_skip ?_|refine wc_ret ?_|refine op_defer (k:=?_)|refine wc_quiet (h:=?_)|(refine wq_nil ?_; intro _ hkq; replace hm := hm.kept0 hkq; clear hkq)|refine wc_cond_false (hf:=?_)|(refine wc_cond_dec (ht:=fun _ => ?_) (hf:=fun _ => ?_)<;> (try first | contradiction | (exfalso; omega)))|refine q_eql (k:=?_)|refine q_len_slice (k:=?_)|refine q_nilCheck (k:=?_)|refine q_fieldAddr (k:=?_)|refine v_nilCheck (k:=?_)|refine v_fieldAddr (k:=?_)|refine wv_nil ?_)
  all_goals try (exfalso; first | omega | contradiction)
  exact p_retA (i := 2) (e := .mk 2 (T.tok s.i).text 0 [] (T.tok s.i).pos ((T.tok s.i).pos + (T.tok s.i).text.length)) (s' := s.next) (by omega) rfl (hm.front 5 rfl) rfl (ex0_row _) .nil
end
end Go.Proofs.YthmdffgiockcbaaGreatDoor
end
section
namespace Go.Proofs.YthmdffgiockcbaaGreatDoor
open Go.Fw
structure QArg where
  f : Nat
  l : List Sp.Ex
  n : Nat
  s : Sp.St
  I : Imm
  a : Option Addr
  cp : Nat
  xs : List Value
  da : Option Addr
  dc : Nat
section
variable {T : Sp.Src} {pb f : Nat} {I : Imm} {la : Option Addr} {lc deep : Nat} {da : Option Addr} {dc : Nat} {s : Sp.St}
set_option maxHeartbeats 8000000 in
theorem pa_call (hT : Ok T) (hC : Conv I) (hr : TokR I T la lc) (hf : 3 * (T.l.length - s.i) + 2 ≤ f + 1) (ih : ∀ g, g < f → ExprQ T pb g)
    (hd : s.ds.length + 2 * (T.l.length - s.i) + 4 ≤ 1099511627776) (hdp : deep < 12) (hk : (T.tok s.i).kind ≠ 2) (hpar : (T.tok s.i).text ≠ [40]) (hname : Sp.name (T.tok s.i).text = true) (hopen : T.is (s.i + 1) [40] = true) :
    CalM Tryz.prog 195 #[ptr pb] I (QSt pb la lc T s deep da dc) (ToQE pb la lc T deep
      (.mk 4 (T.tok s.i).text 0 (Sp.argL T f (deep + 1) [] s.next.next).1 (T.tok s.i).pos (T.endOf ((Sp.argL T f (deep + 1) [] s.next.next).2.need T [41]).2.i), ((Sp.argL T f (deep + 1) [] s.next.next).2.need T [41]).2)) := by
  have h1 := hT.at_ s.i
  have h2 := hT.size
  have h3 := hT.len
  have hlt := Sp.is_lt hopen
  have hend : s.i < T.l.length := by omega
  have htk := tok_get hend
  have hn := c_name (T.tok s.i).text (by omega)
  rw [hname] at hn
  have he := fun da dc => p_eat (pb := pb) (deep := deep + 1) (da := da) (dc := dc) s.next [40] (by simp) hr hT (by rw [Sp.next_i]; omega)
  rw [show T.is s.next.i [40] = true from hopen, if_pos (by rfl)] at he
  have hg := (Sp.goes_expr T f).2.1 (deep + 1) [] s.next.next
  have hg1 := hg.le
  have hg2 := hg.top (by rw [Sp.next_i, Sp.next_i]; omega)
  have hg3 := hg.ds
  have hAi : s.next.next.i = s.i + 1 + 1 := rfl
  have hAd : s.next.next.ds = s.ds := rfl
  obtain ⟨R, hR⟩ : ∃ R, R = Sp.argL T f (deep + 1) [] s.next.next := ⟨_, rfl⟩
  rw [← hR] at hg hg1 hg2 hg3 ⊢
  have hg4 := (Sp.goes_need T R.2 [41]).top hg2
  have nmi : s.next.i ≤ T.l.length := by rw [Sp.next_i]; omega
  refine CalM.of fun w E hm => enter_defers (N := 153) Tryz.func195 rfl [(0, ptr pb)] args1 rfl ?_
  repeat' (first|(refine wc_midb 1 (fun _ : QArg => [(0, ptr pb), (1, ptr b1), (2, ptr b2), (3, nt (T.tok s.i).pos), (4, ptr b4), (8, ptr b8)]) (fun x w' => Mem E x.I [qObj pb la lc T R.2 (deep + 1) x.da x.dc, dgRow R.2.ds x.da x.dc, argRow x.n x.a x.cp x.xs, .cell b8 [nt 4, str (T.tok s.i).text, nt 0, .slice x.a x.n x.cp, nt 0, nt 0] 102, .cell b4 (encTok (T.tok s.i)) 81, .cell b2 ex0 102, .cell b1 [ptr pb] 180] w' ∧ Le I x.I ∧ ExsAt x.I R.1 x.xs ∧ R.1.length = x.n) ?_ ?_)|(refine m_readC hm (hc:=p_here s hr) (k:=?_); clear hm; intro _ hm)|(refine wc_semi_mem (id:=8) (hm.perm pm0) 10 11 (h:=?_); clear hm; intro wd hR hm)|(refine iw_indexFlat (hr:=by exact hr) (he:=by intro _; rfl) (hz:=by exact htk) (k:=?_); intro b1' o1 hp1)|(refine op_call (hc:=by exact hn _) (k:=?_); rintro _ _ ⟨rfl, hk⟩; replace hm := hm.kept0 hk)|(refine m_call hm (hc:=he _ _) (k:=?_); clear hm; rintro _ _ _ _ ⟨rfl, rfl, da', dc', rfl⟩ hle hm; try simp only [setn] at hm)|refine mw_load1 hR (k:=?_)|refine iw_loadN hR (k:=?_)|(refine mt_allocS (d:=4) hm (k:=?_); clear hm; intro b4 _ hm)|(refine ws_nil ?_; replace hm := hR.back hm; clear hR; try simp only [setn] at hm)|(refine m_box (d:=1) hm (k:=?_); clear hm; intro b1 _ hm)|(refine m_allocS (d:=2) hm (k:=?_); clear hm; intro b2 _ hm)|(refine m_varS (d:=8) hm (k:=?_); clear hm; intro b8 _ hm)|refine m_load1 hm (k:=?_)|refine mq_load1 hm (k:=?_)|(refine m_storeAll hm (k:=?_); clear hm; intro _ hm; try simp only [setn] at hm)|(refine m_store1 hm (k:=?_); clear hm; intro _ hm; try simp only [setn] at hm)|refine op_assign (k:=?_)|refine op_eql (k:=?_)|refine op_eql_str (k:=?_)|refine op_not (k:=?_)|refine op_nilCheck (k:=?_)|refine op_makeFunc (k:=?_)|refine op_add (k:=?_)|refine op_fieldAddr (k:=?_)|refine op_struct (k:=?_)|refine wl_nil ?_|refine at_then_normal ?_|refine at_block_normal ?_|refine wc_seq ?_|refine wc_region ?_|refine wc_block ?_|refine wc_skip ?_|refine op_defer (k:=?_)|refine wc_quiet (h:=?_)|(refine wq_nil ?_; intro _ hkq; replace hm := hm.kept0 hkq; clear hkq)|refine wc_cond_true (ht:=?_)|refine wc_cond_false (hf:=?_)|(refine wc_cond_dec (ht:=fun _ => ?_) (hf:=fun _ => ?_)<;> (try first | contradiction | (exfalso; omega)))|refine q_eql (k:=?_)|refine q_len_slice (k:=?_)|refine q_nilCheck (k:=?_)|refine q_fieldAddr (k:=?_)|refine v_nilCheck (k:=?_)|refine v_fieldAddr (k:=?_)|refine wv_nil ?_)
  all_goals try (exfalso; first | omega | contradiction)
  · have hm2 := hm.nil 102 6
    clear hm
    refine wc_loop (fun _ : QArg => [(0, ptr pb), (1, ptr b1), (2, ptr b2), (3, nt (T.tok s.i).pos), (4, ptr b4), (8, ptr b8)])
      (fun x w' => Mem E x.I [qObj pb la lc T x.s (deep + 1) x.da x.dc, dgRow x.s.ds x.da x.dc, argRow x.n x.a x.cp x.xs, .cell b8 [nt 4, str (T.tok s.i).text, nt 0, .slice x.a x.n x.cp, nt 0, nt 0] 102, .cell b4 (encTok (T.tok s.i)) 81, .cell b2 ex0 102, .cell b1 [ptr pb] 180] w' ∧
        Le I x.I ∧ ExsAt x.I x.l x.xs ∧ x.l.length = x.n ∧ x.n ≤ 5 ∧ x.f ≤ f ∧ x.s.i ≤ T.l.length ∧ x.s.ds.length + 2 * (T.l.length - x.s.i) ≤ s.ds.length + 2 * (T.l.length - s.i) ∧
        Sp.argL T x.f (deep + 1) x.l x.s = R ∧ 3 * (T.l.length - x.s.i) + 4 ≤ x.f)
      (fun x => T.l.length - x.s.i) ⟨f, [], 0, s.next.next, I, none, 0, [], da', dc'⟩ (by exact ⟨rfl, rfl, rfl, rfl, rfl, rfl, trivial⟩)
      ⟨hm2.perm pm2_1, Le.refl _, .nil, rfl, by dsimp only; omega, Nat.le_refl _, by dsimp only; omega, by dsimp only; rw [hAd]; omega, hR.symm, by dsimp only; omega⟩ ?_
    clear hm2
    rintro ⟨f1, l1, n1, s1, I1, a1, cp1, xs1, da1, dc1⟩ w2 ⟨hm, hle0, hexs, hn1, hn5, hff, hi1, hd1, hL, hf1⟩
    dsimp only at hm hle0 hexs hn1 hn5 hff hi1 hd1 hL hf1 ⊢
    have hr1 := hr.le hle0
    have hC1 := hC.le hle0
    obtain ⟨f1, rfl⟩ : ∃ f', f1 = f' + 1 := ⟨f1 - 1, by omega⟩
    rw [Sp.argL] at hL
    by_cases hend1 : T.l.length ≤ s1.i ∨ T.is s1.i [41] = true
    · rw [if_pos hend1] at hL
      subst hL
      by_cases hl1 : T.l.length ≤ s1.i
      · have htt : T.tok s1.i = ⟨0, [], T.size⟩ := Sp.tok_end hl1
        have hpk := p_peek (pb := pb) (deep := deep + 1) (da := da1) (dc := dc1) s1 hr1
        rw [htt] at hpk
        repeat' (first|(refine mq_readC hm (hc:=hpk) (k:=?_))|refine mq_load1 hm (k:=?_)|refine at_then_normal ?_|refine at_then_exit ?_|refine at_block_exit ?_|refine wc_seq ?_|refine wc_exit ?_|refine wc_quiet (h:=?_)|(refine wq_nil ?_; intro _ hkq; replace hm := hm.kept0 hkq; clear hkq)|(refine wc_cond_dec (ht:=fun _ => ?_) (hf:=fun _ => ?_)<;> (try first | contradiction | (exfalso; omega)))|refine q_move (k:=?_)|refine q_pick_true (k:=?_)|refine q_lss (k:=?_)|refine q_neq_str (k:=?_)|refine q_len_slice (k:=?_)|refine q_nilCheck (k:=?_)|refine q_fieldAddr (k:=?_))
        all_goals try (exfalso; first | omega | contradiction)
        exact at_cut (⟨0, [], n1, s1, I1, a1, cp1, xs1, da1, dc1⟩ : QArg) (by exact ⟨rfl, rfl, rfl, rfl, rfl, rfl, trivial⟩) ⟨hm, hle0, hexs, hn1⟩
      · have e1 := hend1.resolve_left hl1
        have htt : (T.tok s1.i).text = [41] := by simp only [Sp.Src.is, Bool.and_eq_true, decide_eq_true_eq] at e1; exact e1.2
        have hpk := p_peek (pb := pb) (deep := deep + 1) (da := da1) (dc := dc1) s1 hr1
        rw [htt] at hpk
        repeat' (first|(refine mq_readC hm (hc:=hpk) (k:=?_))|refine mq_load1 hm (k:=?_)|refine at_then_normal ?_|refine at_then_exit ?_|refine at_block_exit ?_|refine wc_seq ?_|refine wc_exit ?_|refine wc_quiet (h:=?_)|(refine wq_nil ?_; intro _ hkq; replace hm := hm.kept0 hkq; clear hkq)|refine wc_cond_false (hf:=?_)|refine q_move (k:=?_)|refine q_pick_false (k:=?_)|refine q_neq_str (k:=?_)|refine wq_skip (k:=?_))
        all_goals try (exfalso; first | omega | contradiction)
        exact at_cut (⟨0, [], n1, s1, I1, a1, cp1, xs1, da1, dc1⟩ : QArg) (by exact ⟨rfl, rfl, rfl, rfl, rfl, rfl, trivial⟩) ⟨hm, hle0, hexs, hn1⟩
    rw [if_neg hend1] at hL
    have hlt1 : s1.i < T.l.length := by omega
    have htt : (T.tok s1.i).text ≠ [41] := fun e => hend1 (.inr (by simp [Sp.Src.is, hlt1, e]))
    have hpk := p_peek (pb := pb) (deep := deep + 1) (da := da1) (dc := dc1) s1 hr1
    by_cases h5 : l1.length = 5
    · rw [if_pos h5] at hL
      subst hL
      repeat' (first|(refine mq_readC hm (hc:=hpk) (k:=?_))|(refine m_call hm (hc:=p_tell s1 5 hr1 hT hi1 (by omega)) (k:=?_); clear hm; rintro _ _ _ _ ⟨rfl, rfl, da2, dc2, rfl⟩ hle hm; try simp only [setn] at hm)|refine m_load1 hm (k:=?_)|refine mq_load1 hm (k:=?_)|refine op_eql (k:=?_)|refine op_len_slice (k:=?_)|refine op_fieldAddr (k:=?_)|refine wl_nil ?_|refine at_then_normal ?_|refine at_then_exit ?_|refine at_block_exit ?_|refine at_block_other (h:=?_)|refine wc_seq ?_|refine wc_region ?_|refine wc_block ?_|refine wc_skip ?_|refine wc_exit ?_|refine wc_quiet (h:=?_)|(refine wq_nil ?_; intro _ hkq; replace hm := hm.kept0 hkq; clear hkq)|(refine wc_cond_dec (ht:=fun _ => ?_) (hf:=fun _ => ?_)<;> (try first | contradiction | (exfalso; omega)))|refine q_move (k:=?_)|refine q_pick_true (k:=?_)|refine q_lss (k:=?_)|refine q_neq_str (k:=?_)|refine q_len_slice (k:=?_)|refine q_nilCheck (k:=?_)|refine q_fieldAddr (k:=?_)|(refine wq_split_dec (h1:=fun _ => ?_) (h0:=fun _ => ?_)<;> (try first | contradiction | (exfalso; omega))))
      all_goals try (exfalso; first | omega | contradiction)
      exact at_cut (⟨0, [], n1, s1, I1, a1, cp1, xs1, da2, dc2⟩ : QArg) (by exact ⟨rfl, rfl, rfl, rfl, rfl, rfl, trivial⟩) ⟨hm, hle0, hexs, hn1⟩
    rw [if_neg h5] at hL
    dsimp only at hL
    have hex := fun da dc => ih f1 (by omega) I1 la lc (deep + 1) da dc s1 1 hC1 hr1 (by omega) (by omega) (by omega) (by omega)
    have hgr := (Sp.goes_expr T f1).2.2.1 (deep + 1) 1 s1
    generalize Sp.expr T f1 (deep + 1) 1 s1 = r at hL hex hgr
    have hgr1 := hgr.le
    have hgr2 := hgr.top hi1
    have hgr3 := hgr.ds
    have hnl : (l1 ++ [r.1]).length = n1 + 1 := by simp [hn1]
    have hn4 : n1 < 5 := by omega
    have hni : r.2.next.i = r.2.i + 1 := rfl
    have hnd : r.2.next.ds.length = r.2.ds.length := rfl
    have hea := fun (I : Imm) (hr : TokR I T la lc) da dc => p_eat (I := I) (pb := pb) (deep := deep + 1) (da := da) (dc := dc) r.2 [44] (by simp) hr hT hgr2
    by_cases hcomma : T.is r.2.i [44] = true
    · rw [if_pos hcomma] at hL
      rw [hcomma, if_pos (by rfl)] at hea
      have hlt2 := Sp.is_lt hcomma
      repeat' (first|(refine wc_semi_mem (id:=30) (hm.perm pm3_0) 3 6 (h:=?_); clear hm; intro wd hR hm)|(refine mq_readC hm (hc:=hpk) (k:=?_))|(refine mt_call hm (hc:=hex _ _) (k:=?_); clear hm; rintro _ I2 _ _ ⟨⟨ea, ec, xs, rfl, hrow, hexs2⟩, da2, dc2, rfl⟩ hle hm; have hleI2 := hle; try simp only [setn] at hm)|(refine m_call hm (hc:=hea _ (hr1.le hleI2) _ _) (k:=?_); clear hm; rintro _ _ _ _ ⟨rfl, rfl, da3, dc3, rfl⟩ hle hm; try simp only [setn] at hm)|refine mw_load1 hR (k:=?_)|(refine mt_push (d:=140) hm (k:=?_); clear hm; intro a140 cp140 _ _ hm; replace hm := hR.back hm; clear hR; try simp only [setn] at hm)|refine m_load1 hm (k:=?_)|refine mq_load1 hm (k:=?_)|(refine m_store1 hm (k:=?_); clear hm; intro _ hm; try simp only [setn] at hm)|refine op_eql (k:=?_)|refine op_len_slice (k:=?_)|refine op_not (k:=?_)|refine op_fieldAddr (k:=?_)|refine wl_nil ?_|refine at_then_normal ?_|refine at_block_normal ?_|refine wc_seq ?_|refine wc_region ?_|refine wc_block ?_|refine wc_skip ?_|refine wc_quiet (h:=?_)|(refine wq_nil ?_; intro _ hkq; replace hm := hm.kept0 hkq; clear hkq)|refine wc_cond_false (hf:=?_)|(refine wc_cond_dec (ht:=fun _ => ?_) (hf:=fun _ => ?_)<;> (try first | contradiction | (exfalso; omega)))|refine q_move (k:=?_)|refine q_pick_true (k:=?_)|refine q_lss (k:=?_)|refine q_neq_str (k:=?_)|refine q_len_slice (k:=?_)|refine q_nilCheck (k:=?_)|refine q_fieldAddr (k:=?_)|(refine wq_split_dec (h1:=fun _ => ?_) (h0:=fun _ => ?_)<;> (try first | contradiction | (exfalso; omega)))|refine v_fieldAddr (k:=?_)|refine wv_nil ?_)
      all_goals try (exfalso; first | omega | contradiction)
      exact at_round (⟨f1, l1 ++ [r.1], n1 + 1, r.2.next, I2, _, _, _, da3, dc3⟩ : QArg) (by exact ⟨rfl, rfl, rfl, rfl, rfl, rfl, trivial⟩) ⟨hm, hle0.trans hleI2, (ExsAt.le hleI2 _ _ hexs).snoc (exAt_cells hrow hexs2), hnl, by dsimp only; omega, by dsimp only; omega, by dsimp only; omega, by dsimp only; omega, hL, by dsimp only; omega⟩ (by dsimp only; omega)
    · rw [if_neg hcomma] at hL
      rw [show T.is r.2.i [44] = false by simpa using hcomma, if_neg (by simp)] at hea
      subst hL
      repeat' (first|(refine wc_semi_mem (id:=30) (hm.perm pm3_0) 3 6 (h:=?_); clear hm; intro wd hR hm)|(refine mq_readC hm (hc:=hpk) (k:=?_))|(refine mt_call hm (hc:=hex _ _) (k:=?_); clear hm; rintro _ I2 _ _ ⟨⟨ea, ec, xs, rfl, hrow, hexs2⟩, da2, dc2, rfl⟩ hle hm; have hleI2 := hle; try simp only [setn] at hm)|(refine m_call hm (hc:=hea _ (hr1.le hleI2) _ _) (k:=?_); clear hm; rintro _ _ _ _ ⟨rfl, rfl, da3, dc3, rfl⟩ hle hm; try simp only [setn] at hm)|refine mw_load1 hR (k:=?_)|(refine mt_push (d:=140) hm (k:=?_); clear hm; intro a140 cp140 _ _ hm; replace hm := hR.back hm; clear hR; try simp only [setn] at hm)|refine m_load1 hm (k:=?_)|refine mq_load1 hm (k:=?_)|(refine m_store1 hm (k:=?_); clear hm; intro _ hm; try simp only [setn] at hm)|refine op_eql (k:=?_)|refine op_len_slice (k:=?_)|refine op_not (k:=?_)|refine op_fieldAddr (k:=?_)|refine wl_nil ?_|refine at_then_normal ?_|refine at_then_exit ?_|refine at_block_exit ?_|refine at_block_other (h:=?_)|refine wc_seq ?_|refine wc_region ?_|refine wc_block ?_|refine wc_skip ?_|refine wc_exit ?_|refine wc_quiet (h:=?_)|(refine wq_nil ?_; intro _ hkq; replace hm := hm.kept0 hkq; clear hkq)|refine wc_cond_true (ht:=?_)|(refine wc_cond_dec (ht:=fun _ => ?_) (hf:=fun _ => ?_)<;> (try first | contradiction | (exfalso; omega)))|refine q_move (k:=?_)|refine q_pick_true (k:=?_)|refine q_lss (k:=?_)|refine q_neq_str (k:=?_)|refine q_len_slice (k:=?_)|refine q_nilCheck (k:=?_)|refine q_fieldAddr (k:=?_)|(refine wq_split_dec (h1:=fun _ => ?_) (h0:=fun _ => ?_)<;> (try first | contradiction | (exfalso; omega)))|refine v_fieldAddr (k:=?_)|refine wv_nil ?_)
      all_goals try (exfalso; first | omega | contradiction)
      exact at_cut (⟨0, [], n1 + 1, s1, I2, _, _, _, da3, dc3⟩ : QArg) (by exact ⟨rfl, rfl, rfl, rfl, rfl, rfl, trivial⟩) ⟨hm, hle0.trans hleI2, (ExsAt.le hleI2 _ _ hexs).snoc (exAt_cells hrow hexs2), hnl⟩
  · clear hm
    rintro ⟨_, _, n1, _, I1, a1, cp1, xs1, da1, dc1⟩ w2 ⟨hm, hle0, hexs, hn1⟩
    dsimp only at hm hle0 hexs hn1 ⊢
    have hr1 := hr.le hle0
    have hd9 : R.2.ds.length < 1099511627776 := by rw [hAd] at hg3; omega
    subst hn1
    repeat' (first|(refine m_call hm (hc:=p_must R.2 [41] (by simp) hr1 hT hd9 hg2) (k:=?_); clear hm; rintro _ _ _ _ ⟨rfl, rfl, da2, dc2, rfl⟩ hle hm; try simp only [setn] at hm)|(refine m_readC hm (hc:=p_last (R.2.need T [41]).2 hr1 hT hg4) (k:=?_); clear hm; intro _ hm)|refine m_load1 hm (k:=?_)|refine m_loadAll hm (k:=?_)|(refine m_storeAll hm (k:=?_); clear hm; intro _ hm; try simp only [setn] at hm)|(refine m_store1 hm (k:=?_); clear hm; intro _ hm; try simp only [setn] at hm)|refine op_move (k:=?_)|refine op_fieldAddr (k:=?_)|refine wl_nil ?_|refine at_then_normal ?_|refine wc_seq ?_|refine wc_region ?_|refine wc_ret ?_)
    all_goals try (exfalso; first | omega | contradiction)
    obtain ⟨I3, hle3, hm3, hrow3⟩ := (hm.front 2 rfl).freeze
    exact p_retA (i := 2) (e := .mk 4 (T.tok s.i).text 0 R.1 (T.tok s.i).pos (T.endOf (R.2.need T [41]).2.i)) (s' := (R.2.need T [41]).2) (by omega) rfl (hm3.front 5 rfl) rfl hrow3 (ExsAt.le hle3 _ _ hexs)
end
end Go.Proofs.YthmdffgiockcbaaGreatDoor
end
