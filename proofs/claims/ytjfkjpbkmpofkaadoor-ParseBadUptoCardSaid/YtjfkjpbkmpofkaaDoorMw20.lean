/-
  THE STATEMENTS of the laws ParseWhole and ParseBad, where what they read is small: each returns true, whatever it is given; the listed variables as the program lays them. By the prover.
-/
import Derived.Test.YtjfkjpbkmpofkaaDoorMw19
import Derived.Test.YtjfkjpbkmpofkaaDoorCards
import Derived.Test.YtjfkjpbkmpofkaaDoorTie
import Derived.Deep.DeepHandedRow
import Derived.Lay
section
namespace Go.Proofs.YtjfkjpbkmpofkaaDoor
open Go.Fw
set_option maxHeartbeats 8000000 in
theorem sp_pbad (s : List UInt8) (n : Int) (hs : s.length ≤ 1048576) (I : Imm) (hC : Conv I) : CalM Tryd.prog 6 #[str s, .int .i64 n] I [] (fun v _ H' => v = .bool true ∧ H' = []) := by
  refine CalM.of fun w E hm => enter (N := 60) Tryd.func6 rfl [(0, str s), (1, .int .i64 n)] args2 rfl ?_
  have hA := fun (I' : Imm) (m : Le I I') => p_alive I' (hC.le m)
  by_cases hl : s.length > 4000
  · skip
    repeat' (first
      | (refine m_call (d := 9) hm (by rfl) (by rfl) (by rfl) (by first | exact pm0 | exact pm1_0 | exact pm1_1 | exact pm1_2 | exact pm1_3 | exact pm2_0 | exact pm2_1 | exact pm2_2 | exact pm2_3 | exact pm2_4 | exact pm3_0 | exact pm3_1 | exact pm3_2) (hA _ (Le.refl _)) ?_; clear hm; rintro _ I2 _ _ ⟨rfl, rfl⟩ hle hm; have hleI2 := hle; try simp only [setn] at hm)
      | refine op_move (by rfl) (by rfl) (by rfl) ?_
      | refine op_assign (by rfl) (by rfl) (by rfl) ?_
      | refine op_gtr (by rfl) (by rfl) (by rfl) (by rfl) ?_
      | refine op_len_str (by rfl) (by rfl) (by rfl) ?_
      | refine op_not (by rfl) (by rfl) (by rfl) ?_
      | refine wl_nil ?_
      | refine at_then_normal ?_
      | refine at_then_ret ?_
      | refine wc_seq ?_
      | refine wc_region ?_
      | refine wc_skip ?_
      | refine wc_ret ?_
      | refine at_ret1 (by rfl) (by rfl) ?_
      | refine wc_cond_false (by rfl) ?_
      | (refine wc_cond_dec (by rfl) (fun _ => ?_) (fun _ => ?_) <;> (try first | contradiction | (exfalso; omega))))
    all_goals try (exfalso; omega)
    exact ⟨I2, [], ⟨rfl, rfl⟩, hm.left (H := [])⟩
  have hP := fun (I' : Imm) (m : Le I I') => p_item s 0 I' (hC.le m) hs
  have hP2 := fun (t : Sp.Tok) (I' : Imm) (m : Le I I') => p_item (s.take t.pos) 0 I' (hC.le m) (by rw [List.length_take]; omega)
  have hcut := fun k t h => Sp.item_cut s 0 0 k t h
  have hbad : ∀ (k : Nat) (t : Sp.Tok), (Sp.tokens s)[k]? = some t → t.kind = 4 → (Sp.item s 0).diags.length ≠ 0 := fun k t ht h4 => by
    have := Sp.item_bad s 0 ⟨t, List.mem_of_getElem? ht, h4⟩
    intro e
    exact this (List.length_eq_zero_iff.1 e)
  have hok : ∀ (k : Nat) (t : Sp.Tok), (Sp.tokens s)[k]? = some t → t.pos ≤ s.length := fun k t ht => by
    have := (Sp.tokens_ok s t (List.mem_of_getElem? ht)).pos
    omega
  have htl := toks_len s
  have hT : Sp.rtokens s = Sp.tokens s := Sp.rtokens_eq s
  have hcall := fun w => c_rtokens s (by omega) w
  rw [hT] at hcall
  generalize Sp.tokens s = ts at hcut hbad hok htl hcall
  clear hT
  generalize Sp.item s 0 = it at hP hcut hbad
  obtain ⟨m, hmm⟩ : ∃ m, m = ts.length := ⟨_, rfl⟩
  rw [← hmm] at hcall
  repeat' (first
    | (refine m_call (d := 9) hm (by rfl) (by rfl) (by rfl) (by first | exact pm0 | exact pm1_0 | exact pm1_1 | exact pm1_2 | exact pm1_3 | exact pm2_0 | exact pm2_1 | exact pm2_2 | exact pm2_3 | exact pm2_4 | exact pm3_0 | exact pm3_1 | exact pm3_2) (hA _ (Le.refl _)) ?_; clear hm; rintro _ I2 _ _ ⟨rfl, rfl⟩ hle hm; have hleI2 := hle; try simp only [setn] at hm)
    | (refine m_call (d := 15) hm (by rfl) (by rfl) (by rfl) (by first | exact pm0 | exact pm1_0 | exact pm1_1 | exact pm1_2 | exact pm1_3 | exact pm2_0 | exact pm2_1 | exact pm2_2 | exact pm2_3 | exact pm2_4 | exact pm3_0 | exact pm3_1 | exact pm3_2) (hP _ hleI2) ?_; clear hm; rintro _ I3 _ _ ⟨_, rfl, ⟨ap, cp, as_, cs1, ab, cb, ad, cd, xb, rfl, r1, r2, r3, r4, r5⟩, rfl⟩ hle hm; have hleI3 := hle; try simp only [setn] at hm)
    | (refine op_call (d := 17) (by rfl) (by rfl) (by rfl) (by exact hcall _) ?_; rintro tv wt ⟨hto, hkt⟩; obtain ⟨ta, tc, rfl⟩ := own_val hto; obtain ⟨I4, hle4, hm4, hrowT⟩ := hm.take hkt hto; clear hm; have hm := hm4; clear hm4)
    | (refine m_varS (d := 5) hm (by rfl) (by rfl) (by rfl) (by rfl) (by rfl) ?_; clear hm; intro b5 _ hm)
    | refine op_move (by rfl) (by rfl) (by rfl) ?_
    | refine op_assign (by rfl) (by rfl) (by rfl) ?_
    | refine op_gtr (by rfl) (by rfl) (by rfl) (by rfl) ?_
    | refine op_len_str (by rfl) (by rfl) (by rfl) ?_
    | refine op_len_slice (by rfl) (by rfl) (by rfl) ?_
    | refine op_not (by rfl) (by rfl) (by rfl) ?_
    | refine wl_nil ?_
    | refine at_then_normal ?_
    | refine wc_seq ?_
    | refine wc_region ?_
    | refine wc_block ?_
    | refine wc_skip ?_
    | refine wc_cond_false (by rfl) ?_
    | (refine wc_cond_dec (by rfl) (fun _ => ?_) (fun _ => ?_) <;> (try first | contradiction | (exfalso; omega))))
  all_goals try (exfalso; omega)
  refine wc_loop (fun k : Nat => [(0, str s), (1, .int .i64 n), (5, ptr b5), (17, .slice ta m tc), (18, nt m), (19, nt k)])
    (fun k w' => Mem E I4 [.cell b5 (itCells it.kind it.name it.label (.slice ap it.params.length cp) (.slice as_ it.sends.length cs1) (.slice ab it.body.length cb) it.at_ it.size it.mark (.slice ad it.diags.length cd)) 42] w' ∧ k ≤ m) (fun k => m - k) 0 (by exact ⟨rfl, rfl, rfl, rfl, rfl, rfl, trivial⟩) ⟨hm, Nat.zero_le _⟩ ?_
  clear hm
  rintro k w1 ⟨hm, hk⟩
  by_cases hlt : k < m
  · have hg : ts[k]? = some ts[k] := List.getElem?_eq_getElem (by omega)
    have hb := hbad k _ hg
    generalize ts[k] = t at hg hb
    repeat' (first
      | (refine i_indexFlat (d := 21) (enc := encTok) (z := t) (by rfl) (by rfl) (by rfl) (by rfl) hrowT (fun _ => rfl) (by omega) (by omega) (by exact hg) ?_; intro bt ot hpt)
      | (refine m_varS (d := 7) hm (by rfl) (by rfl) (by rfl) (by rfl) (by rfl) ?_; clear hm; intro b7 _ hm)
      | refine m_load1 hm (by rfl) (by rfl) (by rfl) (by first | exact gt0 | exact gt1 | exact gt2 | exact gt3 | exact gt4 | exact gt5 | exact gt6) (by rfl) ?_
      | refine i_loadN hm (by rfl) (by rfl) (by rfl) (by assumption) (by rfl) ?_
      | refine op_move (by rfl) (by rfl) (by rfl) ?_
      | refine op_pick_true (by rfl) (by rfl) (by rfl) (by rfl) ?_
      | refine op_pick_false (by rfl) (by rfl) (by rfl) (by rfl) ?_
      | refine op_lss (by rfl) (by rfl) (by rfl) (by rfl) ?_
      | refine op_eql (by rfl) (by rfl) (by rfl) (by rfl) ?_
      | refine op_len_slice (by rfl) (by rfl) (by rfl) ?_
      | refine op_add (by rfl) (by rfl) (by rfl) (by rfl) (by omega) ?_
      | refine op_fieldAddr (by rfl) (by rfl) (by rfl) ?_
      | refine wl_skip (by rfl) (by rfl) (by rfl) ?_
      | (refine wl_split_dec (by rfl) (by rfl) (by rfl) (fun _ => ?_) (fun _ => ?_) <;> (try first | contradiction | (exfalso; omega)))
      | refine wl_nil ?_
      | refine at_then_normal ?_
      | refine at_block_normal ?_
      | refine wc_seq ?_
      | refine wc_region ?_
      | refine wc_block ?_
      | refine wc_skip ?_
      | refine wc_cond_false (by rfl) ?_
      | (refine wc_cond_dec (by rfl) (fun _ => ?_) (fun _ => ?_) <;> (try first | contradiction | (exfalso; omega))))
    all_goals try (exfalso; omega)
    all_goals exact at_round (k + 1 : Nat) (by exact ⟨rfl, rfl, rfl, rfl, rfl, rfl, trivial⟩) ⟨hm.tl, by omega⟩ (by omega)
  · have hle := (hleI2.trans hleI3).trans hle4
    by_cases hn : it.diags.length = 0 ∧ 0 ≤ n ∧ n < m
    · obtain ⟨h0, hn0, hnm⟩ := hn
      have hg : ts[n.toNat]? = some ts[n.toNat] := List.getElem?_eq_getElem (by omega)
      have hc := hcut n.toNat _ hg (List.length_eq_zero_iff.1 h0)
      have ho := hok n.toNat _ hg
      generalize ts[n.toNat] = t at hg hc ho
      have hlen : 0 < (Sp.item (s.take t.pos) 0).diags.length := List.length_pos_iff.2 hc
      have hq := hP2 t
      generalize Sp.item (s.take t.pos) 0 = it2 at hlen hq
      repeat' (first
        | (refine op_call (d := 34) (by rfl) (by rfl) (by rfl) (by exact hcall _) ?_; rintro tv wt ⟨hto, hkt⟩; obtain ⟨ta2, tc2, rfl⟩ := own_val hto; obtain ⟨I5, hle5, hm5, hrow5⟩ := hm.take hkt hto; clear hm; have hm := hm5; clear hm5)
        | (refine i_indexFlat (d := 52) (enc := encTok) (z := t) (by rfl) (by rfl) (by rfl) (by rfl) hrow5 (fun _ => rfl) (by omega) (by omega) (by exact hg) ?_; intro bt ot hpt)
        | (refine m_call (d := 56) hm (by rfl) (by rfl) (by rfl) (by first | exact pm0 | exact pm1_0 | exact pm1_1 | exact pm1_2 | exact pm1_3 | exact pm2_0 | exact pm2_1 | exact pm2_2 | exact pm2_3 | exact pm2_4 | exact pm3_0 | exact pm3_1 | exact pm3_2) (hq _ (hle.trans hle5)) ?_; clear hm; rintro _ I6 _ _ ⟨_, rfl, ⟨ap2, cp2, as2, cs2, ab2, cb2, ad2, cd2, xb2, rfl, q1, q2, q3, q4, q5⟩, rfl⟩ hle hm; have hleI6 := hle; try simp only [setn] at hm)
        | refine m_load1 hm (by rfl) (by rfl) (by rfl) (by first | exact gt0 | exact gt1 | exact gt2 | exact gt3 | exact gt4 | exact gt5 | exact gt6) (by rfl) ?_
        | refine i_load1 hm (by rfl) (by rfl) (by rfl) (by assumption) (by rfl) ?_
        | refine op_move (by rfl) (by rfl) (by rfl) ?_
        | refine op_assign (by rfl) (by rfl) (by rfl) ?_
        | refine op_pick_false (by rfl) (by rfl) (by rfl) (by rfl) ?_
        | refine op_lss (by rfl) (by rfl) (by rfl) (by rfl) ?_
        | refine op_gtr (by rfl) (by rfl) (by rfl) (by rfl) ?_
        | refine op_geq (by rfl) (by rfl) (by rfl) (by rfl) ?_
        | refine op_len_slice (by rfl) (by rfl) (by rfl) ?_
        | refine op_field1 (by rfl) (by rfl) (by rfl) (by rfl) ?_
        | refine op_slice_to (by rfl) (by rfl) (by rfl) (by rfl) (by omega) ?_
        | refine op_fieldAddr (by rfl) (by rfl) (by rfl) ?_
        | (refine wl_split_dec (by rfl) (by rfl) (by rfl) (fun _ => ?_) (fun _ => ?_) <;> (try first | contradiction | (exfalso; omega)))
        | refine wl_nil ?_
        | refine at_then_normal ?_
        | refine at_then_exit ?_
        | refine at_block_exit ?_
        | refine wc_seq ?_
        | refine wc_region ?_
        | refine wc_skip ?_
        | refine wc_exit ?_
        | refine wc_ret ?_
        | refine at_ret1 (by rfl) (by rfl) ?_
        | (refine wc_cond_dec (by rfl) (fun _ => ?_) (fun _ => ?_) <;> (try first | contradiction | (exfalso; omega))))
      all_goals try (exfalso; omega)
      exact ⟨I6, [], ⟨by rw [decide_eq_true (by omega)], rfl⟩, hm.left (H := [])⟩
    · skip
      repeat' (first
        | (refine op_call (d := 34) (by rfl) (by rfl) (by rfl) (by exact hcall _) ?_; rintro tv wt ⟨hto, hkt⟩; obtain ⟨ta2, tc2, rfl⟩ := own_val hto; obtain ⟨I5, hle5, hm5, hrow5⟩ := hm.take hkt hto; clear hm; have hm := hm5; clear hm5)
        | refine m_load1 hm (by rfl) (by rfl) (by rfl) (by first | exact gt0 | exact gt1 | exact gt2 | exact gt3 | exact gt4 | exact gt5 | exact gt6) (by rfl) ?_
        | refine op_move (by rfl) (by rfl) (by rfl) ?_
        | refine op_assign (by rfl) (by rfl) (by rfl) ?_
        | refine op_pick_true (by rfl) (by rfl) (by rfl) (by rfl) ?_
        | refine op_pick_false (by rfl) (by rfl) (by rfl) (by rfl) ?_
        | refine op_lss (by rfl) (by rfl) (by rfl) (by rfl) ?_
        | refine op_gtr (by rfl) (by rfl) (by rfl) (by rfl) ?_
        | refine op_geq (by rfl) (by rfl) (by rfl) (by rfl) ?_
        | refine op_len_slice (by rfl) (by rfl) (by rfl) ?_
        | refine op_fieldAddr (by rfl) (by rfl) (by rfl) ?_
        | refine wl_skip (by rfl) (by rfl) (by rfl) ?_
        | (refine wl_split_dec (by rfl) (by rfl) (by rfl) (fun _ => ?_) (fun _ => ?_) <;> (try first | contradiction | (exfalso; omega)))
        | refine wl_nil ?_
        | refine at_then_normal ?_
        | refine at_then_ret ?_
        | refine at_then_exit ?_
        | refine at_block_exit ?_
        | refine wc_seq ?_
        | refine wc_region ?_
        | refine wc_exit ?_
        | refine wc_ret ?_
        | refine at_ret1 (by rfl) (by rfl) ?_
        | refine wc_cond_true (by rfl) ?_
        | (refine wc_cond_dec (by rfl) (fun _ => ?_) (fun _ => ?_) <;> (try first | contradiction | (exfalso; omega))))
      all_goals try (exfalso; omega)
      all_goals exact ⟨I5, [], ⟨rfl, rfl⟩, hm.left (H := [])⟩
end Go.Proofs.YtjfkjpbkmpofkaaDoor
end
section
namespace Go.Proofs.YtjfkjpbkmpofkaaDoor.parseBadTop
open Go.ChangeShapes Go.WideShapes Go.ChangeAt Go.RowKit
open Go.Fw (Kept Cal str Ret)
open Go.ChangeMaps (open_string shut_string)

set_option maxRecDepth 100000 in
theorem contract (H : Type) (enc : TypeId × Value → H) (W : World) (base : Nat) (args : Array Value) (ds gs : List (DataW H)) (before : List MemPlace)
    (hval : ∀ (j : Nat) t v, Tryd.f6.params[j]? = some t → args[j]? = some v → Value.okWide Tryd.prog W .any base t v)
    (hW : DataW.Whole enc Tryd.prog Tryd.f6.params.toList Rows.parseBadSpec.vars false W args.toList ds gs before) (hk : Rows.uptoSmall H (ds ++ gs) = true) (hL : laidMetH Tryd.prog Rows.parseBadUptoRow.laid W) :
    Calls Tryd.prog 6 args W fun e W' => ∃ v, e = .returned v ∧ Rows.parseBadSpec.post enc Tryd.prog Tryd.f6 false true false false W args v W' := by
  have hC := conv_of hL (by kernel_rfl) (by kernel_rfl)
  clear hL
  have hW' := hW
  obtain ⟨p, q, hA0, hV, rfl, hfz, hnd⟩ := hW
  have hA : DataW.TrodAll enc Tryd.prog W 0 (fun _ => true) true Tryd.f6.params.toList args.toList ds p := hA0
  rw [Tryd.params6] at hA hval
  obtain ⟨v0, vs0, d0, ds0, p0, q0, hargs, rfl, rfl, h0, r0⟩ := trodAll_cons hA
  obtain ⟨v1, vs1, d1, ds1, p1, q1, hx1, rfl, rfl, h1, r1⟩ := trodAll_cons r0
  obtain ⟨rfl, rfl, rfl⟩ := trodAll_nil r1
  obtain rfl : args = #[v0, v1] := by cases args; simp_all
  obtain ⟨rfl, rfl⟩ := trodVars_none hV
  obtain ⟨s0, rfl, rfl, rfl, hm0⟩ := open_string Tryd.underlying9 (hval 0 9 v0 rfl rfl) h0
  obtain ⟨s1, rfl, rfl, rfl, hm1⟩ := open_int Tryd.underlying3 (hval 1 3 v1 rfl rfl) h1
  clear hA0
  simp only [List.append_nil] at hW' hk
  have hb0 : s0.data.toList.length ≤ 1048576 := bulk_str hk (by simp)
  refine ((run_kept (sp_pbad s0.data.toList s1 (by omega) (Go.Fw.immOf W) hC)).run).mono fun e W' he => ?_
  cases e
  case returned v =>
    obtain ⟨rfl, hg⟩ := he
    refine ⟨_, rfl, post_kept (pa := []) (pv := []) hW' (fun _ _ _ => trodAll_cons_mk (shut_bool Tryd.underlying4 _) trodAll_mk0) (fun _ _ => ?_) (fun _ _ => rfl) hg⟩
    exact trodAll_cons_mk (shut_string Tryd.underlying9 hm0) (trodAll_cons_mk (shut_int Tryd.underlying3 hm1) trodAll_mk0)
  all_goals exact he.elim

/-- A world for the witness: the settled one, the listed variables holding what they are laid with. -/
noncomputable def laidWorld (os : Os) : World := World.laidAll Tryd.prog os Rows.parseBadUptoRow.laid
theorem laid_met (os : Os) : laidMet Tryd.prog Rows.parseBadUptoRow.laid ((laidWorld os).forCall (fun _ _ => 0) ⟨#[], #[.string .empty, .int .i64 0], []⟩).memory :=
  laidMet_laidAll _ (by kernel_rfl) (by kernel_rfl)
theorem reads (os : Os) {H : Type} (enc : TypeId × Value → H) : ∃ places, DataW.whole enc Tryd.prog ((laidWorld os).forCall (fun _ _ => 0) ⟨#[], #[.string .empty, .int .i64 0], []⟩).memory Tryd.f6.params.toList Rows.parseBadSpec.vars false (#[.string .empty, .int .i64 0] : Array Value).toList 8 = some ([.lit (.string []), .lit (.int .i64 0)], [], places) :=
  ⟨[], by kernel_rfl⟩

set_option maxRecDepth 100000 in
theorem lifted (os : Os) (started : os.Started) (H : Type) (enc : TypeId × Value → H) (F : Stop.Interp) :
    ReturnsInHanded {} Tryd.checked os 6 .any ((Rows.OpenSpec.upto Rows.parseBadSpec).preRow enc Tryd.prog Tryd.f6 Rows.parseBadUptoRow.domain false Rows.parseBadUptoRow.laid) (((Rows.OpenSpec.upto Rows.parseBadSpec).at F).post enc Tryd.prog Tryd.f6 false true false false) := by
  obtain ⟨places, hx⟩ := reads os enc
  refine returnsInHanded_of_row (C := Tryd.checked) (s := Rows.OpenSpec.upto Rows.parseBadSpec) ownKnobNone started (by kernel_rfl) Tryd.func6
    (witness_row_at (enc := enc) (C := Tryd.checked) false (laidWorld os) #[.string .empty, .int .i64 0] (World.laidAll_os _ _ _) (by kernel_rfl) (by kernel_rfl) (by kernel_rfl)
      (OpenSpec.preRow_of_cond 8 hx (by kernel_rfl) (fun k hk => by cases hk; kernel_rfl) (by kernel_rfl) (laid_met os))) ?_
  intro W base args ds gs before hval hW _ hcond _ hL _ _
  exact contract H enc W base args ds gs before hval hW (hcond _ rfl) hL

theorem said : Rows.ParseBadUptoSaid :=
  OpenClaim.holds_of_cond 6 Tryd.f6 rfl rfl rfl rfl rfl rfl rfl ⟨rfl, rfl, rfl, rfl, rfl⟩ rfl rfl rfl rfl rfl (by kernel_rfl) Tryd.func6 (by kernel_rfl)
    (of_decide_eq_true (by kernel_rfl)) (by unfold Func.isWrapper; first | (rw [if_pos (by decide +kernel)]; kernel_rfl) | (rw [if_neg (by decide +kernel)]; exact ⟨rfl, rfl⟩))
    (fun os started H enc _ F => by rw [OpenClaim.pre_eq_preRow]; exact lifted os started H enc F)

theorem plain (f : FuncId) (fn : Func) (hf : Tryd.pinned.checked.prog.funcNamed "undertone/underlaw3.ParseBad" = some f) (hfn : Tryd.pinned.checked.prog.funcs[f]? = some fn) :
    true = Tryd.pinned.checked.prog.looks [] ∧ ∀ (j : Nat) t, fn.params[j]? = some t → Tryd.pinned.checked.prog.wantsStandIn t = false := by
  obtain rfl : f = 6 := Option.some.inj ((show Tryd.prog.funcNamed "undertone/underlaw3.ParseBad" = some 6 by kernel_rfl).symm.trans hf) |>.symm
  obtain rfl : fn = Tryd.f6 := (Option.some.inj (Tryd.func6.symm.trans hfn)).symm
  refine ⟨by kernel_rfl, fun j t ht => ?_⟩
  rw [Tryd.params6] at ht
  have hm := Array.mem_of_getElem? ht
  simp only [List.mem_toArray, List.mem_cons, List.not_mem_nil, or_false] at hm
  rcases hm with rfl | rfl
  · exact (show Tryd.prog.wantsStandIn 9 = false by kernel_rfl)
  · exact (show Tryd.prog.wantsStandIn 3 = false by kernel_rfl)

theorem proved : Rows.ParseBadUptoCardSaid :=
  Claim7.holds_tied_plain_at .later [] _ _ _ _ said (fun _ h => by cases h) (by kernel_rfl) (fun _ h => by cases h) parseBadUpto_row_tie rfl ⟨rfl, rfl⟩ (by kernel_rfl) rfl plain (by kernel_rfl)
end Go.Proofs.YtjfkjpbkmpofkaaDoor.parseBadTop
end
section

end
