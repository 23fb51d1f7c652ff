/- Own work: texts PpN, FwMix, FwRow, one behind the other. -/
import Derived.Test.YtkbiakajlfmakaaDoorNm14
section
namespace Go.Proofs.YtkbiakajlfmakaaDoor
open Go.Fw
/-- what comes of a function's item. -/
abbrev ToQF (pb bi : Nat) (la : Option Addr) (lc : Nat) (T : Sp.Src) (q : Sp.Itm × Sp.St) : Value → Imm → List HItem → Prop :=
  fun v I' H' => q.2.i ≤ T.l.length ∧ q.2.ds.length ≤ 1099511626000 ∧ v = .tuple #[] ∧ ∃ ap cp as_ cs ab cb xb da dc,
    RowI I' 60 3 (.slice ap q.1.params.length cp) q.1.params.length (q.1.params.flatMap encPar) ∧ RowI I' 75 2 (.slice as_ q.1.sends.length cs) q.1.sends.length (q.1.sends.flatMap encRf) ∧
    RowI I' 122 15 (.slice ab q.1.body.length cb) q.1.body.length xb ∧ StsAt I' q.1.body xb ∧
    H' = [qObj pb la lc T q.2 0 da dc, dgRow q.2.ds da dc, .cell bi (itCells q.1.kind q.1.name q.1.label (.slice ap q.1.params.length cp) (.slice as_ q.1.sends.length cs) (.slice ab q.1.body.length cb) q.1.at_ q.1.size q.1.mark nil0) 33]
theorem fnItm_eq (T : Sp.Src) (at_ : Int) (size : Nat) (s : Sp.St) : Sp.fnItm T at_ size s =
    (let r := s.named T
     let p := parRes T r.2
     let s4 := (p.2.need T [58]).2
     let r5 := Sp.lab T s4
     let r6 := if T.is r5.2.i [115, 101, 110, 100, 115] then Sp.sndL T 6 [] r5.2.next else ([], r5.2)
     let r7 := Sp.block T (Sp.fuel T) 0 r6.2
     (⟨2, r.1, r5.1, p.1, r6.1, r7.1, at_, size, (T.tok s.i).pos, []⟩, r7.2)) := rfl
set_option maxHeartbeats 8000000 in
theorem p_fn (T : Sp.Src) (pb bi : Nat) (hT : Ok T) (I : Imm) (la : Option Addr) (lc : Nat) (da : Option Addr) (dc : Nat) (s : Sp.St) (at_ : Int) (size : Nat) (hC : Conv I) (hr : TokR I T la lc) (hi : s.i ≤ T.l.length) (hd : s.ds = []) :
    CalM Tryd.prog 114 #[ptr pb, ptr bi] I [qObj pb la lc T s 0 da dc, dgRow s.ds da dc, .cell bi (itCells 3 [] 0 nil0 nil0 nil0 at_ size 0 nil0) 33]
      (ToQF pb bi la lc T (Sp.fnItm T at_ size s)) := by
  have h2 := hT.size
  have h3 := hT.len
  have h1 := hT.at_ s.i
  have hd0 : s.ds.length = 0 := by rw [hd]; rfl
  rw [fnItm_eq]
  have hnm := fun da dc => p_name (pb := pb) (deep := 0) (da := da) (dc := dc) s hr hT (by omega) hi
  have hgn := Sp.goes_named T s
  dsimp only
  generalize s.named T = r at hnm hgn ⊢
  have hn1 := hgn.le
  have hn2 := hgn.top hi
  have hn3 := hgn.ds
  have hpa := fun da dc => p_params T pb hT I la lc 0 da dc r.2 hr hn2 (by omega)
  generalize parRes T r.2 = R at hpa ⊢
  refine CalM.of fun w E hm => enter (N := 64) Tryd.func114 rfl [(0, ptr pb), (1, ptr bi)] args2 rfl ?_
  repeat' (first
    | (refine m_readC hm (by rfl) (by rfl) (by rfl) (by first | exact sub_nil | exact sub1_0 | exact sub1_1 | exact sub1_2 | exact sub1_3 | exact sub2_0 | exact sub2_1 | exact sub2_2 | exact sub2_3 | exact sub2_4) (p_here s hr) ?_; clear hm; intro _ hm)
    | (refine m_call hm (by rfl) (by rfl) (by rfl) (by first | exact pm0 | exact pm1_0 | exact pm1_1 | exact pm1_2 | exact pm1_3 | exact pm2_0 | exact pm2_1 | exact pm2_2 | exact pm2_3 | exact pm2_4 | exact pm3_0 | exact pm3_1 | exact pm3_2) (hnm _ _) ?_; clear hm; rintro _ _ _ _ ⟨rfl, rfl, da1, dc1, rfl⟩ hle hm; try simp only [setn] at hm)
    | (refine m_call hm (by rfl) (by rfl) (by rfl) (by first | exact pm2_0 | exact pm2_1) (hpa _ _) ?_; clear hm; rintro _ I2 _ _ ⟨hi2, hd2, ⟨ap, cp, rfl, hrowp⟩, da2, dc2, rfl⟩ hle2 hm; replace hr := hr.le hle2; replace hC := hC.le hle2)
    | (refine m_store1 hm (by rfl) (by rfl) (by rfl) (by rfl) (by first | exact gt0 | exact gt1 | exact gt2 | exact gt3 | exact gt4 | exact gt5 | exact gt6) (by rfl) (by rfl) (by rfl) ?_; clear hm; intro _ hm; try simp only [setn] at hm)
    | refine op_move (by rfl) (by rfl) (by rfl) ?_
    | refine op_nilCheck (by rfl) (by rfl) (by rfl) ?_
    | refine op_fieldAddr (by rfl) (by rfl) (by rfl) ?_
    | refine wl_nil ?_
    | refine at_then_normal ?_
    | refine wc_seq ?_
    | refine wc_region ?_)
  have hd9 := fun da dc => p_must (pb := pb) (deep := 0) (da := da) (dc := dc) R.2 [58] (by simp) hr hT (by omega) hi2
  have hg9 := Sp.goes_need T R.2 [58]
  generalize (R.2.need T [58]) = s4 at hd9 hg9 ⊢
  have k4 := hg9.le
  have k5 := hg9.top hi2
  have k6 := hg9.ds
  have hlb := fun da dc => p_label (pb := pb) (deep := 0) (da := da) (dc := dc) s4.2 hr hT k5 (by omega)
  have hgl := Sp.goes_lab T s4.2
  generalize Sp.lab T s4.2 = r5 at hlb hgl ⊢
  have k7 := hgl.le
  have k8 := hgl.top k5
  have k9 := hgl.ds
  have hsd := fun da dc => p_eat (pb := pb) (deep := 0) (da := da) (dc := dc) r5.2 [115, 101, 110, 100, 115] (by simp) hr hT k8
  obtain ⟨R6, hR6⟩ : ∃ R6, R6 = (if T.is r5.2.i [115, 101, 110, 100, 115] = true then Sp.sndL T 6 [] r5.2.next else ([], r5.2)) := ⟨_, rfl⟩
  rw [← hR6]
  cases hyes : T.is r5.2.i [115, 101, 110, 100, 115] with
  | true =>
    rw [hyes, if_pos rfl] at hR6
    rw [hyes, if_pos rfl] at hsd
    have hlt6 := Sp.is_lt hyes
    have hni : r5.2.next.i = r5.2.i + 1 := rfl
    have hnd2 : r5.2.next.ds.length = r5.2.ds.length := rfl
    repeat' (first
      | (refine wc_midb 0 (fun x : QSnd => [(0, ptr pb), (1, ptr bi)]) (fun x w' => x.n = R6.1.length ∧ R6.2.i ≤ T.l.length ∧ R6.2.ds.length ≤ 16000000 ∧ Mem E I2 [qObj pb la lc T R6.2 0 x.da x.dc, dgRow R6.2.ds x.da x.dc, sndRow R6.1 x.n x.a x.cp, .cell bi (itCells 2 r.1 r5.1 (.slice ap R.1.length cp) (.slice x.a x.n x.cp) nil0 at_ size (T.tok s.i).pos nil0) 33] w') ?_ ?_)
      | (refine m_call hm (by rfl) (by rfl) (by rfl) (by first | exact pm0 | exact pm1_0 | exact pm1_1 | exact pm1_2 | exact pm1_3 | exact pm2_0 | exact pm2_1 | exact pm2_2 | exact pm2_3 | exact pm2_4 | exact pm3_0 | exact pm3_1 | exact pm3_2) (hd9 _ _) ?_; clear hm; rintro _ _ _ _ ⟨rfl, rfl, da5, dc5, rfl⟩ hle hm; try simp only [setn] at hm)
      | (refine m_call hm (by rfl) (by rfl) (by rfl) (by first | exact pm0 | exact pm1_0 | exact pm1_1 | exact pm1_2 | exact pm1_3 | exact pm2_0 | exact pm2_1 | exact pm2_2 | exact pm2_3 | exact pm2_4 | exact pm3_0 | exact pm3_1 | exact pm3_2) (hlb _ _) ?_; clear hm; rintro _ _ _ _ ⟨rfl, rfl, da6, dc6, rfl⟩ hle hm; try simp only [setn] at hm)
      | (refine m_call hm (by rfl) (by rfl) (by rfl) (by first | exact pm0 | exact pm1_0 | exact pm1_1 | exact pm1_2 | exact pm1_3 | exact pm2_0 | exact pm2_1 | exact pm2_2 | exact pm2_3 | exact pm2_4 | exact pm3_0 | exact pm3_1 | exact pm3_2) (hsd _ _) ?_; clear hm; rintro _ _ _ _ ⟨rfl, rfl, da7, dc7, rfl⟩ hle hm; try simp only [setn] at hm)
      | (refine m_store1 hm (by rfl) (by rfl) (by rfl) (by rfl) (by first | exact gt0 | exact gt1 | exact gt2 | exact gt3 | exact gt4 | exact gt5 | exact gt6) (by rfl) (by rfl) (by rfl) ?_; clear hm; intro _ hm; try simp only [setn] at hm)
      | refine op_move (by rfl) (by rfl) (by rfl) ?_
      | refine op_nilCheck (by rfl) (by rfl) (by rfl) ?_
      | refine op_fieldAddr (by rfl) (by rfl) (by rfl) ?_
      | refine wl_nil ?_
      | refine at_then_normal ?_
      | refine wc_seq ?_
      | refine wc_region ?_
      | refine wc_cond_true (by rfl) ?_)
    · have hm2 := hm.nil 75 2
      clear hm
      refine wc_loop (fun x : QSnd => [(0, ptr pb), (1, ptr bi)])
        (fun x w' => Mem E I2 [qObj pb la lc T x.s 0 x.da x.dc, dgRow x.s.ds x.da x.dc, sndRow x.l x.n x.a x.cp, .cell bi (itCells 2 r.1 r5.1 (.slice ap R.1.length cp) (.slice x.a x.n x.cp) nil0 at_ size (T.tok s.i).pos nil0) 33] w' ∧
          x.l.length = x.n ∧ x.n ≤ 5 ∧ x.f + x.n = 6 ∧ x.s.i ≤ T.l.length ∧ x.s.ds.length ≤ 8000010 + 2 * x.s.i + 3 * x.n ∧ Sp.sndL T x.f x.l x.s = R6)
        (fun x => x.f) ⟨6, [], 0, r5.2.next, none, 0, da7, dc7⟩ (by exact ⟨rfl, rfl, trivial⟩) ⟨hm2.perm pm2_1, rfl, by dsimp only; omega, rfl, by dsimp only; omega, by dsimp only; omega, hR6.symm⟩ ?_
      clear hm2
      rintro ⟨f1, l1, n1, s2, a2, cp2, da3, dc3⟩ w2 ⟨hm, hl, hn5, hf, hi3, hd3, hL⟩
      dsimp only at hm hl hn5 hf hi3 hd3 hL ⊢
      obtain ⟨f1, rfl⟩ : ∃ f', f1 = f' + 1 := ⟨f1 - 1, by omega⟩
      rw [Sp.sndL] at hL
      by_cases h5 : 5 ≤ l1.length
      · rw [if_pos h5] at hL
        subst hL
        repeat' (first
          | (refine m_call hm (by rfl) (by rfl) (by rfl) (by first | exact pm0 | exact pm1_0 | exact pm1_1 | exact pm1_2 | exact pm1_3 | exact pm2_0 | exact pm2_1 | exact pm2_2 | exact pm2_3 | exact pm2_4 | exact pm3_0 | exact pm3_1 | exact pm3_2) (p_tell s2 5 hr hT hi3 (by omega)) ?_; clear hm; rintro _ _ _ _ ⟨rfl, rfl, da4, dc4, rfl⟩ hle hm; try simp only [setn] at hm)
          | refine m_load1 hm (by rfl) (by rfl) (by rfl) (by first | exact gt0 | exact gt1 | exact gt2 | exact gt3 | exact gt4 | exact gt5 | exact gt6) (by rfl) ?_
          | refine op_move (by rfl) (by rfl) (by rfl) ?_
          | refine op_eql (by rfl) (by rfl) (by rfl) (by rfl) ?_
          | refine op_len_slice (by rfl) (by rfl) (by rfl) ?_
          | refine op_nilCheck (by rfl) (by rfl) (by rfl) ?_
          | refine op_fieldAddr (by rfl) (by rfl) (by rfl) ?_
          | refine wl_nil ?_
          | refine at_then_normal ?_
          | refine at_then_exit ?_
          | refine at_block_exit ?_
          | refine at_block_other (by rfl) ?_
          | refine wc_seq ?_
          | refine wc_region ?_
          | refine wc_block ?_
          | refine wc_exit ?_
          | (refine wc_cond_dec (by rfl) (fun _ => ?_) (fun _ => ?_) <;> (try first | contradiction | (exfalso; omega))))
        all_goals try (exfalso; omega)
        exact at_cut (⟨0, [], n1, s2, a2, cp2, da4, dc4⟩ : QSnd) (by exact ⟨rfl, rfl, trivial⟩) ⟨hl.symm, hi3, by simp [Sp.St.bad]; omega, hm⟩
      rw [if_neg h5] at hL
      dsimp only at hL
      have hnm2 := fun da dc => p_name (pb := pb) (deep := 0) (da := da) (dc := dc) s2 hr hT (by omega) hi3
      have hgn2 := Sp.goes_named T s2
      generalize s2.named T = q at hnm2 hgn2 hL
      have hq1 := hgn2.le
      have hq2 := hgn2.top hi3
      have hq3 := hgn2.ds
      have hnl : (l1 ++ [(⟨q.1, (T.tok s2.i).pos⟩ : Sp.Rf)]).length = n1 + 1 := by simp [hl]
      have hfm : (l1 ++ [(⟨q.1, (T.tok s2.i).pos⟩ : Sp.Rf)]).flatMap encRf = l1.flatMap encRf ++ [str q.1, nt (T.tok s2.i).pos] := by simp [List.flatMap_append]
      have hcm := fun da dc => p_eat (pb := pb) (deep := 0) (da := da) (dc := dc) q.2 [44] (by simp) hr hT hq2
      have hn4 : n1 < 5 := by omega
      have hni : q.2.next.i = q.2.i + 1 := rfl
      have hnd2 : q.2.next.ds.length = q.2.ds.length := rfl
      by_cases hcomma : T.is q.2.i [44] = true
      · rw [if_pos hcomma] at hL
        rw [hcomma, if_pos (by rfl)] at hcm
        have hlt2 := Sp.is_lt hcomma
        repeat' (first
          | (refine wc_semi_mem (id := 10) (hm.perm pm1_3) 6 8 (by kernel_rfl) ?_; clear hm; intro wd hR hm)
          | (refine m_readC hm (by rfl) (by rfl) (by rfl) (by first | exact sub_nil | exact sub1_0 | exact sub1_1 | exact sub1_2 | exact sub1_3 | exact sub2_0 | exact sub2_1 | exact sub2_2 | exact sub2_3 | exact sub2_4) (p_here s2 hr) ?_; clear hm; intro _ hm)
          | (refine m_call hm (by rfl) (by rfl) (by rfl) (by first | exact pm0 | exact pm1_0 | exact pm1_1 | exact pm1_2 | exact pm1_3 | exact pm2_0 | exact pm2_1 | exact pm2_2 | exact pm2_3 | exact pm2_4 | exact pm3_0 | exact pm3_1 | exact pm3_2) (hnm2 _ _) ?_; clear hm; rintro _ _ _ _ ⟨rfl, rfl, da4, dc4, rfl⟩ hle hm; try simp only [setn] at hm)
          | (refine m_call hm (by rfl) (by rfl) (by rfl) (by first | exact pm0 | exact pm1_0 | exact pm1_1 | exact pm1_2 | exact pm1_3 | exact pm2_0 | exact pm2_1 | exact pm2_2 | exact pm2_3 | exact pm2_4 | exact pm3_0 | exact pm3_1 | exact pm3_2) (hcm _ _) ?_; clear hm; rintro _ _ _ _ ⟨rfl, rfl, da8, dc8, rfl⟩ hle hm; try simp only [setn] at hm)
          | refine mw_loadAll hR (by rfl) (by rfl) (by rfl) (by first | exact gt0 | exact gt1 | exact gt2 | exact gt3 | exact gt4 | exact gt5 | exact gt6) (by rfl) ?_
          | refine mw_load1 hR (by rfl) (by rfl) (by rfl) (by first | exact gt0 | exact gt1 | exact gt2 | exact gt3 | exact gt4 | exact gt5 | exact gt6) (by rfl) ?_
          | (refine mt_push (d := 53) hm (by rfl) (by rfl) (by rfl) (by rfl) (by rfl) (by first | exact gt0 | exact gt1 | exact gt2 | exact gt3 | exact gt4 | exact gt5 | exact gt6) (by rfl) (by rfl) (by rfl) (by rfl) (by omega) (by omega) ?_; clear hm; intro a53 cp53 _ _ hm; replace hm := hR.back hm; clear hR; try simp only [setn] at hm)
          | (refine m_varS (d := 4) hm (by rfl) (by rfl) (by rfl) (by rfl) (by rfl) ?_; clear hm; intro b4 _ hm)
          | refine m_load1 hm (by rfl) (by rfl) (by rfl) (by first | exact gt0 | exact gt1 | exact gt2 | exact gt3 | exact gt4 | exact gt5 | exact gt6) (by rfl) ?_
          | (refine m_store1 hm (by rfl) (by rfl) (by rfl) (by rfl) (by first | exact gt0 | exact gt1 | exact gt2 | exact gt3 | exact gt4 | exact gt5 | exact gt6) (by rfl) (by rfl) (by rfl) ?_; clear hm; intro _ hm; try simp only [setn] at hm)
          | refine op_move (by rfl) (by rfl) (by rfl) ?_
          | refine op_eql (by rfl) (by rfl) (by rfl) (by rfl) ?_
          | refine op_len_slice (by rfl) (by rfl) (by rfl) ?_
          | refine op_not (by rfl) (by rfl) (by rfl) ?_
          | refine op_nilCheck (by rfl) (by rfl) (by rfl) ?_
          | refine op_fieldAddr (by rfl) (by rfl) (by rfl) ?_
          | refine op_struct (by rfl) (by rfl) (by rfl) (by rfl) ?_
          | refine wl_nil ?_
          | refine at_then_normal ?_
          | refine at_block_normal ?_
          | refine wc_seq ?_
          | refine wc_region ?_
          | refine wc_block ?_
          | refine wc_skip ?_
          | refine wc_cond_false (by rfl) ?_
          | (refine wc_cond_dec (by rfl) (fun _ => ?_) (fun _ => ?_) <;> (try first | contradiction | (exfalso; omega)))
          | refine v_move (by rfl) (by rfl) (by rfl) ?_
          | refine v_nilCheck (by rfl) (by rfl) (by rfl) ?_
          | refine v_fieldAddr (by rfl) (by rfl) (by rfl) ?_
          | refine wv_nil ?_)
        all_goals try (exfalso; first | omega | contradiction)
        refine at_round (⟨f1, _, n1 + 1, q.2.next, a53, cp53, da8, dc8⟩ : QSnd) (by exact ⟨rfl, rfl, trivial⟩) ⟨?_, hnl, by dsimp only; omega, by dsimp only; omega, by dsimp only; omega, by dsimp only; omega, hL⟩ (by dsimp only; omega)
        dsimp only [sndRow]
        rw [hfm]
        exact (hm.front 3 rfl).tl
      · rw [if_neg hcomma] at hL
        rw [show T.is q.2.i [44] = false by simpa using hcomma, if_neg (by simp)] at hcm
        subst hL
        repeat' (first
          | (refine wc_semi_mem (id := 10) (hm.perm pm1_3) 6 8 (by kernel_rfl) ?_; clear hm; intro wd hR hm)
          | (refine m_readC hm (by rfl) (by rfl) (by rfl) (by first | exact sub_nil | exact sub1_0 | exact sub1_1 | exact sub1_2 | exact sub1_3 | exact sub2_0 | exact sub2_1 | exact sub2_2 | exact sub2_3 | exact sub2_4) (p_here s2 hr) ?_; clear hm; intro _ hm)
          | (refine m_call hm (by rfl) (by rfl) (by rfl) (by first | exact pm0 | exact pm1_0 | exact pm1_1 | exact pm1_2 | exact pm1_3 | exact pm2_0 | exact pm2_1 | exact pm2_2 | exact pm2_3 | exact pm2_4 | exact pm3_0 | exact pm3_1 | exact pm3_2) (hnm2 _ _) ?_; clear hm; rintro _ _ _ _ ⟨rfl, rfl, da4, dc4, rfl⟩ hle hm; try simp only [setn] at hm)
          | (refine m_call hm (by rfl) (by rfl) (by rfl) (by first | exact pm0 | exact pm1_0 | exact pm1_1 | exact pm1_2 | exact pm1_3 | exact pm2_0 | exact pm2_1 | exact pm2_2 | exact pm2_3 | exact pm2_4 | exact pm3_0 | exact pm3_1 | exact pm3_2) (hcm _ _) ?_; clear hm; rintro _ _ _ _ ⟨rfl, rfl, da8, dc8, rfl⟩ hle hm; try simp only [setn] at hm)
          | refine mw_loadAll hR (by rfl) (by rfl) (by rfl) (by first | exact gt0 | exact gt1 | exact gt2 | exact gt3 | exact gt4 | exact gt5 | exact gt6) (by rfl) ?_
          | refine mw_load1 hR (by rfl) (by rfl) (by rfl) (by first | exact gt0 | exact gt1 | exact gt2 | exact gt3 | exact gt4 | exact gt5 | exact gt6) (by rfl) ?_
          | (refine mt_push (d := 53) hm (by rfl) (by rfl) (by rfl) (by rfl) (by rfl) (by first | exact gt0 | exact gt1 | exact gt2 | exact gt3 | exact gt4 | exact gt5 | exact gt6) (by rfl) (by rfl) (by rfl) (by rfl) (by omega) (by omega) ?_; clear hm; intro a53 cp53 _ _ hm; replace hm := hR.back hm; clear hR; try simp only [setn] at hm)
          | (refine m_varS (d := 4) hm (by rfl) (by rfl) (by rfl) (by rfl) (by rfl) ?_; clear hm; intro b4 _ hm)
          | refine m_load1 hm (by rfl) (by rfl) (by rfl) (by first | exact gt0 | exact gt1 | exact gt2 | exact gt3 | exact gt4 | exact gt5 | exact gt6) (by rfl) ?_
          | (refine m_store1 hm (by rfl) (by rfl) (by rfl) (by rfl) (by first | exact gt0 | exact gt1 | exact gt2 | exact gt3 | exact gt4 | exact gt5 | exact gt6) (by rfl) (by rfl) (by rfl) ?_; clear hm; intro _ hm; try simp only [setn] at hm)
          | refine op_move (by rfl) (by rfl) (by rfl) ?_
          | refine op_eql (by rfl) (by rfl) (by rfl) (by rfl) ?_
          | refine op_len_slice (by rfl) (by rfl) (by rfl) ?_
          | refine op_not (by rfl) (by rfl) (by rfl) ?_
          | refine op_nilCheck (by rfl) (by rfl) (by rfl) ?_
          | refine op_fieldAddr (by rfl) (by rfl) (by rfl) ?_
          | refine op_struct (by rfl) (by rfl) (by rfl) (by rfl) ?_
          | refine wl_nil ?_
          | refine at_then_normal ?_
          | refine at_then_exit ?_
          | refine at_block_exit ?_
          | refine at_block_other (by rfl) ?_
          | refine wc_seq ?_
          | refine wc_region ?_
          | refine wc_block ?_
          | refine wc_skip ?_
          | refine wc_exit ?_
          | refine wc_cond_true (by rfl) ?_
          | (refine wc_cond_dec (by rfl) (fun _ => ?_) (fun _ => ?_) <;> (try first | contradiction | (exfalso; omega)))
          | refine v_move (by rfl) (by rfl) (by rfl) ?_
          | refine v_nilCheck (by rfl) (by rfl) (by rfl) ?_
          | refine v_fieldAddr (by rfl) (by rfl) (by rfl) ?_
          | refine wv_nil ?_)
        all_goals try (exfalso; first | omega | contradiction)
        refine at_cut (⟨0, [], n1 + 1, s2, a53, cp53, da8, dc8⟩ : QSnd) (by exact ⟨rfl, rfl, trivial⟩) ⟨hnl.symm, hq2, by dsimp only; omega, ?_⟩
        dsimp only [sndRow]
        rw [hfm]
        exact (hm.front 3 rfl).tl
    · clear hm hd9 hlb hsd
      rintro ⟨_, _, n2, _, a2, cp2, da3, dc3⟩ w3 ⟨hn, hi3, hd3, hm⟩
      dsimp only at hn hm ⊢
      subst hn
      have hbl := fun da dc => (p_stmblock T pb hT (Sp.fuel T)).2 I2 la lc 0 da dc R6.2 hC hr hi3 (by rw [Sp.fuel]; omega) (by omega) (by omega)
      have hgb := (Sp.goes_block T (Sp.fuel T)).1 0 R6.2
      generalize Sp.block T (Sp.fuel T) 0 R6.2 = r7 at hbl hgb ⊢
      have j1 := hgb.le
      have j2 := hgb.top hi3
      have j3 := hgb.ds
      repeat' (first
        | (refine m_call hm (by rfl) (by rfl) (by rfl) (by first | exact pm0 | exact pm1_0 | exact pm1_1 | exact pm1_2 | exact pm1_3 | exact pm2_0 | exact pm2_1 | exact pm2_2 | exact pm2_3 | exact pm2_4 | exact pm3_0 | exact pm3_1 | exact pm3_2) (hbl _ _) ?_; clear hm; rintro _ I3 _ _ ⟨⟨ab, cb, xb, rfl, hrow, hsts⟩, da8, dc8, rfl⟩ hle hm; have hleI3 := hle; try simp only [setn] at hm)
        | (refine m_store1 hm (by rfl) (by rfl) (by rfl) (by rfl) (by first | exact gt0 | exact gt1 | exact gt2 | exact gt3 | exact gt4 | exact gt5 | exact gt6) (by rfl) (by rfl) (by rfl) ?_; clear hm; intro _ hm; try simp only [setn] at hm)
        | refine op_move (by rfl) (by rfl) (by rfl) ?_
        | refine op_nilCheck (by rfl) (by rfl) (by rfl) ?_
        | refine op_fieldAddr (by rfl) (by rfl) (by rfl) ?_
        | refine wl_nil ?_
        | refine at_then_normal ?_
        | refine wc_region ?_
        | refine at_end0 (by rfl) ?_)
      obtain ⟨I4, hle4, hm4, hrow4⟩ := (hm.front 2 rfl).freeze
      exact ⟨I4, _, ⟨j2, by dsimp only; omega, rfl, ap, cp, a2, cp2, ab, cb, xb, da8, dc8, (hrowp.le hleI3).le hle4, hrow4, hrow.le hle4, StsAt.le hle4 _ _ hsts, rfl⟩, hm4⟩
  | false =>
    rw [hyes, if_neg (by simp)] at hR6
    rw [hyes, if_neg (by simp)] at hsd
    have hi3 : R6.2.i ≤ T.l.length := by rw [hR6]; exact k8
    have hd3 : R6.2.ds.length ≤ 16000000 := by rw [hR6]; dsimp only; omega
    have hs6 : R6.1 = [] := by rw [hR6]
    have hbl := fun da dc => (p_stmblock T pb hT (Sp.fuel T)).2 I2 la lc 0 da dc R6.2 hC hr hi3 (by rw [Sp.fuel]; omega) (by omega) (by omega)
    have hgb := (Sp.goes_block T (Sp.fuel T)).1 0 R6.2
    generalize Sp.block T (Sp.fuel T) 0 R6.2 = r7 at hbl hgb ⊢
    have j1 := hgb.le
    have j2 := hgb.top hi3
    have j3 := hgb.ds
    subst hR6
    repeat' (first
      | (refine m_call hm (by rfl) (by rfl) (by rfl) (by first | exact pm0 | exact pm1_0 | exact pm1_1 | exact pm1_2 | exact pm1_3 | exact pm2_0 | exact pm2_1 | exact pm2_2 | exact pm2_3 | exact pm2_4 | exact pm3_0 | exact pm3_1 | exact pm3_2) (hd9 _ _) ?_; clear hm; rintro _ _ _ _ ⟨rfl, rfl, da5, dc5, rfl⟩ hle hm; try simp only [setn] at hm)
      | (refine m_call hm (by rfl) (by rfl) (by rfl) (by first | exact pm0 | exact pm1_0 | exact pm1_1 | exact pm1_2 | exact pm1_3 | exact pm2_0 | exact pm2_1 | exact pm2_2 | exact pm2_3 | exact pm2_4 | exact pm3_0 | exact pm3_1 | exact pm3_2) (hlb _ _) ?_; clear hm; rintro _ _ _ _ ⟨rfl, rfl, da6, dc6, rfl⟩ hle hm; try simp only [setn] at hm)
      | (refine m_call hm (by rfl) (by rfl) (by rfl) (by first | exact pm0 | exact pm1_0 | exact pm1_1 | exact pm1_2 | exact pm1_3 | exact pm2_0 | exact pm2_1 | exact pm2_2 | exact pm2_3 | exact pm2_4 | exact pm3_0 | exact pm3_1 | exact pm3_2) (hsd _ _) ?_; clear hm; rintro _ _ _ _ ⟨rfl, rfl, da7, dc7, rfl⟩ hle hm; try simp only [setn] at hm)
      | (refine m_call hm (by rfl) (by rfl) (by rfl) (by first | exact pm0 | exact pm1_0 | exact pm1_1 | exact pm1_2 | exact pm1_3 | exact pm2_0 | exact pm2_1 | exact pm2_2 | exact pm2_3 | exact pm2_4 | exact pm3_0 | exact pm3_1 | exact pm3_2) (hbl _ _) ?_; clear hm; rintro _ I3 _ _ ⟨⟨ab, cb, xb, rfl, hrow, hsts⟩, da8, dc8, rfl⟩ hle hm; have hleI3 := hle; try simp only [setn] at hm)
      | (refine m_store1 hm (by rfl) (by rfl) (by rfl) (by rfl) (by first | exact gt0 | exact gt1 | exact gt2 | exact gt3 | exact gt4 | exact gt5 | exact gt6) (by rfl) (by rfl) (by rfl) ?_; clear hm; intro _ hm; try simp only [setn] at hm)
      | refine op_move (by rfl) (by rfl) (by rfl) ?_
      | refine op_nilCheck (by rfl) (by rfl) (by rfl) ?_
      | refine op_fieldAddr (by rfl) (by rfl) (by rfl) ?_
      | refine wl_nil ?_
      | refine at_then_normal ?_
      | refine wc_seq ?_
      | refine wc_region ?_
      | refine wc_skip ?_
      | refine at_end0 (by rfl) ?_
      | refine wc_cond_false (by rfl) ?_)
    exact ⟨I3, _, ⟨j2, by dsimp only; omega, rfl, ap, cp, none, 0, ab, cb, xb, da8, dc8, hrowp.le hleI3, rowI_nil _ _ _ _ _, hrow, hsts, rfl⟩, hm⟩
set_option maxHeartbeats 8000000 in
theorem p_item (s : List UInt8) (at_ : Int) (I : Imm) (hC : Conv I) (hs : s.length ≤ 1048576) : CalM Tryd.prog 87 #[str s, .int .i64 at_] I [] (ToIt (Sp.item s at_)) := by
  have hT := ok_tokens s hs
  rw [Sp.item_eq]
  generalize hTd : (Sp.Src.mk (Sp.tokens s) s.length) = T at hT ⊢
  have hsz : T.size = s.length := by rw [← hTd]
  have h2 := hT.size
  have h3 := hT.len
  obtain ⟨q, hq⟩ : ∃ q, q = Sp.itemQ T at_ s.length := ⟨_, rfl⟩
  rw [← hq]
  refine CalM.of fun w E hm => enter (N := 67) Tryd.func87 rfl [(0, str s), (1, .int .i64 at_)] args2 rfl ?_
  repeat' (first
    | (refine wc_midb 0 (fun x : ItX => [(4, ptr b4), (5, ptr b5), (6, ptr b16)]) (fun x w' => q.2.i ≤ T.l.length ∧ q.2.ds.length ≤ 1099511626000 ∧ TokR x.I T ta tc ∧ RowI x.I 60 3 (.slice x.ap q.1.params.length x.cp) q.1.params.length (q.1.params.flatMap encPar) ∧ RowI x.I 75 2 (.slice x.as_ q.1.sends.length x.cs) q.1.sends.length (q.1.sends.flatMap encRf) ∧ RowI x.I 122 15 (.slice x.ab q.1.body.length x.cb) q.1.body.length x.xb ∧ StsAt x.I q.1.body x.xb ∧ Mem E x.I [qObj b16 ta tc T q.2 0 x.da x.dc, dgRow q.2.ds x.da x.dc, .cell b5 (itV q.1 x) 33, .cell b4 (itCells 0 [] 0 nil0 nil0 nil0 0 0 0 nil0) 33] w') ?_ ?_)
    | (refine op_call (by rfl) (by rfl) (by rfl) (by exact c_tokens s (by omega) _) ?_; rintro tv wt ⟨hto, hkt⟩; obtain ⟨ta, tc, rfl⟩ := own_val hto; obtain ⟨I1, hle1, hm1, hrow⟩ := hm.take hkt hto; clear hm; have hm := hm1; clear hm1)
    | (refine m_allocS (d := 4) hm (by rfl) (by rfl) ?_; clear hm; intro b4 _ hm)
    | (refine m_varS (d := 5) hm (by rfl) (by rfl) (by rfl) (by rfl) (by rfl) ?_; clear hm; intro b5 _ hm)
    | (refine m_box (d := 16) hm (by rfl) (by rfl) (by rfl) (by rfl) ?_; clear hm; intro b16 _ hm)
    | refine op_move (by rfl) (by rfl) (by rfl) ?_
    | refine op_assign (by rfl) (by rfl) (by rfl) ?_
    | refine op_len_str (by rfl) (by rfl) (by rfl) ?_
    | refine op_struct (by rfl) (by rfl) (by rfl) (by rfl) ?_
    | refine wl_nil ?_
    | refine at_then_normal ?_
    | refine wc_seq ?_
    | refine wc_region ?_)
  · rename_i wB
    have hr : TokR I1 T ta tc := by rw [← hTd]; exact hrow
    have hC1 := hC.le hle1
    have hm2 : Mem E I1 [qObj b16 ta tc T ⟨0, []⟩ 0 none 0, .cell b5 (itCells 3 [] 0 nil0 nil0 nil0 at_ s.length 0 nil0) 33, .cell b4 (itCells 0 [] 0 nil0 nil0 nil0 0 0 0 nil0) 33] wB := by rw [← hTd]; exact hm
    have hm3 : Mem E I1 [qObj b16 ta tc T ⟨0, []⟩ 0 none 0, dgRow [] none 0, .cell b5 (itCells 3 [] 0 nil0 nil0 nil0 at_ s.length 0 nil0) 33, .cell b4 (itCells 0 [] 0 nil0 nil0 nil0 0 0 0 nil0) 33] wB := (hm2.nil 116 4).swap
    clear hm hm2 hrow hto
    have hm := hm3
    clear hm3
    have hq1 := fun da dc => p_eat (pb := b16) (deep := 0) (da := da) (dc := dc) ⟨0, []⟩ [102, 110] (by simp) hr hT (Nat.zero_le _)
    have hq2 := fun da dc => p_eat (pb := b16) (deep := 0) (da := da) (dc := dc) ⟨0, []⟩ [99, 104, 97, 110] (by simp) hr hT (Nat.zero_le _)
    dsimp only at hq1 hq2
    rw [Sp.itemQ] at hq
    by_cases hf : T.is 0 [102, 110] = true
    · rw [if_pos hf] at hq
      rw [if_pos hf, hf] at hq1
      have hlt := Sp.is_lt hf
      have hfn := fun da dc => p_fn T b16 b5 hT I1 ta tc da dc ⟨1, []⟩ at_ s.length hC1 hr hlt rfl
      rw [← hq] at hfn
      repeat' (first
        | (refine m_call hm (by rfl) (by rfl) (by rfl) (by first | exact pm0 | exact pm1_0 | exact pm1_1 | exact pm1_2 | exact pm1_3 | exact pm2_0 | exact pm2_1 | exact pm2_2 | exact pm2_3 | exact pm2_4 | exact pm3_0 | exact pm3_1 | exact pm3_2) (hq1 _ _) ?_; clear hm; rintro _ _ _ _ ⟨rfl, rfl, da1, dc1, rfl⟩ hle hm; try simp only [setn] at hm)
        | (refine m_call hm (by rfl) (by rfl) (by rfl) (by first | exact pm0 | exact pm1_0 | exact pm1_1 | exact pm1_2 | exact pm1_3 | exact pm2_0 | exact pm2_1 | exact pm2_2 | exact pm2_3 | exact pm2_4 | exact pm3_0 | exact pm3_1 | exact pm3_2) (hfn _ _) ?_; clear hm; rintro _ I2 _ _ ⟨hqi, hqd, rfl, ap, cp, as_, cs, ab, cb, xb, da2, dc2, r1, r2, r3, r4, rfl⟩ hle hm; have hleI2 := hle; try simp only [setn] at hm)
        | refine op_move (by rfl) (by rfl) (by rfl) ?_
        | refine op_assign (by rfl) (by rfl) (by rfl) ?_
        | refine wl_nil ?_
        | refine at_then_normal ?_
        | refine at_block_normal ?_
        | refine wc_region ?_
        | refine wc_cond_true (by rfl) ?_)
      exact at_cut (⟨I2, da2, dc2, ap, cp, as_, cs, ab, cb, xb⟩ : ItX) (by exact ⟨rfl, rfl, rfl, trivial⟩) ⟨hqi, hqd, hr.le hleI2, r1, r2, r3, r4, hm⟩
    rw [if_neg hf] at hq
    rw [if_neg hf, show T.is 0 [102, 110] = false by simpa using hf] at hq1
    by_cases hc : T.is 0 [99, 104, 97, 110] = true
    · rw [if_pos hc, Sp.chItm] at hq
      rw [if_pos hc, hc] at hq2
      have hlt := Sp.is_lt hc
      dsimp only at hq
      have hnm := fun da dc => p_name (pb := b16) (deep := 0) (da := da) (dc := dc) ⟨1, []⟩ hr hT (by simp) hlt
      have hhr := fun da dc => p_here (pb := b16) (deep := 0) (da := da) (dc := dc) ⟨1, []⟩ hr
      have hgn := Sp.goes_named T ⟨1, []⟩
      generalize (⟨1, []⟩ : Sp.St).named T = r at hnm hgn hq
      have hn1 := hgn.le
      have hn2 := hgn.top hlt
      have hn3 := hgn.ds
      dsimp only [List.length_nil] at hn1 hn3
      have hd1 := fun da dc => p_must (pb := b16) (deep := 0) (da := da) (dc := dc) r.2 [58] (by simp) hr hT (by omega) hn2
      have hg1 := Sp.goes_need T r.2 [58]
      generalize (r.2.need T [58]) = s1 at hd1 hg1 hq
      have k1 := hg1.le
      have k2 := hg1.top hn2
      have k3 := hg1.ds
      have hlb := fun da dc => p_label (pb := b16) (deep := 0) (da := da) (dc := dc) s1.2 hr hT k2 (by omega)
      have hgl := Sp.goes_lab T s1.2
      generalize Sp.lab T s1.2 = r2 at hlb hgl hq
      have k4 := hgl.le
      have k5 := hgl.top k2
      have k6 := hgl.ds
      have hd2 := fun da dc => p_must (pb := b16) (deep := 0) (da := da) (dc := dc) r2.2 [59] (by simp) hr hT (by omega) k5
      have hg2 := Sp.goes_need T r2.2 [59]
      generalize (r2.2.need T [59]) = s3 at hd2 hg2 hq
      have k7 := hg2.le
      have k8 := hg2.top k5
      have k9 := hg2.ds
      subst hq
      repeat' (first
        | (refine m_call hm (by rfl) (by rfl) (by rfl) (by first | exact pm0 | exact pm1_0 | exact pm1_1 | exact pm1_2 | exact pm1_3 | exact pm2_0 | exact pm2_1 | exact pm2_2 | exact pm2_3 | exact pm2_4 | exact pm3_0 | exact pm3_1 | exact pm3_2) (hq1 _ _) ?_; clear hm; rintro _ _ _ _ ⟨rfl, rfl, da5, dc5, rfl⟩ hle hm; try simp only [setn] at hm)
        | (refine m_call hm (by rfl) (by rfl) (by rfl) (by first | exact pm0 | exact pm1_0 | exact pm1_1 | exact pm1_2 | exact pm1_3 | exact pm2_0 | exact pm2_1 | exact pm2_2 | exact pm2_3 | exact pm2_4 | exact pm3_0 | exact pm3_1 | exact pm3_2) (hq2 _ _) ?_; clear hm; rintro _ _ _ _ ⟨rfl, rfl, da6, dc6, rfl⟩ hle hm; try simp only [setn] at hm)
        | (refine m_readC hm (by rfl) (by rfl) (by rfl) (by first | exact sub_nil | exact sub1_0 | exact sub1_1 | exact sub1_2 | exact sub1_3 | exact sub2_0 | exact sub2_1 | exact sub2_2 | exact sub2_3 | exact sub2_4) (hhr _ _) ?_; clear hm; intro _ hm)
        | (refine m_call hm (by rfl) (by rfl) (by rfl) (by first | exact pm0 | exact pm1_0 | exact pm1_1 | exact pm1_2 | exact pm1_3 | exact pm2_0 | exact pm2_1 | exact pm2_2 | exact pm2_3 | exact pm2_4 | exact pm3_0 | exact pm3_1 | exact pm3_2) (hnm _ _) ?_; clear hm; rintro _ _ _ _ ⟨rfl, rfl, da1, dc1, rfl⟩ hle hm; try simp only [setn] at hm)
        | (refine m_call (d := 48) hm (by rfl) (by rfl) (by rfl) (by first | exact pm0 | exact pm1_0 | exact pm1_1 | exact pm1_2 | exact pm1_3 | exact pm2_0 | exact pm2_1 | exact pm2_2 | exact pm2_3 | exact pm2_4 | exact pm3_0 | exact pm3_1 | exact pm3_2) (hd2 _ _) ?_; clear hm; rintro _ _ _ _ ⟨rfl, rfl, da4, dc4, rfl⟩ hle hm; try simp only [setn] at hm)
        | (refine m_call hm (by rfl) (by rfl) (by rfl) (by first | exact pm0 | exact pm1_0 | exact pm1_1 | exact pm1_2 | exact pm1_3 | exact pm2_0 | exact pm2_1 | exact pm2_2 | exact pm2_3 | exact pm2_4 | exact pm3_0 | exact pm3_1 | exact pm3_2) (hd1 _ _) ?_; clear hm; rintro _ _ _ _ ⟨rfl, rfl, da2, dc2, rfl⟩ hle hm; try simp only [setn] at hm)
        | (refine m_call hm (by rfl) (by rfl) (by rfl) (by first | exact pm0 | exact pm1_0 | exact pm1_1 | exact pm1_2 | exact pm1_3 | exact pm2_0 | exact pm2_1 | exact pm2_2 | exact pm2_3 | exact pm2_4 | exact pm3_0 | exact pm3_1 | exact pm3_2) (hlb _ _) ?_; clear hm; rintro _ _ _ _ ⟨rfl, rfl, da3, dc3, rfl⟩ hle hm; try simp only [setn] at hm)
        | (refine m_store1 hm (by rfl) (by rfl) (by rfl) (by rfl) (by first | exact gt0 | exact gt1 | exact gt2 | exact gt3 | exact gt4 | exact gt5 | exact gt6) (by rfl) (by rfl) (by rfl) ?_; clear hm; intro _ hm; try simp only [setn] at hm)
        | refine op_move (by rfl) (by rfl) (by rfl) ?_
        | refine op_assign (by rfl) (by rfl) (by rfl) ?_
        | refine op_fieldAddr (by rfl) (by rfl) (by rfl) ?_
        | refine wl_nil ?_
        | refine at_then_normal ?_
        | refine at_block_normal ?_
        | refine wc_seq ?_
        | refine wc_region ?_
        | refine wc_cond_true (by rfl) ?_
        | refine wc_cond_false (by rfl) ?_)
      exact at_cut (⟨I1, da4, dc4, none, 0, none, 0, none, 0, []⟩ : ItX) (by exact ⟨rfl, rfl, rfl, trivial⟩) ⟨k8, by dsimp only; omega, hr, rowI_nil _ _ _ _ _, rowI_nil _ _ _ _ _, rowI_nil _ _ _ _ _, .nil, hm⟩
    · rw [if_neg hc] at hq
      rw [if_neg hc, show T.is 0 [99, 104, 97, 110] = false by simpa using hc] at hq2
      subst hq
      repeat' (first
        | (refine m_call hm (by rfl) (by rfl) (by rfl) (by first | exact pm0 | exact pm1_0 | exact pm1_1 | exact pm1_2 | exact pm1_3 | exact pm2_0 | exact pm2_1 | exact pm2_2 | exact pm2_3 | exact pm2_4 | exact pm3_0 | exact pm3_1 | exact pm3_2) (hq1 _ _) ?_; clear hm; rintro _ _ _ _ ⟨rfl, rfl, da5, dc5, rfl⟩ hle hm; try simp only [setn] at hm)
        | (refine m_call hm (by rfl) (by rfl) (by rfl) (by first | exact pm0 | exact pm1_0 | exact pm1_1 | exact pm1_2 | exact pm1_3 | exact pm2_0 | exact pm2_1 | exact pm2_2 | exact pm2_3 | exact pm2_4 | exact pm3_0 | exact pm3_1 | exact pm3_2) (hq2 _ _) ?_; clear hm; rintro _ _ _ _ ⟨rfl, rfl, da6, dc6, rfl⟩ hle hm; try simp only [setn] at hm)
        | (refine m_call hm (by rfl) (by rfl) (by rfl) (by first | exact pm0 | exact pm1_0 | exact pm1_1 | exact pm1_2 | exact pm1_3 | exact pm2_0 | exact pm2_1 | exact pm2_2 | exact pm2_3 | exact pm2_4 | exact pm3_0 | exact pm3_1 | exact pm3_2) (p_tell ⟨0, []⟩ 2 hr hT (Nat.zero_le _) (by simp)) ?_; clear hm; rintro _ _ _ _ ⟨rfl, rfl, da2, dc2, rfl⟩ hle hm; try simp only [setn] at hm)
        | refine m_load1 hm (by rfl) (by rfl) (by rfl) (by first | exact gt0 | exact gt1 | exact gt2 | exact gt3 | exact gt4 | exact gt5 | exact gt6) (by rfl) ?_
        | (refine m_store1 hm (by rfl) (by rfl) (by rfl) (by rfl) (by first | exact gt0 | exact gt1 | exact gt2 | exact gt3 | exact gt4 | exact gt5 | exact gt6) (by rfl) (by rfl) (by rfl) ?_; clear hm; intro _ hm; try simp only [setn] at hm)
        | refine op_move (by rfl) (by rfl) (by rfl) ?_
        | refine op_assign (by rfl) (by rfl) (by rfl) ?_
        | refine op_len_slice (by rfl) (by rfl) (by rfl) ?_
        | refine op_nilCheck (by rfl) (by rfl) (by rfl) ?_
        | refine op_fieldAddr (by rfl) (by rfl) (by rfl) ?_
        | refine wl_nil ?_
        | refine at_then_normal ?_
        | refine at_block_normal ?_
        | refine wc_seq ?_
        | refine wc_region ?_
        | refine wc_cond_false (by rfl) ?_)
      exact at_cut (⟨I1, da2, dc2, none, 0, none, 0, none, 0, []⟩ : ItX) (by exact ⟨rfl, rfl, rfl, trivial⟩) ⟨Nat.le_refl _, by simp [Sp.St.bad], hr, rowI_nil _ _ _ _ _, rowI_nil _ _ _ _ _, rowI_nil _ _ _ _ _, .nil, hm⟩
  clear hm
  rintro ⟨I2, da, dc, ap, cp, as_, cs, ab, cb, xb⟩ w2 ⟨hi, hd, hr, r1, r2, r3, r4, hm⟩
  dsimp only [itV] at hi hd hr r1 r2 r3 r4 hm ⊢
  rw [Sp.itemT]
  by_cases hlt : q.2.i < T.l.length
  · rw [if_pos hlt]
    repeat' (first
      | (refine m_call hm (by rfl) (by rfl) (by rfl) (by first | exact pm0 | exact pm1_0 | exact pm1_1 | exact pm1_2 | exact pm1_3 | exact pm2_0 | exact pm2_1 | exact pm2_2 | exact pm2_3 | exact pm2_4 | exact pm3_0 | exact pm3_1 | exact pm3_2) (p_tell q.2 2 hr hT hi (by omega)) ?_; clear hm; rintro _ _ _ _ ⟨rfl, rfl, da2, dc2, rfl⟩ hle hm; try simp only [setn] at hm)
      | refine m_load1 hm (by rfl) (by rfl) (by rfl) (by first | exact gt0 | exact gt1 | exact gt2 | exact gt3 | exact gt4 | exact gt5 | exact gt6) (by rfl) ?_
      | refine m_loadAll hm (by rfl) (by rfl) (by rfl) (by first | exact gt0 | exact gt1 | exact gt2 | exact gt3 | exact gt4 | exact gt5 | exact gt6) (by rfl) ?_
      | refine mq_load1 hm (by rfl) (by rfl) (by rfl) (by first | exact gt0 | exact gt1 | exact gt2 | exact gt3 | exact gt4 | exact gt5 | exact gt6) (by rfl) ?_
      | (refine m_storeAll hm (by rfl) (by rfl) (by rfl) (by rfl) (by first | exact gt0 | exact gt1 | exact gt2 | exact gt3 | exact gt4 | exact gt5 | exact gt6) (by rfl) (by rfl) (by rfl) ?_; clear hm; intro _ hm; try simp only [setn] at hm)
      | (refine m_store1 hm (by rfl) (by rfl) (by rfl) (by rfl) (by first | exact gt0 | exact gt1 | exact gt2 | exact gt3 | exact gt4 | exact gt5 | exact gt6) (by rfl) (by rfl) (by rfl) ?_; clear hm; intro _ hm; try simp only [setn] at hm)
      | refine m_ret_agg hm (by rfl) (by rfl) (by first | exact gt0 | exact gt1 | exact gt2 | exact gt3 | exact gt4 | exact gt5 | exact gt6) (by rfl) ?_
      | refine op_move (by rfl) (by rfl) (by rfl) ?_
      | refine op_nilCheck (by rfl) (by rfl) (by rfl) ?_
      | refine op_fieldAddr (by rfl) (by rfl) (by rfl) ?_
      | refine wl_nil ?_
      | refine at_then_normal ?_
      | refine wc_seq ?_
      | refine wc_region ?_
      | refine wc_ret ?_
      | refine wc_quiet (by kernel_rfl) ?_
      | (refine wq_nil ?_; intro _ hkq; replace hm := hm.kept0 hkq; clear hkq)
      | (refine wc_cond_dec (by rfl) (fun _ => ?_) (fun _ => ?_) <;> (try first | contradiction | (exfalso; omega)))
      | refine q_move (by rfl) (by rfl) (by rfl) ?_
      | refine q_lss (by rfl) (by rfl) (by rfl) (by rfl) ?_
      | refine q_len_slice (by rfl) (by rfl) (by rfl) ?_
      | refine q_nilCheck (by rfl) (by rfl) (by rfl) ?_
      | refine q_fieldAddr (by rfl) (by rfl) (by rfl) ?_)
    all_goals try (exfalso; omega)
    obtain ⟨I3, hle3, hm3, hrow3⟩ := (hm.front 1 rfl).freeze
    exact ⟨I3, [], ⟨_, rfl, ⟨ap, cp, as_, cs, ab, cb, da2, dc2, xb, rfl, r1.le hle3, r2.le hle3, r3.le hle3, StsAt.le hle3 _ _ r4, hrow3⟩, rfl⟩, hm3.left (H := [])⟩
  · rw [if_neg hlt]
    repeat' (first
      | refine m_load1 hm (by rfl) (by rfl) (by rfl) (by first | exact gt0 | exact gt1 | exact gt2 | exact gt3 | exact gt4 | exact gt5 | exact gt6) (by rfl) ?_
      | refine m_loadAll hm (by rfl) (by rfl) (by rfl) (by first | exact gt0 | exact gt1 | exact gt2 | exact gt3 | exact gt4 | exact gt5 | exact gt6) (by rfl) ?_
      | refine mq_load1 hm (by rfl) (by rfl) (by rfl) (by first | exact gt0 | exact gt1 | exact gt2 | exact gt3 | exact gt4 | exact gt5 | exact gt6) (by rfl) ?_
      | (refine m_storeAll hm (by rfl) (by rfl) (by rfl) (by rfl) (by first | exact gt0 | exact gt1 | exact gt2 | exact gt3 | exact gt4 | exact gt5 | exact gt6) (by rfl) (by rfl) (by rfl) ?_; clear hm; intro _ hm; try simp only [setn] at hm)
      | (refine m_store1 hm (by rfl) (by rfl) (by rfl) (by rfl) (by first | exact gt0 | exact gt1 | exact gt2 | exact gt3 | exact gt4 | exact gt5 | exact gt6) (by rfl) (by rfl) (by rfl) ?_; clear hm; intro _ hm; try simp only [setn] at hm)
      | refine m_ret_agg hm (by rfl) (by rfl) (by first | exact gt0 | exact gt1 | exact gt2 | exact gt3 | exact gt4 | exact gt5 | exact gt6) (by rfl) ?_
      | refine op_move (by rfl) (by rfl) (by rfl) ?_
      | refine op_nilCheck (by rfl) (by rfl) (by rfl) ?_
      | refine op_fieldAddr (by rfl) (by rfl) (by rfl) ?_
      | refine wl_nil ?_
      | refine at_then_normal ?_
      | refine wc_seq ?_
      | refine wc_region ?_
      | refine wc_skip ?_
      | refine wc_ret ?_
      | refine wc_quiet (by kernel_rfl) ?_
      | (refine wq_nil ?_; intro _ hkq; replace hm := hm.kept0 hkq; clear hkq)
      | (refine wc_cond_dec (by rfl) (fun _ => ?_) (fun _ => ?_) <;> (try first | contradiction | (exfalso; omega)))
      | refine q_move (by rfl) (by rfl) (by rfl) ?_
      | refine q_lss (by rfl) (by rfl) (by rfl) (by rfl) ?_
      | refine q_len_slice (by rfl) (by rfl) (by rfl) ?_
      | refine q_nilCheck (by rfl) (by rfl) (by rfl) ?_
      | refine q_fieldAddr (by rfl) (by rfl) (by rfl) ?_)
    all_goals try (exfalso; omega)
    obtain ⟨I3, hle3, hm3, hrow3⟩ := (hm.front 1 rfl).freeze
    exact ⟨I3, [], ⟨_, rfl, ⟨ap, cp, as_, cs, ab, cb, da, dc, xb, rfl, r1.le hle3, r2.le hle3, r3.le hle3, StsAt.le hle3 _ _ r4, hrow3⟩, rfl⟩, hm3.left (H := [])⟩
end Go.Proofs.YtkbiakajlfmakaaDoor
end
section
namespace Go.Fw
open Go
section
variable {P : Program} {ops : Array Oper} {md : Region.Mode} {C : World → Prop}
/-- step by step: quiet ones ('true'), and those in turn. -/
def mixF (P : Program) (ops : Array Oper) (C : World → Prop) (K : Act → World → Prop) : List (Bool × Oper) → Act → World → Prop
  | [], a, w => K a w
  | (true, o) :: r, a, w => ∃ v, YieldsV P ops C o v a ∧ mixF P ops C K r (a.put o.dst v) w
  | (false, o) :: r, a, w => if Region.wanted o (yielded ops a.tmps) then (∃ u w', (execOp a.eval o).run P w = .ok (.value u) w' ∧ C w' ∧ mixF P ops C K r (a.put o.dst u) w') ∨
      (∃ f args, (execOp a.eval o).run P w = .ok (.enter f args) w ∧ Calls P f args w (fun e w' => ∃ u, e = .returned u ∧ C w' ∧ mixF P ops C K r (a.put o.dst u) w')) else C w ∧ mixF P ops C K r (a.put o.dst undef) w
def mixB (md : Region.Mode) (ops : Array Oper) (g n : Nat) : List (Bool × Nat) → Array Bool → Bool
  | [], listed => Region.seqB md ops g n listed
  | (true, k) :: r, listed => (Region.ready md ops listed).contains k && Region.free md ops listed k && decide (k < n) && mixB md ops g n r (listed.setIfInBounds k true)
  | (false, k) :: r, listed => decide (Region.ready md ops listed = [k]) && decide (k < n) && mixB md ops g n r (listed.setIfInBounds k true)
theorem anyV_mix {n g : Nat} {Lq : Act → World → Prop} (hsel : Region.noSelect ops = true) (hs : Region.sinkB md ops n = true) (hc : Region.chainB md ops n = true) (hn : n < ops.size) :
    ∀ (st : List (Bool × Nat)) (l : List (Bool × Oper)) (listed : Array Bool) (a : Act) (w : World), C w → st.map (fun p => (p.1, ops[p.2]?)) = l.map (fun p => (p.1, some p.2)) → HeadInv md ops n listed →
    mixB md ops g n st listed = true → mixF P ops C Lq l a w →
    anyV P md ops C n (fun listed' a' w' => Region.seqB md ops g n listed' = true ∧ Lq a' w') l.length listed a w
  | [], [], listed, a, w, _, _, _, hB, h => ⟨by simpa [mixB] using hB, h⟩
  | (true, k) :: st, (b, o) :: l, listed, a, w, hC, hl, inv, hB, h => by
    simp only [List.map_cons, List.cons.injEq, Prod.mk.injEq] at hl
    obtain ⟨⟨hb, h0⟩, hl'⟩ := hl
    subst hb
    simp only [mixB, Bool.and_eq_true, decide_eq_true_eq] at hB
    obtain ⟨⟨⟨hr, hf⟩, hkn⟩, hB'⟩ := hB
    have hr' : k ∈ Region.ready md ops listed := by simpa using hr
    obtain ⟨v, hy, hK⟩ := h
    exact v_first h0 (Region.noSelect_spec hsel) hs hc hn hkn (fun listed' a' w' hL => seqB_ready hL.1) l.length listed a w hC inv (Region.free_spec h0 hf) hr' hy
      (anyV_mix hsel hs hc hn st l _ _ w hC hl' (inv.set hr' hkn) hB' hK)
  | (false, k) :: st, (b, o) :: l, listed, a, w, hC, hl, inv, hB, h => by
    simp only [List.map_cons, List.cons.injEq, Prod.mk.injEq] at hl
    obtain ⟨⟨hb, h0⟩, hl'⟩ := hl
    subst hb
    simp only [mixB, Bool.and_eq_true, decide_eq_true_eq] at hB
    obtain ⟨⟨hB1, hkn⟩, hB2⟩ := hB
    have hr' : k ∈ Region.ready md ops listed := by rw [hB1]; simp
    refine ⟨fun h1 => (by rw [hB1] at h1; cases h1), fun i hi => ?_⟩
    rw [hB1] at hi
    have hik : i = k := by simpa using hi
    subst hik
    refine ⟨hkn, ?_⟩
    have next : ∀ a' w', C w' → mixF P ops C Lq l a' w' → anyV P md ops C n (fun listed' a' w' => Region.seqB md ops g n listed' = true ∧ Lq a' w') l.length (listed.setIfInBounds i true) a' w' := fun a' w' hC' h' =>
      anyV_mix hsel hs hc hn st l _ a' w' hC' hl' (inv.set hr' hkn) hB2 h'
    unfold vOp
    simp only [h0]
    unfold mixF at h
    split
    · rename_i hw
      rw [if_pos hw] at h
      rcases h with ⟨u, w', h1, h2, h3⟩ | ⟨f, args, h1, h2⟩
      · exact .inl ⟨u, w', h1, h2, next _ _ h2 h3⟩
      · exact .inr ⟨f, args, h1, Calls.mono h2 (fun e w' ⟨u, he, hc, h⟩ => ⟨u, he, hc, next _ _ hc h⟩)⟩
    · rename_i hw
      rw [if_neg hw] at h
      exact ⟨h.1, next _ _ h.1 h.2⟩
  | [], _ :: _, _, _, _, _, hl, _, _, _ => by simp at hl
  | _ :: _, [], _, _, _, _, hl, _, _, _ => by simp at hl
/-- the same, in groups. -/
def mixV (P : Program) (ops : Array Oper) (C : World → Prop) (K : Act → World → Prop) : List (List Oper × List Oper) → Act → World → Prop
  | [], a, w => K a w
  | (q, t) :: r, a, w => pureV P ops C (fun a' => seqV P ops C (fun a'' w'' => mixV P ops C K r a'' w'') t a' w) q a
def flatG {α : Type} : List (List α × List α) → List (Bool × α)
  | [] => []
  | (q, t) :: r => q.map (fun x => (true, x)) ++ (t.map (fun x => (false, x)) ++ flatG r)
theorem seq_flat {K : Act → World → Prop} {r : List (Bool × Oper)} : ∀ (t : List Oper) (a : Act) (w : World), seqV P ops C (fun a' w' => mixF P ops C K r a' w') t a w → mixF P ops C K (t.map (fun x => (false, x)) ++ r) a w
  | [], a, w, h => h
  | o :: t, a, w, h => by
    unfold seqV at h
    rw [List.map_cons, List.cons_append]
    unfold mixF
    split
    · rename_i hw
      rw [if_pos hw] at h
      rcases h with ⟨u, w', h1, h2, h3⟩ | ⟨f, args, h1, h2⟩
      · exact .inl ⟨u, w', h1, h2, seq_flat t _ _ h3⟩
      · exact .inr ⟨f, args, h1, Calls.mono h2 (fun e w' ⟨u, he, hc, h⟩ => ⟨u, he, hc, seq_flat t _ _ h⟩)⟩
    · rename_i hw
      rw [if_neg hw] at h
      exact ⟨h.1, seq_flat t _ _ h.2⟩
theorem pure_flat {K : Act → World → Prop} {r : List (Bool × Oper)} {w : World} : ∀ (q : List Oper) (a : Act), pureV P ops C (fun a' => mixF P ops C K r a' w) q a → mixF P ops C K (q.map (fun x => (true, x)) ++ r) a w
  | [], a, h => h
  | o :: q, a, h => by
    obtain ⟨v, h1, h2⟩ := h
    exact ⟨v, h1, pure_flat q _ h2⟩
theorem seqV_mono {K K' : Act → World → Prop} (hk : ∀ a w, K a w → K' a w) : ∀ (t : List Oper) (a : Act) (w : World), seqV P ops C K t a w → seqV P ops C K' t a w
  | [], a, w, h => hk _ _ h
  | o :: t, a, w, h => by
    unfold seqV at h ⊢
    split
    · rename_i hw
      rw [if_pos hw] at h
      rcases h with ⟨u, w', h1, h2, h3⟩ | ⟨f, args, h1, h2⟩
      · exact .inl ⟨u, w', h1, h2, seqV_mono hk t _ _ h3⟩
      · exact .inr ⟨f, args, h1, Calls.mono h2 (fun e w' ⟨u, he, hc, h⟩ => ⟨u, he, hc, seqV_mono hk t _ _ h⟩)⟩
    · rename_i hw
      rw [if_neg hw] at h
      exact ⟨h.1, seqV_mono hk t _ _ h.2⟩
theorem pureV_mono {K K' : Act → Prop} (hk : ∀ a, K a → K' a) : ∀ (q : List Oper) (a : Act), pureV P ops C K q a → pureV P ops C K' q a
  | [], a, h => hk _ h
  | o :: q, a, h => by
    obtain ⟨v, h1, h2⟩ := h
    exact ⟨v, h1, pureV_mono hk q _ h2⟩
theorem mix_flat {K : Act → World → Prop} : ∀ (gs : List (List Oper × List Oper)) (a : Act) (w : World), mixV P ops C K gs a w → mixF P ops C K (flatG gs) a w
  | [], a, w, h => h
  | (q, t) :: r, a, w, h => pure_flat q a (pureV_mono (fun a' h' => seq_flat t a' w (seqV_mono (fun a'' w'' h'' => mix_flat r a'' w'' h'') t a' w h')) q a h)
def pickG (os : List Oper) : List (List Nat × List Nat) → List (List Oper × List Oper)
  | [] => []
  | (ks, js) :: r => (pickL os ks, pickL os js) :: pickG os r
def allG (n : Nat) : List (List Nat × List Nat) → Bool
  | [] => true
  | (ks, js) :: r => ks.all (fun k => Nat.blt k n) && (js.all (fun k => Nat.blt k n) && allG n r)
theorem pickG_map (os : List Oper) : ∀ (gs : List (List Nat × List Nat)), allG os.length gs = true → (flatG gs).map (fun p => (p.1, os.toArray[p.2]?)) = (flatG (pickG os gs)).map (fun p => (p.1, some p.2)) ∧ (flatG (pickG os gs)).length = (flatG gs).length
  | [], _ => ⟨rfl, rfl⟩
  | (ks, js) :: r, h => by
    simp only [allG, Bool.and_eq_true] at h
    obtain ⟨k1, k2⟩ := pickL_map os ks h.1
    obtain ⟨j1, j2⟩ := pickL_map os js h.2.1
    obtain ⟨r1, r2⟩ := pickG_map os r h.2.2
    constructor
    · simp only [pickG, flatG, List.map_append, List.map_map]
      rw [r1]
      have e : ∀ (b : Bool) (ks : List Nat) (l : List Oper), ks.map (os.toArray[·]?) = l.map some → ks.map ((fun p : Bool × Nat => (p.1, os.toArray[p.2]?)) ∘ fun x => (b, x)) = l.map ((fun p : Bool × Oper => (p.1, some p.2)) ∘ fun x => (b, x)) := fun b ks l hl => by
        have := congrArg (List.map (fun z => (b, z))) hl
        simpa [List.map_map, Function.comp_def] using this
      rw [e true ks _ k1, e false js _ j1]
    · simp only [pickG, flatG, List.length_append, List.length_map]
      rw [k2, j2, r2]
/-- the check. -/
def mixOk (ops : Array Oper) (gs : List (List Nat × List Nat)) (n : Nat) : Bool :=
  Region.noSelect ops && decide (n < ops.size) && Region.sinkB .any ops n && Region.chainB .any ops n && mixB .any ops (ops.size - n) n (flatG gs) (Array.replicate ops.size false) && decide ((flatG gs).length = n) && allG ops.size gs
theorem wp_region_mix {id : Nat} {Q : Exit → Act → World → Prop} {a : Act} {w : World} {l : List Oper} (gs : List (List Nat × List Nat)) (n : Nat) (hm : P.follows .mixedOrders = true) (hB : mixOk l.toArray gs n = true)
    (hC : C { w with drawn := w.drawn + 1 })
    (h : mixV P l.toArray C (fun a' w' => wpList P l.toArray Q (l.drop n) a' w') (pickG l gs) a { w with drawn := w.drawn + 1 }) : (Code.region id l.toArray true).wp P Q a w := by
  simp only [mixOk, Bool.and_eq_true, decide_eq_true_eq] at hB
  obtain ⟨⟨⟨⟨⟨⟨hsel, hn⟩, hs⟩, hc⟩, hlex⟩, hlen⟩, hall⟩ := hB
  have hn' : n < l.length := by simpa using hn
  have hdl : (l.drop n).length = l.toArray.size - n := by simp
  obtain ⟨k1, k2⟩ := pickG_map l gs (by simpa using hall)
  have inv0 : HeadInv .any l.toArray n (Array.replicate l.toArray.size false) :=
    ⟨by simp, fun j oj _ hl => (by rw [getD_replicate_false] at hl; cases hl), fun t _ ht => getD_in (by simpa using ht) (getD_replicate_false _ _)⟩
  have H := anyV_mix (md := .any) (g := l.toArray.size - n) hsel hs hc hn (flatG gs) (flatG (pickG l gs)) _ a _ hC k1 inv0 hlex (mix_flat _ _ _ h)
  refine wp_region_any hm ?_
  have := any_of_v (Q' := Q) (g := l.toArray.size - n) (fun listed a' w' hL => by
    have := wpAny_of_seq (md := .any) (Q' := Q) (l.drop n) n listed a' w' (fun j => by simp [List.getElem?_drop]) (by rw [hdl]; exact hL.1) hL.2
    rwa [hdl] at this) _ _ _ _ H
  rw [k2, hlen, show n + (l.toArray.size - n) = l.toArray.size by omega] at this
  exact this
end
section
variable {P : Program} {N : Nat} {ds : List Deferred} {X : List Nat} {Q : Exit → Act → World → Prop} {l : Log} {w w0 : World} {os tail : List Oper} {ops : Array Oper} {E : Ent} {I : Imm} {G R : List HItem}
/-- groups that are still to come. -/
structure WX (P : Program) (N : Nat) (ds : List Deferred) (ops : Array Oper) (Q : Exit → Act → World → Prop) (X : List Nat) (w0 : World) (gs : List (List Oper × List Oper)) (tail : List Oper) (l : Log) (w : World) : Prop where
  run : ∀ a, Fits N ds l a → mixV P ops (fun w' => Kept X w0 w') (fun a' w' => wpList P ops Q tail a' w') gs a w
theorem wc_mix_mem [Mixed P] {id : Nat} (hm : Mem E I (G ++ R) w) (gs : List (List Nat × List Nat)) (n : Nat) (hB : mixOk os.toArray gs n = true)
    (h : ∀ wd, Mem E I (G ++ R) wd → Mem ⟨wd, blks G, I⟩ I G wd → WX P N ds os.toArray Q (blks G) wd (pickG os gs) (os.drop n) l wd) :
    WC P N ds (.region id os.toArray true) Q l w :=
  ⟨fun a ha => wp_region_mix (C := fun w' => Kept (blks G) { w with drawn := w.drawn + 1 } w') gs n Mixed.out hB (Kept.refl _ _) ((h _ (hm.kept0 (Kept.drew w)) (hm.kept0 (Kept.drew w)).sub).run a ha)⟩
theorem wx_nil (h : WL P N ds ops Q tail l w) : WX P N ds ops Q X w0 [] tail l w := ⟨fun a ha => h.run a ha⟩
theorem wx_cons {q t : List Oper} {r : List (List Oper × List Oper)} (h : WV P N ds ops X w0 (fun a' => seqV P ops (fun w' => Kept X w0 w') (fun a'' w'' => mixV P ops (fun w' => Kept X w0 w') (fun a' w' => wpList P ops Q tail a' w') r a'' w'') t a' w) q l) :
    WX P N ds ops Q X w0 ((q, t) :: r) tail l w := ⟨fun a ha => h.run a ha⟩
theorem wv_nilX {t : List Oper} {r : List (List Oper × List Oper)} (h : WS P N ds ops (fun _ a w => mixV P ops (fun w' => Kept X w0 w') (fun a' w' => wpList P ops Q tail a' w') r a w) X w0 t [] l w) :
    WV P N ds ops X w0 (fun a' => seqV P ops (fun w' => Kept X w0 w') (fun a'' w'' => mixV P ops (fun w' => Kept X w0 w') (fun a' w' => wpList P ops Q tail a' w') r a'' w'') t a' w) [] l := ⟨fun a ha => by
  refine seqV_mono (fun a' w' h' => ?_) t a w (h.run a ha)
  simpa [wpList] using h'⟩
theorem at_X {r : List (List Oper × List Oper)} (h : WX P N ds ops Q X w0 r tail l w) : At N ds (fun _ a w => mixV P ops (fun w' => Kept X w0 w') (fun a' w' => wpList P ops Q tail a' w') r a w) .normal l w := ⟨fun a ha => h.run a ha⟩
end
end Go.Fw
end
section
namespace Go.Fw
open Go
section
variable {P : Program} {N : Nat} {ds : List Deferred} {Q : Exit → Act → World → Prop} {K : Act → World → Prop} {l l' : Log} {w w' : World} {ops : Array Oper} {os : List Oper}
variable {d : Nat} {ty : TypeId} {pos : String} {af : Array Edge} {g : Option (Nat × Bool)} {t t' : TypeId} {x y z : Operand}
variable {E : Ent} {I I' : Imm} {H H' R : List HItem}
theorem op_eql_nilslice {e : TypeId} [TySlice P t e] {a : Option Addr} {n c : Nat} {k0 : Value} (hw : want ops l ⟨some d, .binOp .eql t x (.const k0) t', ty, pos, af, g⟩ = some true) (hN : Nat.blt d N = true)
    (hx : ev l x = some (.slice a n c)) (hk : k0 = .slice none 0 0) (k : WL P N ds ops Q os ((d, .bool a.isNone) :: l) w) :
    WL P N ds ops Q (⟨some d, .binOp .eql t x (.const k0) t', ty, pos, af, g⟩ :: os) l w :=
  wl_value rfl hw hN (fun c' hc => by
    subst hk
    have h1 := run_underlying (P := P) (w := w) (TySlice.out (P := P) (t := t))
    have e2 : c'.eval (.const (.slice none 0 0)) = .slice none 0 0 := rfl
    have h2 : (Op.equal t (.slice a n c) (.slice none 0 0)).run P w = .ok a.isNone w := by
      show (Op.equalIn (9999 + 1) t (.slice a n c) (.slice none 0 0)).run P w = _
      rw [Op.equalIn]
      cases a <;> simp [h1]
    simp [execOp, hc.ev hx, e2, eqGuard, binOp, h2]) k
theorem m_buildRow {e : TypeId} {sz by_ n : Nat} [TySlice P t e] [Elem P e sz by_] {ps : List (Nat × Operand)} {vs : List (Nat × Value)} {xs : List Value} (hm : Mem E I H w)
    (hw : want ops l ⟨some d, .buildSlice t n ps.toArray, ty, pos, af, g⟩ = some true) (hN : Nat.blt d N = true) (hx : evp l ps = some vs)
    (hi : vs.map (·.1) = List.range' 0 n) (hs : vs.all (fun p => Nat.beq p.2.cells.toList.length sz) = true) (hn : Nat.ble (n * sz) 16777216 = true) (hn2 : Nat.ble n 16777216 = true) (hxs : vs.flatMap (·.2.cells.toList) = xs) (hl : xs.length = n * sz)
    (k : ∀ b w', Mem E I (.row (.slice (some ⟨b, 0, none⟩) n n) e sz n xs :: H) w' → WL P N ds ops Q os ((d, .slice (some ⟨b, 0, none⟩) n n) :: l) w') :
    WL P N ds ops Q (⟨some d, .buildSlice t n ps.toArray, ty, pos, af, g⟩ :: os) l w := by
  subst hxs
  refine op_buildSlice hw hN hx hi hs (Nat.le_of_ble_eq_true hn) (fun b w' hb hh hk => k b w' (hm.add hk ⟨hl, .inr ⟨b, n, _, rfl, Nat.zero_le _, hh, Nat.le_refl _, ?_, by simpa using hl, ?_⟩⟩ (fun b' hb' => ?_)))
  · have := Nat.le_of_ble_eq_true hn2
    unfold maxLen; omega
  · rw [← hl]; exact List.take_length
  · simp only [HItem.blk, Value.ownBlock, Option.some.injEq] at hb'; omega
/-- 'append(s, u...)' of a slice that turns no more. -/
theorem m_appendR {e : TypeId} {sz by_ : Nat} [TySlice P t e] [Elem P e sz by_] {i : Nat} {v : Value} {n m cp : Nat} {ad : Addr} {xs us : List Value} (hm : Mem E I H w)
    (hw : want ops l ⟨some d, .call ⟨.builtin .append, #[x, y], #[t, t]⟩, ty, pos, af, g⟩ = some true) (hN : Nat.blt d N = true)
    (hx : ev l x = some v) (hy : ev l y = some (.slice (some ad) m cp)) (hi : H[i]? = some (.row v e sz n xs)) (hr : RowI I e sz (.slice (some ad) m cp) m us) (h1 : us.all (·.oneCell') = true)
    (hlen : (n + m) * by_ ≤ 140737488355328) (h63 : n + m ≤ 9223372036854775807)
    (k : ∀ a cp' w', Mem E I (H.set i (.row (.slice a (n + m) cp') e sz (n + m) (xs ++ us))) w' → WL P N ds ops Q os ((d, .slice a (n + m) cp') :: l) w') :
    WL P N ds ops Q (⟨some d, .call ⟨.builtin .append, #[x, y], #[t, t]⟩, ty, pos, af, g⟩ :: os) l w := by
  have hown := hm.getRow hi
  have hus := hr.len
  have hcell : ∀ j u, us[j]? = some u → w.cell? (ad.add j) = some u := fun j u hj => by
    obtain ⟨_, a', cap', e1, e2, e3⟩ := hr
    injection e1 with e1 _ _
    have hm0 : 0 < m := by
      rcases Nat.eq_zero_or_pos m with h0 | h0
      · rw [h0, Nat.zero_mul] at hus
        have := List.eq_nil_of_length_eq_zero hus
        subst this
        simp at hj
      · exact h0
    obtain ⟨b, off, c, fr, f1, f2, f3⟩ := e3 hm0
    rw [f1] at e1
    injection e1 with e1
    subst e1
    rw [Addr.add_lit]
    exact cell_of (hm.inv _ _ f2) (f3 j u hj)
  obtain ⟨v', w', hrun, ho, hk, hb⟩ := run_append (P := P) (t := t) hown ad m cp us hus hcell (fun r hr => List.all_eq_true.1 h1 r hr) h63 hlen (Nat.zero_le _) ty
  have hm' := hm.turn (h' := .row v' e sz (n + m) (xs ++ us)) hi hk ho (hb.imp_right fun ⟨g, h1, h2⟩ => ⟨g, h1, h2⟩)
  have hlt : i < H.length := (List.getElem?_eq_some_iff.1 hi).1
  obtain ⟨a, cp', rfl⟩ := own_val (hm'.getRow (i := i) (by rw [List.getElem?_set]; simp [hlt]; exact ⟨rfl, rfl, rfl, rfl, rfl⟩))
  refine wl_value (w' := w') (v := .slice a (n + m) cp') rfl hw hN (fun a ha => ?_) (k a cp' w' hm')
  simp [execOp, resolve, invoke, builtin, ha.ev hx, ha.ev hy, hrun]
theorem mw_loadN {G : List HItem} {KV : Act → Prop} {n : Nat} [TyAgg P t n] {i b off : Nat} {c : List Value} {e : TypeId} {fr : Nat × Nat} {vs : List Value} (hR : Mem E I (G ++ R) w) (hw : want ops l ⟨some d, .load t x, ty, pos, af, g⟩ = some true) (hN : Nat.blt d N = true)
    (hx : ev l x = some (.pointer (some ⟨b, off, none⟩))) (hb : R[i]? = some (.obj b (.cells c.toArray e fr))) (hc : (c.drop off).take n = vs) (hl : vs.length = n)
    (k : WV P N ds ops (blks G) w KV os ((d, .agg vs.toArray) :: l)) : WV P N ds ops (blks G) w KV (⟨some d, .load t x, ty, pos, af, g⟩ :: os) l :=
  v_loadN hw hN hx (hR.right.get hb) (hR.notG hb rfl) hl (fun j v hv => by
    rw [← hc, List.getElem?_take] at hv
    split at hv
    · rw [List.getElem?_drop] at hv; simpa using hv
    · cases hv) k
end
end Go.Fw
end
