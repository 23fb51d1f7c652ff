/- Own work: texts RpH, RpI, one behind the other. -/
import Derived.Test.YtjfkjpbkmpofkaaIt28
section
namespace Go.Proofs.Ytjfkjpbkmpofkaa
open Go.Fw
structure ParX where
  f : Nat
  l : List Sp.Par
  n : Nat
  s : Sp.St
  a : Option Addr
  cp : Nat
  da : Option Addr
  dc : Nat
structure SndX where
  f : Nat
  l : List Sp.Rf
  n : Nat
  s : Sp.St
  more : Bool
  a : Option Addr
  cp : Nat
  da : Option Addr
  dc : Nat
/-- what comes of a function's item. -/
abbrev ToFn (pb bi : Nat) (la : Option Addr) (lc : Nat) (T : Sp.Src) (q : Sp.Itm × Sp.St) : Value → Imm → List HItem → Prop :=
  fun v I' H' => q.2.i ≤ T.l.length ∧ q.2.ds.length ≤ 1099511626000 ∧ v = nt q.2.i ∧ ∃ ap cp as_ cs ab cb xb da dc,
    RowI I' 58 3 (.slice ap q.1.params.length cp) q.1.params.length (q.1.params.flatMap encPar) ∧ RowI I' 85 2 (.slice as_ q.1.sends.length cs) q.1.sends.length (q.1.sends.flatMap encRf) ∧
    RowI I' 113 15 (.slice ab q.1.body.length cb) q.1.body.length xb ∧ StsAt I' q.1.body xb ∧
    H' = [pObj pb la lc T q.2.ds 0 da dc, dgRow q.2.ds da dc, .cell bi (itCells q.1.kind q.1.name q.1.label (.slice ap q.1.params.length cp) (.slice as_ q.1.sends.length cs) (.slice ab q.1.body.length cb) q.1.at_ q.1.size q.1.mark nil0) 38]
set_option maxHeartbeats 8000000 in
theorem c_fn (T : Sp.Src) (pb bi : Nat) (hT : Ok T) (I : Imm) (la : Option Addr) (lc : Nat) (da : Option Addr) (dc : Nat) (s : Sp.St) (at_ : Int) (size : Nat) (hr : TokR I T la lc) (hi : s.i ≤ T.l.length) (hd : s.ds = []) :
    CalM Try.prog 35 #[ptr pb, ptr bi, nt s.i] I [pObj pb la lc T s.ds 0 da dc, dgRow s.ds da dc, .cell bi (itCells 3 [] 0 nil0 nil0 nil0 at_ size 0 nil0) 38]
      (ToFn pb bi la lc T (Sp.fnItm T at_ size s)) := by
  have h2 := hT.size
  have h3 := hT.len
  have h1 := hT.at_ s.i
  have hd0 : s.ds.length = 0 := by rw [hd]; rfl
  rw [Sp.fnItm]
  -- the name
  have hnm := fun da dc => c_named (pb := pb) (deep := 0) (da := da) (dc := dc) s hr hT (by omega) hi
  have hgn := Sp.goes_named T s
  generalize s.named T = r at hnm hgn ⊢
  have hn1 := hgn.le
  have hn2 := hgn.top hi
  have hn3 := hgn.ds
  have hnd := fun da dc => c_need (pb := pb) (deep := 0) (da := da) (dc := dc) r.2 [40] hr hT (by omega) hn2
  have hgd := Sp.goes_need T r.2 [40]
  generalize (r.2.need T [40]) = s1 at hnd hgd ⊢
  have he1 := hgd.le
  have he2 := hgd.top hn2
  have he3 := hgd.ds
  obtain ⟨R, hR⟩ : ∃ R, R = Sp.parL T 6 [] s1.2 := ⟨_, rfl⟩
  rw [← hR]
  refine CalM.of fun w E hm => enter (N := 175) Try.func35 rfl [(0, ptr pb), (1, ptr bi), (2, nt s.i)] args3 rfl ?_
  repeat' (first
  | (refine wc_midb 0 (fun x : ParX => [(0, ptr pb), (1, ptr bi), (2, nt R.2.i)]) (fun x w' => x.n = R.1.length ∧ R.2.i ≤ T.l.length ∧ R.2.ds.length ≤ 8000000 ∧ Mem E I [pObj pb la lc T R.2.ds 0 x.da x.dc, dgRow R.2.ds x.da x.dc, parRow R.1 x.n x.a x.cp, .cell bi (itCells 2 r.1 0 (.slice x.a x.n x.cp) nil0 nil0 at_ size (T.tok s.i).pos nil0) 38] w') ?_ ?_)
  | (refine m_readC hm (hc:=c_T s.i hr) (k:=?_); clear hm; intro _ hm)
  | (refine m_call hm (hc:=hnm _ _) (k:=?_); clear hm; rintro _ _ _ _ ⟨rfl, rfl, da1, dc1, rfl⟩ hle hm; try simp only [setn] at hm)
  | (refine m_call hm (hc:=hnd _ _) (k:=?_); clear hm; rintro _ _ _ _ ⟨rfl, rfl, da2, dc2, rfl⟩ hle hm; try simp only [setn] at hm)
  | (refine m_store1 hm (k:=?_); clear hm; intro _ hm; try simp only [setn] at hm)
  | refine op_move (k:=?_)
  | refine op_assign (k:=?_)
  | refine op_extract (k:=?_)
  | refine op_nilCheck (k:=?_)
  | refine op_field1 (k:=?_)
  | refine op_fieldAddr (k:=?_)
  | refine wl_nil ?_
  | refine at_then_normal ?_
  | refine wc_seq ?_
  | refine wc_region ?_)
  · have hm := hm.nil 58 3
    refine wc_loop (fun x : ParX => [(0, ptr pb), (1, ptr bi), (2, nt x.s.i)])
      (fun x w' => Mem E I [pObj pb la lc T x.s.ds 0 x.da x.dc, dgRow x.s.ds x.da x.dc, parRow x.l x.n x.a x.cp, .cell bi (itCells 2 r.1 0 (.slice x.a x.n x.cp) nil0 nil0 at_ size (T.tok s.i).pos nil0) 38] w' ∧
        x.l.length = x.n ∧ x.n ≤ 5 ∧ x.f + x.n = 6 ∧ x.s.i ≤ T.l.length ∧ x.s.ds.length ≤ 2 * x.s.i + 3 * x.n + 2 ∧ Sp.parL T x.f x.l x.s = R)
      (fun x => x.f) ⟨6, [], 0, s1.2, none, 0, da2, dc2⟩ (by exact ⟨rfl, rfl, rfl, trivial⟩) ⟨hm.perm pm2_1, rfl, by dsimp only; omega, rfl, he2, by dsimp only; omega, hR.symm⟩ ?_
    clear hm
    rintro ⟨f1, l1, n1, s2, a1, cp1, da3, dc3⟩ w2 ⟨hm, hl, hn5, hf, hi2, hd2, hL⟩
    dsimp only at hm hl hn5 hf hi2 hd2 hL ⊢
    obtain ⟨f1, rfl⟩ : ∃ f', f1 = f' + 1 := ⟨f1 - 1, by omega⟩
    rw [Sp.parL] at hL
    have hq := fun ds deep da dc => c_is (pb := pb) (ds := ds) (deep := deep) (da := da) (dc := dc) s2.i [41] hr
    by_cases hend : T.l.length ≤ s2.i ∨ T.is s2.i [41] = true
    · rw [if_pos hend] at hL
      subst hL
      by_cases hlt1 : T.l.length ≤ s2.i
      · skip
        repeat' (first
        | refine m_load1 hm (k:=?_)
        | refine op_move (k:=?_)
        | refine op_pick_false (k:=?_)
        | refine op_lss (k:=?_)
        | refine op_len_slice (k:=?_)
        | refine op_nilCheck (k:=?_)
        | refine op_fieldAddr (k:=?_)
        | refine wl_skip (k:=?_)
        | (refine wl_split_dec (h1:=fun _ => ?_) (h0:=fun _ => ?_)<;> (try first | contradiction | (exfalso; omega)))
        | refine wl_nil ?_
        | refine at_then_normal ?_
        | refine at_then_exit ?_
        | refine at_block_exit ?_
        | refine wc_seq ?_
        | refine wc_region ?_
        | refine wc_exit ?_
        | refine wc_cond_false (hf:=?_))
        all_goals try (exfalso; omega)
        exact at_cut (⟨0, [], n1, s2, a1, cp1, da3, dc3⟩ : ParX) (by exact ⟨rfl, rfl, rfl, trivial⟩) ⟨hl.symm, hi2, by dsimp only; omega, hm⟩
      · rw [hend.resolve_left hlt1] at hq
        repeat' (first
        | (refine m_readC hm (hc:=hq _ _ _ _) (k:=?_); clear hm; intro _ hm)
        | refine m_load1 hm (k:=?_)
        | refine op_move (k:=?_)
        | refine op_pick_true (k:=?_)
        | refine op_lss (k:=?_)
        | refine op_len_slice (k:=?_)
        | refine op_not (k:=?_)
        | refine op_nilCheck (k:=?_)
        | refine op_fieldAddr (k:=?_)
        | (refine wl_split_dec (h1:=fun _ => ?_) (h0:=fun _ => ?_)<;> (try first | contradiction | (exfalso; omega)))
        | refine wl_nil ?_
        | refine at_then_normal ?_
        | refine at_then_exit ?_
        | refine at_block_exit ?_
        | refine wc_seq ?_
        | refine wc_region ?_
        | refine wc_exit ?_
        | refine wc_cond_false (hf:=?_))
        all_goals try (exfalso; omega)
        exact at_cut (⟨0, [], n1, s2, a1, cp1, da3, dc3⟩ : ParX) (by exact ⟨rfl, rfl, rfl, trivial⟩) ⟨hl.symm, hi2, by dsimp only; omega, hm⟩
    rw [if_neg hend] at hL
    have hlt1 : s2.i < T.l.length := by omega
    rw [show T.is s2.i [41] = false by simpa using fun h => hend (.inr h)] at hq
    by_cases h5 : 5 ≤ l1.length
    · rw [if_pos h5] at hL
      subst hL
      repeat' (first
      | (refine m_readC hm (hc:=hq _ _ _ _) (k:=?_); clear hm; intro _ hm)
      | (refine m_call hm (hc:=c_bad s2.i 5 hr hT (by omega)) (k:=?_); clear hm; rintro _ _ _ _ ⟨rfl, rfl, da4, dc4, rfl⟩ hle hm; try simp only [setn] at hm)
      | refine m_load1 hm (k:=?_)
      | refine op_move (k:=?_)
      | refine op_pick_true (k:=?_)
      | refine op_lss (k:=?_)
      | refine op_geq (k:=?_)
      | refine op_len_slice (k:=?_)
      | refine op_not (k:=?_)
      | refine op_nilCheck (k:=?_)
      | refine op_fieldAddr (k:=?_)
      | (refine wl_split_dec (h1:=fun _ => ?_) (h0:=fun _ => ?_)<;> (try first | contradiction | (exfalso; omega)))
      | refine wl_nil ?_
      | refine at_then_normal ?_
      | refine at_then_exit ?_
      | refine at_block_exit ?_
      | refine at_block_other (h:=?_)
      | refine wc_seq ?_
      | refine wc_region ?_
      | refine wc_block ?_
      | refine wc_skip ?_
      | refine wc_exit ?_
      | refine wc_cond_true (ht:=?_)
      | (refine wc_cond_dec (ht:=fun _ => ?_) (hf:=fun _ => ?_)<;> (try first | contradiction | (exfalso; omega))))
      all_goals try (exfalso; omega)
      exact at_cut (⟨0, [], n1, s2, a1, cp1, da4, dc4⟩ : ParX) (by exact ⟨rfl, rfl, rfl, trivial⟩) ⟨hl.symm, hi2, by simp [Sp.St.bad]; omega, hm⟩
    rw [if_neg h5] at hL
    dsimp only at hL
    have hnm := fun da dc => c_named (pb := pb) (deep := 0) (da := da) (dc := dc) s2 hr hT (by omega) hi2
    have hgn := Sp.goes_named T s2
    generalize s2.named T = q at hnm hgn hL
    have hq1 := hgn.le
    have hq2 := hgn.top hi2
    have hq3 := hgn.ds
    have hnd := fun da dc => c_need (pb := pb) (deep := 0) (da := da) (dc := dc) q.2 [58] hr hT (by omega) hq2
    have hgd := Sp.goes_need T q.2 [58]
    generalize (q.2.need T [58]) = q4 at hnd hgd hL
    have hd4 := hgd.le
    have hd5 := hgd.top hq2
    have hd6 := hgd.ds
    by_cases hcol : q4.1 = true
    case neg =>
      have hcol' : q4.1 = false := by simpa using hcol
      rw [hcol', if_pos (by rfl)] at hL
      rw [hcol'] at hnd
      subst hL
      repeat' (first
      | (refine m_readC hm (hc:=hq _ _ _ _) (k:=?_); clear hm; intro _ hm)
      | (refine m_readC hm (hc:=c_T s2.i hr) (k:=?_); clear hm; intro _ hm)
      | (refine m_call hm (hc:=hnm _ _) (k:=?_); clear hm; rintro _ _ _ _ ⟨rfl, rfl, da4, dc4, rfl⟩ hle hm; try simp only [setn] at hm)
      | (refine m_call hm (hc:=hnd _ _) (k:=?_); clear hm; rintro _ _ _ _ ⟨rfl, rfl, da5, dc5, rfl⟩ hle hm; try simp only [setn] at hm)
      | (refine m_varS (d:=7) hm (k:=?_); clear hm; intro b7 _ hm)
      | refine m_load1 hm (k:=?_)
      | (refine m_store1 hm (k:=?_); clear hm; intro _ hm; try simp only [setn] at hm)
      | refine op_move (k:=?_)
      | refine op_assign (k:=?_)
      | refine op_pick_true (k:=?_)
      | refine op_lss (k:=?_)
      | refine op_geq (k:=?_)
      | refine op_len_slice (k:=?_)
      | refine op_not (k:=?_)
      | refine op_extract (k:=?_)
      | refine op_nilCheck (k:=?_)
      | refine op_field1 (k:=?_)
      | refine op_fieldAddr (k:=?_)
      | refine op_struct (k:=?_)
      | (refine wl_split_dec (h1:=fun _ => ?_) (h0:=fun _ => ?_)<;> (try first | contradiction | (exfalso; omega)))
      | refine wl_nil ?_
      | refine at_then_normal ?_
      | refine at_then_exit ?_
      | refine at_block_exit ?_
      | refine at_block_other (h:=?_)
      | refine wc_seq ?_
      | refine wc_region ?_
      | refine wc_block ?_
      | refine wc_skip ?_
      | refine wc_exit ?_
      | refine wc_cond_true (ht:=?_)
      | (refine wc_cond_dec (ht:=fun _ => ?_) (hf:=fun _ => ?_)<;> (try first | contradiction | (exfalso; omega))))
      all_goals try (exfalso; omega)
      exact at_cut (⟨0, [], n1, s2, a1, cp1, da5, dc5⟩ : ParX) (by exact ⟨rfl, rfl, rfl, trivial⟩) ⟨hl.symm, hd5, by dsimp only; omega, (hm.perm pm1_2).tl⟩
    rw [hcol, if_neg (by simp)] at hL
    rw [hcol] at hnd
    have hlb := fun da dc => c_lab (pb := pb) (deep := 0) (da := da) (dc := dc) q4.2 hr hT hd5 (by omega)
    have hgl := Sp.goes_lab T q4.2
    generalize Sp.lab T q4.2 = lb at hlb hgl hL
    have hl1 := hgl.le
    have hl2 := hgl.top hd5
    have hl3 := hgl.ds
    have hnl : (l1 ++ [(⟨q.1, lb.1, (T.tok s2.i).pos⟩ : Sp.Par)]).length = n1 + 1 := by simp [hl]
    have hfm : (l1 ++ [(⟨q.1, lb.1, (T.tok s2.i).pos⟩ : Sp.Par)]).flatMap encPar = l1.flatMap encPar ++ [str q.1, nt lb.1, nt (T.tok s2.i).pos] := by simp [List.flatMap_append]
    have hcm := fun ds deep da dc => c_is (pb := pb) (ds := ds) (deep := deep) (da := da) (dc := dc) lb.2.i [44] hr
    have hn4 : n1 < 5 := by omega
    have hni : lb.2.next.i = lb.2.i + 1 := rfl
    have hnd2 : lb.2.next.ds.length = lb.2.ds.length := rfl
    by_cases hcomma : T.is lb.2.i [44] = true
    · rw [if_pos hcomma] at hL
      rw [hcomma] at hcm
      have hlt2 := Sp.is_lt hcomma
      repeat' (first
      | (refine m_readC hm (hc:=hq _ _ _ _) (k:=?_); clear hm; intro _ hm)
      | (refine m_readC hm (hc:=c_T s2.i hr) (k:=?_); clear hm; intro _ hm)
      | (refine m_call hm (hc:=hnm _ _) (k:=?_); clear hm; rintro _ _ _ _ ⟨rfl, rfl, da4, dc4, rfl⟩ hle hm; try simp only [setn] at hm)
      | (refine m_call hm (hc:=hnd _ _) (k:=?_); clear hm; rintro _ _ _ _ ⟨rfl, rfl, da5, dc5, rfl⟩ hle hm; try simp only [setn] at hm)
      | (refine m_call hm (hc:=hlb _ _) (k:=?_); clear hm; rintro _ _ _ _ ⟨rfl, rfl, da6, dc6, rfl⟩ hle hm; try simp only [setn] at hm)
      | (refine wc_semi 6 8 (parRow l1 n1 a1 cp1).blk.toList (h:=?_); intro wd hkd; replace hm := hm.kept0 hkd; clear hkd; have hC := Kept.refl (parRow l1 n1 a1 cp1).blk.toList wd)
      | (refine m_readC hm (hc:=hcm _ _ _ _) (k:=?_); clear hm; intro _ hm)
      | refine mv_loadAll (X:=[]) hm (k:=?_)
      | refine mv_load1 hm (k:=?_)
      | (refine ms_push (d:=92) hm hC (k:=?_); clear hm hC; intro a92 cp92 _ _ hm; try simp only [setn] at hm)
      | (refine m_varS (d:=7) hm (k:=?_); clear hm; intro b7 _ hm)
      | refine m_load1 hm (k:=?_)
      | (refine m_store1 hm (k:=?_); clear hm; intro _ hm; try simp only [setn] at hm)
      | refine op_move (k:=?_)
      | refine op_assign (k:=?_)
      | refine op_pick_true (k:=?_)
      | refine op_lss (k:=?_)
      | refine op_geq (k:=?_)
      | refine op_len_slice (k:=?_)
      | refine op_not (k:=?_)
      | refine op_extract (k:=?_)
      | refine op_nilCheck (k:=?_)
      | refine op_field1 (k:=?_)
      | refine op_add (k:=?_)
      | refine op_fieldAddr (k:=?_)
      | refine op_struct (k:=?_)
      | (refine wl_split_dec (h1:=fun _ => ?_) (h0:=fun _ => ?_)<;> (try first | contradiction | (exfalso; omega)))
      | refine wl_nil ?_
      | refine at_then_normal ?_
      | refine at_block_normal ?_
      | refine wc_seq ?_
      | refine wc_region ?_
      | refine wc_block ?_
      | refine wc_skip ?_
      | refine wc_cond_true (ht:=?_)
      | refine wc_cond_false (hf:=?_)
      | (refine wc_cond_dec (ht:=fun _ => ?_) (hf:=fun _ => ?_)<;> (try first | contradiction | (exfalso; omega)))
      | refine v_move (k:=?_)
      | refine v_nilCheck (k:=?_)
      | refine v_fieldAddr (k:=?_)
      | refine wv_nil ?_)
      all_goals try (exfalso; omega)
      refine at_round (⟨f1, _, n1 + 1, lb.2.next, a92, cp92, da6, dc6⟩ : ParX) (by exact ⟨rfl, rfl, rfl, trivial⟩) ⟨?_, hnl, by dsimp only; omega, by dsimp only; omega, by dsimp only; omega, by dsimp only; omega, hL⟩ (by dsimp only; omega)
      dsimp only [parRow]
      rw [hfm]
      exact (hm.perm pm1_2).tl
    · rw [if_neg hcomma] at hL
      rw [show T.is lb.2.i [44] = false by simpa using hcomma] at hcm
      subst hL
      repeat' (first
      | (refine m_readC hm (hc:=hq _ _ _ _) (k:=?_); clear hm; intro _ hm)
      | (refine m_readC hm (hc:=c_T s2.i hr) (k:=?_); clear hm; intro _ hm)
      | (refine m_call hm (hc:=hnm _ _) (k:=?_); clear hm; rintro _ _ _ _ ⟨rfl, rfl, da4, dc4, rfl⟩ hle hm; try simp only [setn] at hm)
      | (refine m_call hm (hc:=hnd _ _) (k:=?_); clear hm; rintro _ _ _ _ ⟨rfl, rfl, da5, dc5, rfl⟩ hle hm; try simp only [setn] at hm)
      | (refine m_call hm (hc:=hlb _ _) (k:=?_); clear hm; rintro _ _ _ _ ⟨rfl, rfl, da6, dc6, rfl⟩ hle hm; try simp only [setn] at hm)
      | (refine wc_semi 6 8 (parRow l1 n1 a1 cp1).blk.toList (h:=?_); intro wd hkd; replace hm := hm.kept0 hkd; clear hkd; have hC := Kept.refl (parRow l1 n1 a1 cp1).blk.toList wd)
      | (refine m_readC hm (hc:=hcm _ _ _ _) (k:=?_); clear hm; intro _ hm)
      | refine mv_loadAll (X:=[]) hm (k:=?_)
      | refine mv_load1 hm (k:=?_)
      | (refine ms_push (d:=92) hm hC (k:=?_); clear hm hC; intro a92 cp92 _ _ hm; try simp only [setn] at hm)
      | (refine m_varS (d:=7) hm (k:=?_); clear hm; intro b7 _ hm)
      | refine m_load1 hm (k:=?_)
      | (refine m_store1 hm (k:=?_); clear hm; intro _ hm; try simp only [setn] at hm)
      | refine op_move (k:=?_)
      | refine op_assign (k:=?_)
      | refine op_pick_true (k:=?_)
      | refine op_lss (k:=?_)
      | refine op_geq (k:=?_)
      | refine op_len_slice (k:=?_)
      | refine op_not (k:=?_)
      | refine op_extract (k:=?_)
      | refine op_nilCheck (k:=?_)
      | refine op_field1 (k:=?_)
      | refine op_fieldAddr (k:=?_)
      | refine op_struct (k:=?_)
      | (refine wl_split_dec (h1:=fun _ => ?_) (h0:=fun _ => ?_)<;> (try first | contradiction | (exfalso; omega)))
      | refine wl_nil ?_
      | refine at_then_normal ?_
      | refine at_then_exit ?_
      | refine at_block_exit ?_
      | refine at_block_other (h:=?_)
      | refine wc_seq ?_
      | refine wc_region ?_
      | refine wc_block ?_
      | refine wc_skip ?_
      | refine wc_exit ?_
      | refine wc_cond_true (ht:=?_)
      | refine wc_cond_false (hf:=?_)
      | (refine wc_cond_dec (ht:=fun _ => ?_) (hf:=fun _ => ?_)<;> (try first | contradiction | (exfalso; omega)))
      | refine v_move (k:=?_)
      | refine v_nilCheck (k:=?_)
      | refine v_fieldAddr (k:=?_)
      | refine wv_nil ?_)
      all_goals try (exfalso; omega)
      refine at_cut (⟨0, [], n1 + 1, s2, a92, cp92, da6, dc6⟩ : ParX) (by exact ⟨rfl, rfl, rfl, trivial⟩) ⟨hnl.symm, hl2, by dsimp only; omega, ?_⟩
      dsimp only [parRow]
      rw [hfm]
      exact (hm.perm pm1_2).tl
  clear hm hnm hnd
  rintro ⟨_, _, n1, _, a1, cp1, da3, dc3⟩ w2 ⟨hn, hi2, hd2, hm⟩
  dsimp only at hn hm ⊢
  -- ')' and ':'
  have hd8 := fun da dc => c_need (pb := pb) (deep := 0) (da := da) (dc := dc) R.2 [41] hr hT (by omega) hi2
  have hg8 := Sp.goes_need T R.2 [41]
  generalize (R.2.need T [41]) = s3 at hd8 hg8 ⊢
  have k1 := hg8.le
  have k2 := hg8.top hi2
  have k3 := hg8.ds
  have hd9 := fun da dc => c_need (pb := pb) (deep := 0) (da := da) (dc := dc) s3.2 [58] hr hT (by omega) k2
  have hg9 := Sp.goes_need T s3.2 [58]
  generalize (s3.2.need T [58]) = s4 at hd9 hg9 ⊢
  have k4 := hg9.le
  have k5 := hg9.top k2
  have k6 := hg9.ds
  have hlb := fun da dc => c_lab (pb := pb) (deep := 0) (da := da) (dc := dc) s4.2 hr hT k5 (by omega)
  have hgl := Sp.goes_lab T s4.2
  generalize Sp.lab T s4.2 = r5 at hlb hgl ⊢
  have k7 := hgl.le
  have k8 := hgl.top k5
  have k9 := hgl.ds
  have hsd := fun ds deep da dc => c_is (pb := pb) (ds := ds) (deep := deep) (da := da) (dc := dc) r5.2.i [115, 101, 110, 100, 115] hr
  obtain ⟨R6, hR6⟩ : ∃ R6, R6 = (if T.is r5.2.i [115, 101, 110, 100, 115] = true then Sp.sndL T 6 [] r5.2.next else ([], r5.2)) := ⟨_, rfl⟩
  rw [← hR6]
  subst hn
  repeat' (first
  | (refine wc_midc 124 (fun x : SndX => [(0, ptr pb), (1, ptr bi), (2, nt R6.2.i)]) (fun x w' => x.n = R6.1.length ∧ R6.2.i ≤ T.l.length ∧ R6.2.ds.length ≤ 16000000 ∧ Mem E I [pObj pb la lc T R6.2.ds 0 x.da x.dc, dgRow R6.2.ds x.da x.dc, sndRow R6.1 x.n x.a x.cp, parRow R.1 R.1.length a1 cp1, .cell bi (itCells 2 r.1 r5.1 (.slice a1 R.1.length cp1) (.slice x.a x.n x.cp) nil0 at_ size (T.tok s.i).pos nil0) 38] w') (by rfl) (fun hyes => ?_) (fun hno => ?_) ?_)
  | (refine m_call hm (hc:=hd8 _ _) (k:=?_); clear hm; rintro _ _ _ _ ⟨rfl, rfl, da4, dc4, rfl⟩ hle hm; try simp only [setn] at hm)
  | (refine m_call hm (hc:=hd9 _ _) (k:=?_); clear hm; rintro _ _ _ _ ⟨rfl, rfl, da5, dc5, rfl⟩ hle hm; try simp only [setn] at hm)
  | (refine m_call hm (hc:=hlb _ _) (k:=?_); clear hm; rintro _ _ _ _ ⟨rfl, rfl, da6, dc6, rfl⟩ hle hm; try simp only [setn] at hm)
  | (refine m_readC hm (hc:=hsd _ _ _ _) (k:=?_); clear hm; intro _ hm)
  | (refine m_store1 hm (k:=?_); clear hm; intro _ hm; try simp only [setn] at hm)
  | refine op_move (k:=?_)
  | refine op_assign (k:=?_)
  | refine op_extract (k:=?_)
  | refine op_nilCheck (k:=?_)
  | refine op_add (k:=?_)
  | refine op_fieldAddr (k:=?_)
  | refine wl_nil ?_
  | refine at_then_normal ?_
  | refine wc_seq ?_
  | refine wc_region ?_
  | refine wc_block ?_
  | refine wc_skip ?_)
  · -- there are channels
    rw [hyes, if_pos rfl] at hR6
    have hlt6 := Sp.is_lt hyes
    have hni : r5.2.next.i = r5.2.i + 1 := rfl
    have hnd2 : r5.2.next.ds.length = r5.2.ds.length := rfl
    repeat' (first
    | (refine m_varS (d:=7) hm (k:=?_); clear hm; intro b7 _ hm)
    | (refine m_var1 (d:=7) hm (k:=?_); clear hm; intro b7 _ hm)
    | (refine m_push (d:=92) hm (k:=?_); clear hm; intro a92 cp92 _ _ hm; try simp only [setn] at hm)
    | (refine m_varS (d:=10) hm (k:=?_); clear hm; intro b10 _ hm)
    | (refine m_var1 (d:=10) hm (k:=?_); clear hm; intro b10 _ hm)
    | (refine m_push (d:=156) hm (k:=?_); clear hm; intro a156 cp156 _ _ hm; try simp only [setn] at hm)
    | refine m_load1 hm (k:=?_)
    | refine i_load1 hm (k:=?_)
    | refine m_loadAll hm (k:=?_)
    | refine i_loadN hm (k:=?_)
    | refine i_load1z hm (k:=?_)
    | refine mq_load1 hm (k:=?_)
    | refine iq_load1 hm (k:=?_)
    | refine mq_loadAll hm (k:=?_)
    | refine iq_loadN hm (k:=?_)
    | refine iq_load1z hm (k:=?_)
    | (refine m_storeAll hm (k:=?_); clear hm; intro _ hm; try simp only [setn] at hm)
    | (refine m_store1 hm (k:=?_); clear hm; intro _ hm; try simp only [setn] at hm)
    | (refine m_storeN hm (k:=?_); clear hm; intro _ hm; try simp only [setn] at hm)
    | refine m_ret_agg hm (h:=?_)
    | refine m_ret2_agg hm (h:=?_)
    | refine op_move (k:=?_)
    | refine op_assign (k:=?_)
    | refine op_pick_true (k:=?_)
    | refine op_pick_false (k:=?_)
    | refine op_lss (k:=?_)
    | refine op_geq (k:=?_)
    | refine op_len_str (k:=?_)
    | refine op_len_slice (k:=?_)
    | refine op_not (k:=?_)
    | refine op_extract (k:=?_)
    | refine op_nilCheck (k:=?_)
    | refine op_field1 (k:=?_)
    | refine op_add (k:=?_)
    | refine op_add_u8 (k:=?_)
    | refine op_fieldAddr (k:=?_)
    | refine op_load1 (k:=?_)
    | refine op_struct (k:=?_)
    | refine op_build (hr:=fun _ => (by rfl)) (k:=?_)
    | refine wl_skip (k:=?_)
    | (refine wl_split_dec (h1:=fun _ => ?_) (h0:=fun _ => ?_)<;> (try first | contradiction | (exfalso; omega)))
    | (refine wl_split (h1:=fun _ => ?_) (h0:=fun _ => ?_)<;> (fail_if_success contradiction))
    | refine wl_nil ?_
    | refine at_then_normal ?_
    | refine at_then_ret ?_
    | refine at_then_exit ?_
    | refine at_block_normal ?_
    | refine at_block_ret ?_
    | refine at_block_exit ?_
    | refine at_block_other (h:=?_)
    | refine wc_seq ?_
    | refine wc_region ?_
    | refine wc_block ?_
    | refine wc_skip ?_
    | refine wc_exit ?_
    | refine wc_ret ?_
    | refine at_ret1 (h:=?_)
    | refine wc_quiet (h:=?_)
    | (refine wq_nil ?_; intro _ hkq; replace hm := hm.kept0 hkq; clear hkq)
    | (refine wq_nil_tail ?_; intro _ hkq; replace hm := hm.kept0 hkq; clear hkq)
    | refine wc_cond_true (ht:=?_)
    | refine wc_cond_false (hf:=?_)
    | (refine wc_cond_dec (ht:=fun _ => ?_) (hf:=fun _ => ?_)<;> (try first | contradiction | (exfalso; omega)))
    | refine wc_cond (ht:=fun _ => ?_) (hf:=fun _ => ?_)
    | refine q_move (k:=?_)
    | refine q_assign (k:=?_)
    | refine q_pick_true (k:=?_)
    | refine q_pick_false (k:=?_)
    | refine q_lss (k:=?_)
    | refine q_geq (k:=?_)
    | refine q_len_str (k:=?_)
    | refine q_len_slice (k:=?_)
    | refine q_not (k:=?_)
    | refine q_extract (k:=?_)
    | refine q_nilCheck (k:=?_)
    | refine q_field1 (by rfl) (by rfl) (by rfl) (by rfl) ?_
    | refine q_add (k:=?_)
    | refine q_add_u8 (k:=?_)
    | refine q_fieldAddr (k:=?_)
    | refine q_load1 (k:=?_)
    | refine q_struct (k:=?_)
    | refine q_build (hr:=fun _ => (by rfl)) (k:=?_)
    | refine wq_skip (k:=?_)
    | (refine wq_split_dec (h1:=fun _ => ?_) (h0:=fun _ => ?_)<;> (try first | contradiction | (exfalso; omega)))
    | (refine wq_split (h1:=fun _ => ?_) (h0:=fun _ => ?_)<;> (fail_if_success contradiction)))
    have hm := hm.nil 85 2
    refine wc_loop (fun x : SndX => [(0, ptr pb), (1, ptr bi), (2, nt x.s.i), (9, .bool x.more)])
      (fun x w' => Mem E I [pObj pb la lc T x.s.ds 0 x.da x.dc, dgRow x.s.ds x.da x.dc, sndRow x.l x.n x.a x.cp, parRow R.1 R.1.length a1 cp1, .cell bi (itCells 2 r.1 r5.1 (.slice a1 R.1.length cp1) (.slice x.a x.n x.cp) nil0 at_ size (T.tok s.i).pos nil0) 38] w' ∧
        x.l.length = x.n ∧ (x.more = true → x.n ≤ 5) ∧ x.f + x.n = 6 ∧ x.s.i ≤ T.l.length ∧ x.s.ds.length ≤ 8000010 + 2 * x.s.i + 3 * x.n ∧ (x.more = true → Sp.sndL T x.f x.l x.s = R6) ∧ (x.more = false → R6 = (x.l, x.s)))
      (fun x => 2 * x.f + x.more.toNat) ⟨6, [], 0, r5.2.next, true, none, 0, da6, dc6⟩ (by exact ⟨rfl, rfl, rfl, rfl, trivial⟩) ⟨hm.perm pm2_1, rfl, fun _ => by dsimp only; omega, rfl, by dsimp only; omega, by dsimp only; omega, fun _ => hR6.symm, fun h => (by cases h)⟩ ?_
    clear hm
    rintro ⟨f1, l1, n1, s2, more, a2, cp2, da3, dc3⟩ w2 ⟨hm, hl, hn5, hf, hi2, hd2, hL, hL0⟩
    dsimp only at hm hl hn5 hf hi2 hd2 hL hL0 ⊢
    cases more with
    | false =>
      have hR' := hL0 rfl
      subst hR'
      repeat' (first
      | refine op_move (k:=?_)
      | refine wl_nil ?_
      | refine at_then_normal ?_
      | refine at_then_exit ?_
      | refine at_block_exit ?_
      | refine wc_seq ?_
      | refine wc_region ?_
      | refine wc_exit ?_
      | refine wc_cond_false (hf:=?_))
      exact at_cut (⟨0, [], n1, s2, false, a2, cp2, da3, dc3⟩ : SndX) (by exact ⟨rfl, rfl, rfl, trivial⟩) ⟨hl.symm, hi2, by dsimp only; omega, hm⟩
    | true =>
    have hL := hL rfl
    have hn5 := hn5 rfl
    obtain ⟨f1, rfl⟩ : ∃ f', f1 = f' + 1 := ⟨f1 - 1, by omega⟩
    rw [Sp.sndL] at hL
    by_cases h5 : 5 ≤ l1.length
    · rw [if_pos h5] at hL
      subst hL
      repeat' (first
      | (refine m_call hm (hc:=c_bad s2.i 5 hr hT (by omega)) (k:=?_); clear hm; rintro _ _ _ _ ⟨rfl, rfl, da4, dc4, rfl⟩ hle hm; try simp only [setn] at hm)
      | refine m_load1 hm (k:=?_)
      | refine op_move (k:=?_)
      | refine op_geq (k:=?_)
      | refine op_len_slice (k:=?_)
      | refine op_nilCheck (k:=?_)
      | refine op_fieldAddr (k:=?_)
      | refine wl_nil ?_
      | refine at_then_normal ?_
      | refine at_then_exit ?_
      | refine at_block_exit ?_
      | refine at_block_other (h:=?_)
      | refine wc_seq ?_
      | refine wc_region ?_
      | refine wc_block ?_
      | refine wc_skip ?_
      | refine wc_exit ?_
      | refine wc_cond_true (ht:=?_)
      | (refine wc_cond_dec (ht:=fun _ => ?_) (hf:=fun _ => ?_)<;> (try first | contradiction | (exfalso; omega))))
      all_goals try (exfalso; omega)
      exact at_cut (⟨0, [], n1, s2, false, a2, cp2, da4, dc4⟩ : SndX) (by exact ⟨rfl, rfl, rfl, trivial⟩) ⟨hl.symm, hi2, by simp [Sp.St.bad]; omega, hm⟩
    rw [if_neg h5] at hL
    dsimp only at hL
    have hnm := fun da dc => c_named (pb := pb) (deep := 0) (da := da) (dc := dc) s2 hr hT (by omega) hi2
    have hgn := Sp.goes_named T s2
    generalize s2.named T = q at hnm hgn hL
    have hq1 := hgn.le
    have hq2 := hgn.top hi2
    have hq3 := hgn.ds
    have hnl : (l1 ++ [(⟨q.1, (T.tok s2.i).pos⟩ : Sp.Rf)]).length = n1 + 1 := by simp [hl]
    have hfm : (l1 ++ [(⟨q.1, (T.tok s2.i).pos⟩ : Sp.Rf)]).flatMap encRf = l1.flatMap encRf ++ [str q.1, nt (T.tok s2.i).pos] := by simp [List.flatMap_append]
    have hcm := fun ds deep da dc => c_is (pb := pb) (ds := ds) (deep := deep) (da := da) (dc := dc) q.2.i [44] hr
    have hn4 : n1 < 5 := by omega
    have hni : q.2.next.i = q.2.i + 1 := rfl
    have hnd2 : q.2.next.ds.length = q.2.ds.length := rfl
    by_cases hcomma : T.is q.2.i [44] = true
    · rw [if_pos hcomma] at hL
      rw [hcomma] at hcm
      have hlt2 := Sp.is_lt hcomma
      repeat' (first
      | (refine m_readC hm (hc:=c_T s2.i hr) (k:=?_); clear hm; intro _ hm)
      | (refine m_call hm (hc:=hnm _ _) (k:=?_); clear hm; rintro _ _ _ _ ⟨rfl, rfl, da4, dc4, rfl⟩ hle hm; try simp only [setn] at hm)
      | (refine wc_semi 6 8 (sndRow l1 n1 a2 cp2).blk.toList (h:=?_); intro wd hkd; replace hm := hm.kept0 hkd; clear hkd; have hC := Kept.refl (sndRow l1 n1 a2 cp2).blk.toList wd)
      | (refine m_readC hm (hc:=hcm _ _ _ _) (k:=?_); clear hm; intro _ hm)
      | refine mv_loadAll (X:=[]) hm (k:=?_)
      | refine mv_load1 hm (k:=?_)
      | (refine ms_push (d:=156) hm hC (k:=?_); clear hm hC; intro a156 cp156 _ _ hm; try simp only [setn] at hm)
      | (refine m_varS (d:=10) hm (k:=?_); clear hm; intro b10 _ hm)
      | refine m_load1 hm (k:=?_)
      | (refine m_store1 hm (k:=?_); clear hm; intro _ hm; try simp only [setn] at hm)
      | refine op_move (k:=?_)
      | refine op_assign (k:=?_)
      | refine op_geq (k:=?_)
      | refine op_len_slice (k:=?_)
      | refine op_extract (k:=?_)
      | refine op_nilCheck (k:=?_)
      | refine op_field1 (k:=?_)
      | refine op_add (k:=?_)
      | refine op_fieldAddr (k:=?_)
      | refine op_struct (k:=?_)
      | refine wl_nil ?_
      | refine at_then_normal ?_
      | refine at_block_normal ?_
      | refine wc_seq ?_
      | refine wc_region ?_
      | refine wc_block ?_
      | refine wc_skip ?_
      | refine wc_cond_true (ht:=?_)
      | (refine wc_cond_dec (ht:=fun _ => ?_) (hf:=fun _ => ?_)<;> (try first | contradiction | (exfalso; omega)))
      | refine v_move (k:=?_)
      | refine v_nilCheck (k:=?_)
      | refine v_fieldAddr (k:=?_)
      | refine wv_nil ?_)
      all_goals try (exfalso; omega)
      refine at_round (⟨f1, _, n1 + 1, q.2.next, true, a156, cp156, da4, dc4⟩ : SndX) (by exact ⟨rfl, rfl, rfl, rfl, trivial⟩) ⟨?_, hnl, fun _ => by dsimp only; omega, by dsimp only; omega, by dsimp only; omega, by dsimp only; omega, fun _ => hL, fun h => (by cases h)⟩ (by dsimp only; omega)
      dsimp only [sndRow]
      rw [hfm]
      exact (hm.perm pm1_2).tl
    · rw [if_neg hcomma] at hL
      rw [show T.is q.2.i [44] = false by simpa using hcomma] at hcm
      repeat' (first
      | (refine m_readC hm (hc:=c_T s2.i hr) (k:=?_); clear hm; intro _ hm)
      | (refine m_call hm (hc:=hnm _ _) (k:=?_); clear hm; rintro _ _ _ _ ⟨rfl, rfl, da4, dc4, rfl⟩ hle hm; try simp only [setn] at hm)
      | (refine wc_semi 6 8 (sndRow l1 n1 a2 cp2).blk.toList (h:=?_); intro wd hkd; replace hm := hm.kept0 hkd; clear hkd; have hC := Kept.refl (sndRow l1 n1 a2 cp2).blk.toList wd)
      | (refine m_readC hm (hc:=hcm _ _ _ _) (k:=?_); clear hm; intro _ hm)
      | refine mv_loadAll (X:=[]) hm (k:=?_)
      | refine mv_load1 hm (k:=?_)
      | (refine ms_push (d:=156) hm hC (k:=?_); clear hm hC; intro a156 cp156 _ _ hm; try simp only [setn] at hm)
      | (refine m_varS (d:=10) hm (k:=?_); clear hm; intro b10 _ hm)
      | refine m_load1 hm (k:=?_)
      | (refine m_store1 hm (k:=?_); clear hm; intro _ hm; try simp only [setn] at hm)
      | refine op_move (k:=?_)
      | refine op_assign (k:=?_)
      | refine op_geq (k:=?_)
      | refine op_len_slice (k:=?_)
      | refine op_extract (k:=?_)
      | refine op_nilCheck (k:=?_)
      | refine op_field1 (k:=?_)
      | refine op_fieldAddr (k:=?_)
      | refine op_struct (k:=?_)
      | refine wl_nil ?_
      | refine at_then_normal ?_
      | refine at_block_normal ?_
      | refine wc_seq ?_
      | refine wc_region ?_
      | refine wc_block ?_
      | refine wc_skip ?_
      | refine wc_cond_true (ht:=?_)
      | refine wc_cond_false (hf:=?_)
      | (refine wc_cond_dec (ht:=fun _ => ?_) (hf:=fun _ => ?_)<;> (try first | contradiction | (exfalso; omega)))
      | refine v_move (k:=?_)
      | refine v_nilCheck (k:=?_)
      | refine v_fieldAddr (k:=?_)
      | refine wv_nil ?_)
      all_goals try (exfalso; omega)
      refine at_round (⟨f1, _, n1 + 1, q.2, false, a156, cp156, da4, dc4⟩ : SndX) (by exact ⟨rfl, rfl, rfl, rfl, trivial⟩) ⟨?_, hnl, fun h => (by cases h), by dsimp only; omega, hq2, by dsimp only; omega, fun h => (by cases h), fun _ => hL.symm⟩ (by dsimp only [Bool.toNat_true, Bool.toNat_false]; omega)
      dsimp only [sndRow]
      rw [hfm]
      exact (hm.perm pm1_2).tl
  · -- there are none
    rw [hno, if_neg (by simp)] at hR6
    subst hR6
    have hm := hm.nil 85 2
    repeat' (first
    | (refine m_varS (d:=7) hm (k:=?_); clear hm; intro b7 _ hm)
    | (refine m_var1 (d:=7) hm (k:=?_); clear hm; intro b7 _ hm)
    | (refine m_push (d:=92) hm (k:=?_); clear hm; intro a92 cp92 _ _ hm; try simp only [setn] at hm)
    | (refine m_varS (d:=10) hm (k:=?_); clear hm; intro b10 _ hm)
    | (refine m_var1 (d:=10) hm (k:=?_); clear hm; intro b10 _ hm)
    | (refine m_push (d:=156) hm (k:=?_); clear hm; intro a156 cp156 _ _ hm; try simp only [setn] at hm)
    | refine m_load1 hm (k:=?_)
    | refine i_load1 hm (k:=?_)
    | refine m_loadAll hm (k:=?_)
    | refine i_loadN hm (k:=?_)
    | refine i_load1z hm (k:=?_)
    | refine mq_load1 hm (k:=?_)
    | refine iq_load1 hm (k:=?_)
    | refine mq_loadAll hm (k:=?_)
    | refine iq_loadN hm (k:=?_)
    | refine iq_load1z hm (k:=?_)
    | (refine m_storeAll hm (k:=?_); clear hm; intro _ hm; try simp only [setn] at hm)
    | (refine m_store1 hm (k:=?_); clear hm; intro _ hm; try simp only [setn] at hm)
    | (refine m_storeN hm (k:=?_); clear hm; intro _ hm; try simp only [setn] at hm)
    | refine m_ret_agg hm (h:=?_)
    | refine m_ret2_agg hm (h:=?_)
    | refine op_move (k:=?_)
    | refine op_assign (k:=?_)
    | refine op_pick_true (k:=?_)
    | refine op_pick_false (k:=?_)
    | refine op_lss (k:=?_)
    | refine op_geq (k:=?_)
    | refine op_len_str (k:=?_)
    | refine op_len_slice (k:=?_)
    | refine op_not (k:=?_)
    | refine op_extract (k:=?_)
    | refine op_nilCheck (k:=?_)
    | refine op_field1 (k:=?_)
    | refine op_add (k:=?_)
    | refine op_add_u8 (k:=?_)
    | refine op_fieldAddr (k:=?_)
    | refine op_load1 (k:=?_)
    | refine op_struct (k:=?_)
    | refine op_build (hr:=fun _ => (by rfl)) (k:=?_)
    | refine wl_skip (k:=?_)
    | (refine wl_split_dec (h1:=fun _ => ?_) (h0:=fun _ => ?_)<;> (try first | contradiction | (exfalso; omega)))
    | (refine wl_split (h1:=fun _ => ?_) (h0:=fun _ => ?_)<;> (fail_if_success contradiction))
    | refine wl_nil ?_
    | refine at_then_normal ?_
    | refine at_then_ret ?_
    | refine at_then_exit ?_
    | refine at_block_normal ?_
    | refine at_block_ret ?_
    | refine at_block_exit ?_
    | refine at_block_other (h:=?_)
    | refine wc_seq ?_
    | refine wc_region ?_
    | refine wc_block ?_
    | refine wc_skip ?_
    | refine wc_exit ?_
    | refine wc_ret ?_
    | refine at_ret1 (h:=?_)
    | refine wc_quiet (h:=?_)
    | (refine wq_nil ?_; intro _ hkq; replace hm := hm.kept0 hkq; clear hkq)
    | (refine wq_nil_tail ?_; intro _ hkq; replace hm := hm.kept0 hkq; clear hkq)
    | refine wc_cond_true (ht:=?_)
    | refine wc_cond_false (hf:=?_)
    | (refine wc_cond_dec (ht:=fun _ => ?_) (hf:=fun _ => ?_)<;> (try first | contradiction | (exfalso; omega)))
    | refine wc_cond (ht:=fun _ => ?_) (hf:=fun _ => ?_)
    | refine q_move (k:=?_)
    | refine q_assign (k:=?_)
    | refine q_pick_true (k:=?_)
    | refine q_pick_false (k:=?_)
    | refine q_lss (k:=?_)
    | refine q_geq (k:=?_)
    | refine q_len_str (k:=?_)
    | refine q_len_slice (k:=?_)
    | refine q_not (k:=?_)
    | refine q_extract (k:=?_)
    | refine q_nilCheck (k:=?_)
    | refine q_field1 (by rfl) (by rfl) (by rfl) (by rfl) ?_
    | refine q_add (k:=?_)
    | refine q_add_u8 (k:=?_)
    | refine q_fieldAddr (k:=?_)
    | refine q_load1 (k:=?_)
    | refine q_struct (k:=?_)
    | refine q_build (hr:=fun _ => (by rfl)) (k:=?_)
    | refine wq_skip (k:=?_)
    | (refine wq_split_dec (h1:=fun _ => ?_) (h0:=fun _ => ?_)<;> (try first | contradiction | (exfalso; omega)))
    | (refine wq_split (h1:=fun _ => ?_) (h0:=fun _ => ?_)<;> (fail_if_success contradiction)))
    exact at_cut (⟨0, [], 0, r5.2, false, none, 0, da6, dc6⟩ : SndX) (by exact ⟨rfl, rfl, rfl, trivial⟩) ⟨rfl, k8, by dsimp only; omega, hm.perm pm2_1⟩
  clear hm hd8 hd9 hlb hsd
  rintro ⟨_, _, n2, _, _, a2, cp2, da7, dc7⟩ w3 ⟨hn, hi3, hd3, hm⟩
  dsimp only at hn hm ⊢
  subst hn
  have hbl := fun da dc => (c_stmblock T pb hT (Sp.fuel T)).2 I la lc 0 da dc R6.2 hr hi3 (by rw [Sp.fuel]; omega) (by omega) (by omega)
  have hgb := (Sp.goes_block T (Sp.fuel T)).1 0 R6.2
  generalize Sp.block T (Sp.fuel T) 0 R6.2 = r7 at hbl hgb ⊢
  have j1 := hgb.le
  have j2 := hgb.top hi3
  have j3 := hgb.ds
  repeat' (first
  | (refine m_call hm (hc:=hbl _ _) (k:=?_); clear hm; rintro _ I2 _ _ ⟨⟨ab, cb, xb, rfl, hrow, hsts⟩, da8, dc8, rfl⟩ hle hm; have hleI2 := hle; try simp only [setn] at hm)
  | (refine m_store1 hm (k:=?_); clear hm; intro _ hm; try simp only [setn] at hm)
  | refine op_move (k:=?_)
  | refine op_assign (k:=?_)
  | refine op_extract (k:=?_)
  | refine op_nilCheck (k:=?_)
  | refine op_fieldAddr (k:=?_)
  | refine wl_nil ?_
  | refine at_then_normal ?_
  | refine wc_seq ?_
  | refine wc_region ?_
  | refine wc_ret ?_
  | refine at_ret1 (h:=?_))
  obtain ⟨I3, hle3, hm3, hrow3⟩ := (hm.perm pm1_2).freeze
  obtain ⟨I4, hle4, hm4, hrow4⟩ := (hm3.perm pm1_2).freeze
  exact ⟨I4, _, ⟨j2, by dsimp only; omega, rfl, a1, cp1, a2, cp2, ab, cb, xb, da8, dc8, hrow4, hrow3.le hle4, (hrow.le hle3).le hle4, StsAt.le (hle3.trans hle4) _ _ hsts, rfl⟩, hm4⟩
end Go.Proofs.Ytjfkjpbkmpofkaa
end
section
namespace Go.Proofs.Ytjfkjpbkmpofkaa
open Go.Fw
set_option maxHeartbeats 8000000 in
theorem c_item (s : List UInt8) (at_ : Int) (I : Imm) (hs : s.length ≤ 1048576) : CalM Try.prog 18 #[str s, .int .i64 at_] I [] (ToIt (Sp.item s at_)) := by
  have hT := ok_tokens s hs
  rw [Sp.item_eq]
  generalize hTd : (Sp.Src.mk (Sp.tokens s) s.length) = T at hT ⊢
  have hsz : T.size = s.length := by rw [← hTd]
  have h2 := hT.size
  have h3 := hT.len
  obtain ⟨q, hq⟩ : ∃ q, q = Sp.itemQ T at_ s.length := ⟨_, rfl⟩
  rw [← hq]
  refine CalM.of fun w E hm => enter (N := 79) Try.func18 rfl [(0, str s), (1, .int .i64 at_)] args2 rfl ?_
  repeat' (first
  | (refine wc_midb 0 (fun x : ItX => [(4, ptr b4), (5, ptr b5), (6, ptr b17), (7, nt q.2.i)]) (fun x w' => q.2.i ≤ T.l.length ∧ q.2.ds.length ≤ 1099511626000 ∧ TokR x.I T ta tc ∧ RowI x.I 58 3 (.slice x.ap q.1.params.length x.cp) q.1.params.length (q.1.params.flatMap encPar) ∧ RowI x.I 85 2 (.slice x.as_ q.1.sends.length x.cs) q.1.sends.length (q.1.sends.flatMap encRf) ∧ RowI x.I 113 15 (.slice x.ab q.1.body.length x.cb) q.1.body.length x.xb ∧ StsAt x.I q.1.body x.xb ∧ Mem E x.I [pObj b17 ta tc T q.2.ds 0 x.da x.dc, dgRow q.2.ds x.da x.dc, .cell b5 (itV q.1 x) 38, .cell b4 (itCells 0 [] 0 nil0 nil0 nil0 0 0 0 nil0) 38] w') ?_ ?_)
  | (refine op_call (hc:=by exact c_rtokens s (by omega) _) (k:=?_); rintro tv wt ⟨hto, hkt⟩; rw [Sp.rtokens_eq] at hto; obtain ⟨ta, tc, rfl⟩ := own_val hto; obtain ⟨I1, hle1, hm1, hrow⟩ := hm.take hkt hto; clear hm; have hm := hm1; clear hm1)
  | (refine m_allocS (d:=4) hm (k:=?_); clear hm; intro b4 _ hm)
  | (refine m_varS (d:=5) hm (k:=?_); clear hm; intro b5 _ hm)
  | (refine m_box (d:=17) hm (k:=?_); clear hm; intro b17 _ hm)
  | refine op_move (k:=?_)
  | refine op_assign (k:=?_)
  | refine op_len_str (k:=?_)
  | refine op_struct (k:=?_)
  | refine wl_nil ?_
  | refine at_then_normal ?_
  | refine wc_seq ?_
  | refine wc_region ?_)
  · rename_i wB
    have hr : TokR I1 T ta tc := by rw [← hTd]; exact hrow
    have hm2 : Mem E I1 [pObj b17 ta tc T [] 0 none 0, .cell b5 (itCells 3 [] 0 nil0 nil0 nil0 at_ s.length 0 nil0) 38, .cell b4 (itCells 0 [] 0 nil0 nil0 nil0 0 0 0 nil0) 38] wB := by rw [← hTd]; exact hm
    have hm3 : Mem E I1 [pObj b17 ta tc T [] 0 none 0, dgRow [] none 0, .cell b5 (itCells 3 [] 0 nil0 nil0 nil0 at_ s.length 0 nil0) 38, .cell b4 (itCells 0 [] 0 nil0 nil0 nil0 0 0 0 nil0) 38] wB := (hm2.nil 82 4).swap
    clear hm hm2 hrow hto
    have hm := hm3
    clear hm3
    have hq1 := fun ds deep da dc => c_is (pb := b17) (ds := ds) (deep := deep) (da := da) (dc := dc) 0 [102, 110] hr
    have hq2 := fun ds deep da dc => c_is (pb := b17) (ds := ds) (deep := deep) (da := da) (dc := dc) 0 [99, 104, 97, 110] hr
    rw [Sp.itemQ] at hq
    by_cases hf : T.is 0 [102, 110] = true
    · rw [if_pos hf] at hq
      rw [hf] at hq1
      have hlt := Sp.is_lt hf
      have hfn := fun da dc => c_fn T b17 b5 hT I1 ta tc da dc ⟨1, []⟩ at_ s.length hr hlt rfl
      rw [← hq] at hfn
      repeat' (first
      | (refine m_readC hm (hc:=hq1 _ _ _ _) (k:=?_); clear hm; intro _ hm)
      | (refine m_call hm (hc:=hfn _ _) (k:=?_); clear hm; rintro _ I2 _ _ ⟨hqi, hqd, rfl, ap, cp, as_, cs, ab, cb, xb, da2, dc2, r1, r2, r3, r4, rfl⟩ hle hm; have hleI2 := hle; try simp only [setn] at hm)
      | refine op_move (k:=?_)
      | refine op_assign (k:=?_)
      | refine wl_nil ?_
      | refine at_then_normal ?_
      | refine at_block_normal ?_
      | refine wc_region ?_
      | refine wc_cond_true (ht:=?_))
      exact at_cut (⟨I2, da2, dc2, ap, cp, as_, cs, ab, cb, xb⟩ : ItX) (by exact ⟨rfl, rfl, rfl, rfl, trivial⟩) ⟨hqi, hqd, hr.le hleI2, r1, r2, r3, r4, hm⟩
    rw [if_neg hf] at hq
    rw [show T.is 0 [102, 110] = false by simpa using hf] at hq1
    by_cases hc : T.is 0 [99, 104, 97, 110] = true
    · rw [if_pos hc, Sp.chItm] at hq
      rw [hc] at hq2
      have hlt := Sp.is_lt hc
      dsimp only at hq
      have hnm := fun da dc => c_named (pb := b17) (deep := 0) (da := da) (dc := dc) ⟨1, []⟩ hr hT (by simp) hlt
      have hgn := Sp.goes_named T ⟨1, []⟩
      generalize (⟨1, []⟩ : Sp.St).named T = r at hnm hgn hq
      have hn1 := hgn.le
      have hn2 := hgn.top hlt
      have hn3 := hgn.ds
      dsimp only [List.length_nil] at hn1 hn3
      have hd1 := fun da dc => c_need (pb := b17) (deep := 0) (da := da) (dc := dc) r.2 [58] hr hT (by omega) hn2
      have hg1 := Sp.goes_need T r.2 [58]
      generalize (r.2.need T [58]) = s1 at hd1 hg1 hq
      have k1 := hg1.le
      have k2 := hg1.top hn2
      have k3 := hg1.ds
      have hlb := fun da dc => c_lab (pb := b17) (deep := 0) (da := da) (dc := dc) s1.2 hr hT k2 (by omega)
      have hgl := Sp.goes_lab T s1.2
      generalize Sp.lab T s1.2 = r2 at hlb hgl hq
      have k4 := hgl.le
      have k5 := hgl.top k2
      have k6 := hgl.ds
      have hd2 := fun da dc => c_need (pb := b17) (deep := 0) (da := da) (dc := dc) r2.2 [59] hr hT (by omega) k5
      have hg2 := Sp.goes_need T r2.2 [59]
      generalize (r2.2.need T [59]) = s3 at hd2 hg2 hq
      have k7 := hg2.le
      have k8 := hg2.top k5
      have k9 := hg2.ds
      subst hq
      repeat' (first
      | (refine m_readC hm (hc:=hq1 _ _ _ _) (k:=?_); clear hm; intro _ hm)
      | (refine m_readC hm (hc:=hq2 _ _ _ _) (k:=?_); clear hm; intro _ hm)
      | (refine m_readC hm (hc:=c_T 1 hr) (k:=?_); clear hm; intro _ hm)
      | (refine m_call hm (hc:=hnm _ _) (k:=?_); clear hm; rintro _ _ _ _ ⟨rfl, rfl, da1, dc1, rfl⟩ hle hm; try simp only [setn] at hm)
      | (refine m_call (d:=60) hm (hc:=hd2 _ _) (k:=?_); clear hm; rintro _ _ _ _ ⟨rfl, rfl, da4, dc4, rfl⟩ hle hm; try simp only [setn] at hm)
      | (refine m_call hm (hc:=hd1 _ _) (k:=?_); clear hm; rintro _ _ _ _ ⟨rfl, rfl, da2, dc2, rfl⟩ hle hm; try simp only [setn] at hm)
      | (refine m_call hm (hc:=hlb _ _) (k:=?_); clear hm; rintro _ _ _ _ ⟨rfl, rfl, da3, dc3, rfl⟩ hle hm; try simp only [setn] at hm)
      | (refine m_store1 hm (k:=?_); clear hm; intro _ hm; try simp only [setn] at hm)
      | refine op_move (k:=?_)
      | refine op_assign (k:=?_)
      | refine op_extract (k:=?_)
      | refine op_field1 (k:=?_)
      | refine op_fieldAddr (k:=?_)
      | refine wl_nil ?_
      | refine at_then_normal ?_
      | refine at_block_normal ?_
      | refine wc_seq ?_
      | refine wc_region ?_
      | refine wc_cond_true (ht:=?_)
      | refine wc_cond_false (hf:=?_))
      exact at_cut (⟨I1, da4, dc4, none, 0, none, 0, none, 0, []⟩ : ItX) (by exact ⟨rfl, rfl, rfl, rfl, trivial⟩) ⟨k8, by dsimp only; omega, hr, rowI_nil _ _ _ _ _, rowI_nil _ _ _ _ _, rowI_nil _ _ _ _ _, .nil, hm⟩
    · rw [if_neg hc] at hq
      rw [show T.is 0 [99, 104, 97, 110] = false by simpa using hc] at hq2
      subst hq
      repeat' (first
      | (refine m_readC hm (hc:=hq1 _ _ _ _) (k:=?_); clear hm; intro _ hm)
      | (refine m_readC hm (hc:=hq2 _ _ _ _) (k:=?_); clear hm; intro _ hm)
      | (refine m_call hm (hc:=c_bad 0 2 hr hT (by simp)) (k:=?_); clear hm; rintro _ _ _ _ ⟨rfl, rfl, da2, dc2, rfl⟩ hle hm; try simp only [setn] at hm)
      | refine m_load1 hm (k:=?_)
      | refine op_move (k:=?_)
      | refine op_assign (k:=?_)
      | refine op_len_slice (k:=?_)
      | refine op_nilCheck (k:=?_)
      | refine op_fieldAddr (k:=?_)
      | refine wl_nil ?_
      | refine at_then_normal ?_
      | refine at_block_normal ?_
      | refine wc_seq ?_
      | refine wc_region ?_
      | refine wc_cond_false (hf:=?_))
      exact at_cut (⟨I1, da2, dc2, none, 0, none, 0, none, 0, []⟩ : ItX) (by exact ⟨rfl, rfl, rfl, rfl, trivial⟩) ⟨Nat.le_refl _, by simp [Sp.St.bad], hr, rowI_nil _ _ _ _ _, rowI_nil _ _ _ _ _, rowI_nil _ _ _ _ _, .nil, hm⟩
  clear hm
  rintro ⟨I2, da, dc, ap, cp, as_, cs, ab, cb, xb⟩ w2 ⟨hi, hd, hr, r1, r2, r3, r4, hm⟩
  dsimp only [itV] at hi hd hr r1 r2 r3 r4 hm ⊢
  rw [Sp.itemT]
  by_cases hlt : q.2.i < T.l.length
  · rw [if_pos hlt]
    repeat' (first
    | (refine m_call hm (hc:=c_bad q.2.i 2 hr hT (by omega)) (k:=?_); clear hm; rintro _ _ _ _ ⟨rfl, rfl, da2, dc2, rfl⟩ hle hm; try simp only [setn] at hm)
    | refine m_load1 hm (k:=?_)
    | refine m_loadAll hm (k:=?_)
    | (refine m_storeAll hm (k:=?_); clear hm; intro _ hm; try simp only [setn] at hm)
    | (refine m_store1 hm (k:=?_); clear hm; intro _ hm; try simp only [setn] at hm)
    | refine m_ret_agg hm (h:=?_)
    | refine op_move (k:=?_)
    | refine op_lss (k:=?_)
    | refine op_len_slice (k:=?_)
    | refine op_nilCheck (k:=?_)
    | refine op_fieldAddr (k:=?_)
    | refine wl_nil ?_
    | refine at_then_normal ?_
    | refine wc_seq ?_
    | refine wc_region ?_
    | refine wc_ret ?_
    | (refine wc_cond_dec (ht:=fun _ => ?_) (hf:=fun _ => ?_)<;> (try first | contradiction | (exfalso; omega))))
    all_goals try (exfalso; omega)
    obtain ⟨I3, hle3, hm3, hrow3⟩ := (hm.perm pm1_1).freeze
    exact ⟨I3, [], ⟨_, rfl, ⟨ap, cp, as_, cs, ab, cb, da2, dc2, xb, rfl, r1.le hle3, r2.le hle3, r3.le hle3, StsAt.le hle3 _ _ r4, hrow3⟩, rfl⟩, hm3.left (H := [])⟩
  · rw [if_neg hlt]
    repeat' (first
    | refine m_load1 hm (k:=?_)
    | refine m_loadAll hm (k:=?_)
    | (refine m_storeAll hm (k:=?_); clear hm; intro _ hm; try simp only [setn] at hm)
    | (refine m_store1 hm (k:=?_); clear hm; intro _ hm; try simp only [setn] at hm)
    | refine m_ret_agg hm (h:=?_)
    | refine op_move (k:=?_)
    | refine op_lss (k:=?_)
    | refine op_len_slice (k:=?_)
    | refine op_nilCheck (k:=?_)
    | refine op_fieldAddr (k:=?_)
    | refine wl_nil ?_
    | refine at_then_normal ?_
    | refine wc_seq ?_
    | refine wc_region ?_
    | refine wc_skip ?_
    | refine wc_ret ?_
    | (refine wc_cond_dec (ht:=fun _ => ?_) (hf:=fun _ => ?_)<;> (try first | contradiction | (exfalso; omega))))
    all_goals try (exfalso; omega)
    obtain ⟨I3, hle3, hm3, hrow3⟩ := (hm.perm pm1_1).freeze
    exact ⟨I3, [], ⟨_, rfl, ⟨ap, cp, as_, cs, ab, cb, da, dc, xb, rfl, r1.le hle3, r2.le hle3, r3.le hle3, StsAt.le hle3 _ _ r4, hrow3⟩, rfl⟩, hm3.left (H := [])⟩
end Go.Proofs.Ytjfkjpbkmpofkaa
end
