/- Own work: texts FlG, FlH, FlI, FlJ, FwCut3, FwApp2, one behind the other. -/
import Derived.Test.YthmdffgiockcbaaGreatDoorRb31
section
namespace Go.Proofs.YthmdffgiockcbaaGreatDoor
open Go.Fw
theorem FSt_snoc (bc bf : Nat) (pi : Value) (sc : List Sp.Lc) (sa : Option Addr) (sp : Nat) (s : Sp.FW) (n : List UInt8) (x : Nat) (da : Option Addr) (dp : Nat) (vf : Value) (at_ : Int) :
    [.obj bc (.cells [ptr bf, pi, .slice sa (sc.length + 1) sp, .slice da s.ds.length dp, vf, .int .i64 at_, .bool s.hv.isSome, nt (s.hv.getD 0)].toArray 164 (0, 0)), .row (.slice sa (sc.length + 1) sp) 194 2 (sc.length + 1) (sc.flatMap encLc ++ encLc ⟨n, x⟩), dgRow s.ds da dp] = FSt bc bf pi (sc ++ [⟨n, x⟩]) sa sp s da dp vf at_ := by
  simp [List.flatMap_append]
section
variable {its : List Sp.Itm} {it : Sp.Itm} {bc bf : Nat} {a : Option Addr} {cp : Nat} {xs : List Value} {pi vf : Value} {at_ : Int}
set_option maxHeartbeats 32000000 in
theorem f_stmt (x : Sp.Stm) (hsm : x.small) (hlb : x.label < 256) (hT : BlkOk its it bc bf a cp xs pi vf at_ x.thn) (hL : BlkOk its it bc bf a cp xs pi vf at_ x.els) : StmOk its it bc bf a cp xs pi vf at_ x := by
  intro I b o tc cs un sc s sa sp da dp hun hsl hn1 hn2 hC hp hx
  obtain ⟨s1, s2, s3, s4, s5⟩ := Sp.small_parts hsm
  have hcnt := Sp.Stm.cnt_eq x
  refine CalM.of fun w E hm => enter (N := 136) Tryz.func137 rfl [(0, ptr bc), (1, .pointer (some ⟨b, o, none⟩)), (2, nt un)] args3 rfl ?_
  obtain ⟨ea, ec, ex, a1, c1, xs1, a2, c2, xs2, rfl, hr3, hx3, hr4, hx4, hr5, hx5⟩ := hx.out
  have hpe := hp.sub (cs' := exCells x.e ea ec) 5 (fun j u hj => by
    match j, hj with
    | 0, hj => exact hj
    | 1, hj => exact hj
    | 2, hj => exact hj
    | 3, hj => exact hj
    | 4, hj => exact hj
    | 5, hj => exact hj
    | j + 6, hj => cases hj)
  rw [Sp.stmF_eq]
  have hu1 := Sp.unF_lt hC.lab hsl x.kind hun x.e
  have hur : Sp.unF its sc x.kind un x.e = if x.kind = 4 then Sp.plainF its sc x.e ||| un else un := rfl
  generalize Sp.unF its sc x.kind un x.e = un1 at hu1 hur ⊢
  repeat' (first|(refine wc_cut_regH 0 (fun _ : FX => [(0, ptr bc), (1, .pointer (some ⟨b, o, none⟩)), (2, nt un1)]) (fun x w' => Mem E I (FSt bc bf pi sc sa sp s da dp vf at_) w') ?_ ?_))
  · refine ⟨?_⟩
    by_cases k4 : x.kind = 4
    · rw [if_pos k4] at hur
      subst hur
      have hpl := Sp.plainF_lt hC.lab hsl x.e
      have hg := CalR.flow (I := I) (bc := bc) (bf := bf) (pi := pi) (sc := sc) (sa := sa) (sp := sp) (s := s) (da := da) (dp := dp) (vf := vf) (at_ := at_) (fun J m h => f_plain0 (by omega) hsl _ x.e (Nat.le_refl _) s1 J b (o + 5) tc ea ec ex h (hC.le m) (hpe.le m) (hr3.le m) (ExsAt.le m _ _ hx3))
      repeat' (first|(refine m_readC (d:=18) hm (hs:=sub3_0) (hc:=by exact hg) (k:=?_); clear hm; intro _ hm)|(refine op_call (d:=20) (hc:=by exact c_join _ _ hpl hun _) (k:=?_); rintro _ _ ⟨rfl, rfl⟩)|refine i_load1 hm (k:=?_)|refine op_move (k:=?_)|refine op_assign (k:=?_)|refine op_eql (k:=?_)|refine op_nilCheck (k:=?_)|refine op_fieldAddr (k:=?_)|refine wl_nil ?_|refine at_then_normal ?_|refine wc_seq ?_|refine wc_region ?_|(refine wc_cond_dec (ht:=fun _ => ?_) (hf:=fun _ => ?_)<;> (try first | contradiction | (exfalso; omega))))
      all_goals try (exfalso; omega)
      exact at_cut (⟨0, I, sa, sp, da, dp⟩ : FX) (by exact ⟨rfl, rfl, rfl, trivial⟩) hm
    · rw [if_neg k4] at hur
      subst hur
      repeat' (first|refine i_load1 hm (k:=?_)|refine op_move (k:=?_)|refine op_eql (k:=?_)|refine op_nilCheck (k:=?_)|refine op_fieldAddr (k:=?_)|refine wl_nil ?_|refine at_then_normal ?_|refine wc_seq ?_|refine wc_region ?_|refine wc_skip ?_|(refine wc_cond_dec (ht:=fun _ => ?_) (hf:=fun _ => ?_)<;> (try first | contradiction | (exfalso; omega))))
      all_goals try (exfalso; omega)
      exact at_cut (⟨0, I, sa, sp, da, dp⟩ : FX) (by exact ⟨rfl, rfl, rfl, trivial⟩) hm
  clear hm hur
  rintro ⟨_, _, _, _, _, _⟩ w1 hm
  try dsimp only at hm ⊢
  have hE := f_expr (its := its) (it := it) (bc := bc) (bf := bf) (a := a) (cp := cp) (xs := xs) (pi := pi) (vf := vf) (at_ := at_) hu1 (by omega) hsl _ x.e (Nat.le_refl _) s1 I b (o + 5) tc ea ec ex s sa sp da dp (by omega) hC hpe hr3 hx3
  have hl1 := Sp.exF_lt hC.lab at_ hsl un1 x.e s
  have hnx := Sp.exF_n its at_ sc un1 x.e s
  generalize Sp.exF its at_ sc un1 x.e s = r at hE hl1 hnx ⊢
  have hl2 := Sp.or_lt hl1 hu1
  obtain ⟨av, hav⟩ : ∃ av, av = r.1 ||| un1 := ⟨_, rfl⟩
  rw [← hav] at hl2 ⊢
  have hJ := c_join r.1 un1 hl1 hu1
  rw [← hav] at hJ
  have hto := fun (J : Imm) (m : Le I J) (c : Nat) (hc : c < 256) (sa : Option Addr) (sp : Nat) (da : Option Addr) (dp : Nat) => f_to (I := J) (bc := bc) (bf := bf) (pi := pi) (sc := sc) (sa := sa) (sp := sp) (s := r.2) (da := da) (dp := dp) (vf := vf) (at_ := at_) x b o tc _ (hp.le m) (StAt.le m _ _ hx) av c hl2 hc (by omega)
  rw [Sp.coreStm]
  by_cases k1 : x.kind = 1
  · rw [if_pos k1]
    cases ho : x.opn with
    | true =>
      rw [ho] at hp
      simp only [if_true]
      have hto1 := fun (J : Imm) (m : Le I J) (sa : Option Addr) (sp : Nat) (da : Option Addr) (dp : Nat) => hto J m av hl2 sa sp da dp
      generalize hs6 : Sp.FW.ask r.2 av av x.fr x.to x.name = s6 at hto1 ⊢
      repeat' (first|(refine m_call (d:=26) hm (hc:=hE) (k:=?_); clear hm; rintro _ I2 _ _ ⟨rfl, sa2, sp2, da2, dp2, rfl⟩ hle hm; have hleI2 := hle; try simp only [setn] at hm; have hp2 := hp.le hleI2)|(refine op_call (d:=28) (hc:=by exact hJ _) (k:=?_); rintro _ _ ⟨rfl, rfl⟩)|(refine m_call (d:=48) hm (hc:=hto1 I2 hleI2 sa2 sp2 da2 dp2) (k:=?_); clear hm; rintro _ I3 _ _ ⟨rfl, sa3, sp3, da3, dp3, rfl⟩ hle hm; have hleI3 := hle; try simp only [setn] at hm; have hp3 := hp2.le hleI3)|(refine wc_semi_mem (id:=9) (hm.perm pm1_1) 11 13 (h:=?_); clear hm; intro wd hR hm)|refine mw_load1 hR (k:=?_)|refine iw_load1 hR (k:=?_)|(refine mt_push (d:=61) hm (k:=?_); clear hm; intro a61 cp61 _ _ hm; replace hm := hR.back hm; clear hR; try simp only [setn] at hm)|refine i_load1 hm (k:=?_)|(refine m_store1 hm (k:=?_); clear hm; intro _ hm; try simp only [setn] at hm)|refine op_move (k:=?_)|refine op_assign (k:=?_)|refine op_eql (k:=?_)|refine op_nilCheck (k:=?_)|refine op_fieldAddr (k:=?_)|refine wl_nil ?_|refine at_then_normal ?_|refine at_block_normal ?_|refine wc_seq ?_|refine wc_region ?_|refine wc_block ?_|refine at_end0 (h:=?_)|refine wc_cond_true (ht:=?_)|(refine wc_cond_dec (ht:=fun _ => ?_) (hf:=fun _ => ?_)<;> (try first | contradiction | (exfalso; omega)))|refine v_move (k:=?_)|refine v_nilCheck (k:=?_)|refine v_fieldAddr (k:=?_)|refine v_struct (k:=?_)|refine wv_nil ?_)
      all_goals try (exfalso; omega)
      exact ⟨I3, _, ⟨rfl, _, _, _, _, FSt_snoc _ _ _ _ _ _ _ _ _ _ _ _ _⟩, hm.swap⟩
    | false =>
      rw [ho] at hp
      simp only [Bool.false_eq_true, if_false]
      have hto1 := fun (J : Imm) (m : Le I J) (sa : Option Addr) (sp : Nat) (da : Option Addr) (dp : Nat) => hto J m x.label hlb sa sp da dp
      generalize hs6 : Sp.FW.ask r.2 av x.label x.fr x.to x.name = s6 at hto1 ⊢
      repeat' (first|(refine m_call (d:=26) hm (hc:=hE) (k:=?_); clear hm; rintro _ I2 _ _ ⟨rfl, sa2, sp2, da2, dp2, rfl⟩ hle hm; have hleI2 := hle; try simp only [setn] at hm; have hp2 := hp.le hleI2)|(refine op_call (d:=28) (hc:=by exact hJ _) (k:=?_); rintro _ _ ⟨rfl, rfl⟩)|(refine m_call (d:=48) hm (hc:=hto1 I2 hleI2 sa2 sp2 da2 dp2) (k:=?_); clear hm; rintro _ I3 _ _ ⟨rfl, sa3, sp3, da3, dp3, rfl⟩ hle hm; have hleI3 := hle; try simp only [setn] at hm; have hp3 := hp2.le hleI3)|(refine wc_semi_mem (id:=9) (hm.perm pm1_1) 11 13 (h:=?_); clear hm; intro wd hR hm)|refine mw_load1 hR (k:=?_)|refine iw_load1 hR (k:=?_)|(refine mt_push (d:=61) hm (k:=?_); clear hm; intro a61 cp61 _ _ hm; replace hm := hR.back hm; clear hR; try simp only [setn] at hm)|refine i_load1 hm (k:=?_)|(refine m_store1 hm (k:=?_); clear hm; intro _ hm; try simp only [setn] at hm)|refine op_move (k:=?_)|refine op_assign (k:=?_)|refine op_eql (k:=?_)|refine op_nilCheck (k:=?_)|refine op_fieldAddr (k:=?_)|refine wl_nil ?_|refine at_then_normal ?_|refine at_block_normal ?_|refine wc_seq ?_|refine wc_region ?_|refine wc_block ?_|refine wc_skip ?_|refine at_end0 (h:=?_)|refine wc_cond_false (hf:=?_)|(refine wc_cond_dec (ht:=fun _ => ?_) (hf:=fun _ => ?_)<;> (try first | contradiction | (exfalso; omega)))|refine v_move (k:=?_)|refine v_nilCheck (k:=?_)|refine v_fieldAddr (k:=?_)|refine v_struct (k:=?_)|refine wv_nil ?_)
      all_goals try (exfalso; omega)
      exact ⟨I3, _, ⟨rfl, _, _, _, _, FSt_snoc _ _ _ _ _ _ _ _ _ _ _ _ _⟩, hm.swap⟩
  rw [if_neg k1]
  by_cases k2 : x.kind = 2
  · rw [if_pos k2]
    have hg := fun (J : Imm) (sa : Option Addr) (sp : Nat) (da : Option Addr) (dp : Nat) => CalR.flow (I := J) (bc := bc) (bf := bf) (pi := pi) (sc := sc) (sa := sa) (sp := sp) (s := r.2) (da := da) (dp := dp) (vf := vf) (at_ := at_) (fun J m h => f_get0 x.name (by omega) h)
    have hgl := Sp.getF_lt hsl x.name
    repeat' (first|(refine m_call (d:=26) hm (hc:=hE) (k:=?_); clear hm; rintro _ I2 _ _ ⟨rfl, sa2, sp2, da2, dp2, rfl⟩ hle hm; have hleI2 := hle; try simp only [setn] at hm; have hp2 := hp.le hleI2; have hCf2 := hC.file.le hleI2)|(refine op_call (d:=28) (hc:=by exact hJ _) (k:=?_); rintro _ _ ⟨rfl, rfl⟩)|(refine m_readC (d:=74) hm (hs:=sub3_0) (hc:=by exact hg I2 sa2 sp2 da2 dp2) (k:=?_); clear hm; intro _ hm)|(refine m_call (d:=75) hm (hc:=hto I2 hleI2 _ hgl sa2 sp2 da2 dp2) (k:=?_); clear hm; rintro _ I3 _ _ ⟨rfl, sa3, sp3, da3, dp3, rfl⟩ hle hm; have hleI3 := hle; try simp only [setn] at hm)|refine i_load1 hm (k:=?_)|refine op_move (k:=?_)|refine op_assign (k:=?_)|refine op_eql (k:=?_)|refine op_nilCheck (k:=?_)|refine op_fieldAddr (k:=?_)|refine wl_nil ?_|refine at_then_normal ?_|refine at_block_normal ?_|refine wc_seq ?_|refine wc_region ?_|refine wc_block ?_|refine at_end0 (h:=?_)|(refine wc_cond_dec (ht:=fun _ => ?_) (hf:=fun _ => ?_)<;> (try first | contradiction | (exfalso; omega))))
    all_goals try (exfalso; omega)
    exact ⟨I3, _, ⟨rfl, _, _, _, _, rfl⟩, hm⟩
  rw [if_neg k2]
  by_cases k5 : x.kind = 5
  · rw [if_pos k5]
    have hfind := fun (J : Imm) (m : Le I J) => (n_find 1 x.name its J a cp xs (hC.fe.le m)).read
    rw [Sp.askCh]
    cases hf : Sp.findIt its 1 x.name with
    | none =>
      rw [Sp.findV_none hf] at hfind
      repeat' (first|(refine m_call (d:=26) hm (hc:=hE) (k:=?_); clear hm; rintro _ I2 _ _ ⟨rfl, sa2, sp2, da2, dp2, rfl⟩ hle hm; have hleI2 := hle; try simp only [setn] at hm; have hp2 := hp.le hleI2; have hCf2 := hC.file.le hleI2)|(refine op_call (d:=28) (hc:=by exact hJ _) (k:=?_); rintro _ _ ⟨rfl, rfl⟩)|(refine mq_readC (d:=88) hm (hc:=hfind I2 hleI2) (k:=?_))|refine i_load1 hm (k:=?_)|refine mq_load1 hm (k:=?_)|refine iq_load1 hm (k:=?_)|refine iq_loadN hm (k:=?_)|refine op_move (k:=?_)|refine op_assign (k:=?_)|refine op_geq (k:=?_)|refine op_eql (k:=?_)|refine op_nilCheck (k:=?_)|refine op_fieldAddr (k:=?_)|refine wl_nil ?_|refine at_then_normal ?_|refine at_block_normal ?_|refine wc_seq ?_|refine wc_region ?_|refine wc_block ?_|refine wc_skip ?_|refine at_end0 (h:=?_)|refine wc_quiet (h:=?_)|(refine wq_nil ?_; intro _ hkq; replace hm := hm.kept0 hkq; clear hkq)|refine wc_cond_false (hf:=?_)|(refine wc_cond_dec (ht:=fun _ => ?_) (hf:=fun _ => ?_)<;> (try first | contradiction | (exfalso; omega)))|refine q_move (k:=?_)|refine q_assign (k:=?_)|refine q_nilCheck (k:=?_)|refine q_fieldAddr (k:=?_))
      all_goals try (exfalso; omega)
      exact ⟨I2, _, ⟨rfl, _, _, _, _, rfl⟩, hm⟩
    | some j =>
      rw [Sp.findV_some hf] at hfind
      obtain ⟨hj, _, _, _, hmemj⟩ := Sp.findIt_lt hf
      obtain ⟨ci, hci, hat, hlc⟩ := hC.fe.get (Sp.itNo_get hj)
      obtain ⟨pa, pc, sa9, sc9, ba, bc9, da9, dc9, xb, rfl, _⟩ := hat
      have hjl := (hC.lab _ hmemj).1
      have hri := hC.fe.row
      have hfew := hC.fe.few
      repeat' (first|(refine m_call (d:=26) hm (hc:=hE) (k:=?_); clear hm; rintro _ I2 _ _ ⟨rfl, sa2, sp2, da2, dp2, rfl⟩ hle hm; have hleI2 := hle; try simp only [setn] at hm; have hp2 := hp.le hleI2; have hCf2 := hC.file.le hleI2)|(refine op_call (d:=28) (hc:=by exact hJ _) (k:=?_); rintro _ _ ⟨rfl, rfl⟩)|(refine mq_readC (d:=88) hm (hc:=hfind I2 hleI2) (k:=?_))|(refine i_indexAddr (d:=102) (hr:=hri.le hleI2) (k:=?_); intro bu ou hpu; rw [show ((j : Int).toNat * 10) = j * 10 from rfl, hci] at hpu)|(refine m_call (d:=105) hm (hc:=hto I2 hleI2 _ hjl sa2 sp2 da2 dp2) (k:=?_); clear hm; rintro _ I3 _ _ ⟨rfl, sa3, sp3, da3, dp3, rfl⟩ hle hm; have hleI3 := hle; try simp only [setn] at hm)|refine m_load1 hm (k:=?_)|refine i_load1 hm (k:=?_)|refine mq_load1 hm (k:=?_)|refine iq_load1 hm (k:=?_)|refine iq_loadN hm (k:=?_)|refine op_move (k:=?_)|refine op_assign (k:=?_)|refine op_geq (k:=?_)|refine op_eql (k:=?_)|refine op_nilCheck (k:=?_)|refine op_fieldAddr (k:=?_)|refine wl_nil ?_|refine at_then_normal ?_|refine at_block_normal ?_|refine wc_seq ?_|refine wc_region ?_|refine wc_block ?_|refine at_end0 (h:=?_)|refine wc_quiet (h:=?_)|(refine wq_nil ?_; intro _ hkq; replace hm := hm.kept0 hkq; clear hkq)|refine wc_cond_true (ht:=?_)|(refine wc_cond_dec (ht:=fun _ => ?_) (hf:=fun _ => ?_)<;> (try first | contradiction | (exfalso; omega)))|refine q_move (k:=?_)|refine q_assign (k:=?_)|refine q_nilCheck (k:=?_)|refine q_fieldAddr (k:=?_))
      all_goals try (exfalso; omega)
      exact ⟨I3, _, ⟨rfl, _, _, _, _, rfl⟩, hm⟩
  rw [if_neg k5]
  by_cases k6 : x.kind = 6
  · rw [if_pos k6]
    obtain ⟨bi, oi, tci, ci, rfl, hpi, hati⟩ := hC.item
    obtain ⟨pa, pc, sa9, sc9, ba, bc9, da9, dc9, xb, rfl, _⟩ := hati
    repeat' (first|(refine m_call (d:=26) hm (hc:=hE) (k:=?_); clear hm; rintro _ I2 _ _ ⟨rfl, sa2, sp2, da2, dp2, rfl⟩ hle hm; have hleI2 := hle; try simp only [setn] at hm; have hp2 := hp.le hleI2; have hpi2 := hpi.le hleI2; have hCf2 := hC.file.le hleI2)|(refine op_call (d:=28) (hc:=by exact hJ _) (k:=?_); rintro _ _ ⟨rfl, rfl⟩)|(refine m_call (d:=118) hm (hc:=hto I2 hleI2 _ hC.own sa2 sp2 da2 dp2) (k:=?_); clear hm; rintro _ I3 _ _ ⟨rfl, sa3, sp3, da3, dp3, rfl⟩ hle hm; have hleI3 := hle; try simp only [setn] at hm)|refine m_load1 hm (k:=?_)|refine i_load1 hm (k:=?_)|refine op_move (k:=?_)|refine op_assign (k:=?_)|refine op_eql (k:=?_)|refine op_nilCheck (k:=?_)|refine op_fieldAddr (k:=?_)|refine wl_nil ?_|refine at_then_normal ?_|refine at_block_normal ?_|refine wc_seq ?_|refine wc_region ?_|refine wc_block ?_|refine at_end0 (h:=?_)|(refine wc_cond_dec (ht:=fun _ => ?_) (hf:=fun _ => ?_)<;> (try first | contradiction | (exfalso; omega))))
    all_goals try (exfalso; omega)
    exact ⟨I3, _, ⟨rfl, _, _, _, _, rfl⟩, hm⟩
  rw [if_neg k6]
  by_cases k34 : x.kind = 3 ∨ x.kind = 4
  · rw [if_pos k34]
    have hb1 := fun (J : Imm) (m : Le I J) (sa : Option Addr) (sp : Nat) (da : Option Addr) (dp : Nat) => hT J a1 c1 xs1 av sc r.2 sa sp da dp hl2 hsl (by omega) (by omega) (hC.le m) (hr4.le m) (StsAt.le m _ _ hx4)
    have hnn := Sp.stmsF_n its it.label at_ x.thn sc av r.2
    generalize Sp.stmsF its it.label at_ x.thn sc av r.2 = r7 at hb1 hnn ⊢
    have hb2 := fun (J : Imm) (m : Le I J) (sa : Option Addr) (sp : Nat) (da : Option Addr) (dp : Nat) => hL J a2 c2 xs2 av sc r7.2 sa sp da dp hl2 hsl (by omega) (by omega) (hC.le m) (hr5.le m) (StsAt.le m _ _ hx5)
    repeat' (first|(refine m_call (d:=26) hm (hc:=hE) (k:=?_); clear hm; rintro _ I2 _ _ ⟨rfl, sa2, sp2, da2, dp2, rfl⟩ hle hm; have hleI2 := hle; try simp only [setn] at hm; have hp2 := hp.le hleI2; have hCf2 := hC.file.le hleI2)|(refine op_call (d:=28) (hc:=by exact hJ _) (k:=?_); rintro _ _ ⟨rfl, rfl⟩)|(refine m_call (d:=128) hm (hc:=hb1 I2 hleI2 sa2 sp2 da2 dp2) (k:=?_); clear hm; rintro _ I3 _ _ ⟨rfl, sa3, sp3, da3, dp3, rfl⟩ hle hm; have hleI3 := hle; try simp only [setn] at hm; have hp3 := hp2.le hleI3)|(refine m_call (d:=135) hm (hc:=hb2 I3 (hleI2.trans hleI3) sa3 sp3 da3 dp3) (k:=?_); clear hm; rintro _ I4 _ _ ⟨rfl, sa4, sp4, da4, dp4, rfl⟩ hle hm; have hleI4 := hle; try simp only [setn] at hm)|refine i_load1 hm (k:=?_)|refine op_move (k:=?_)|refine op_assign (k:=?_)|refine op_eql (k:=?_)|refine op_nilCheck (k:=?_)|refine op_fieldAddr (k:=?_)|refine wl_nil ?_|refine at_then_normal ?_|refine at_block_normal ?_|refine wc_seq ?_|refine wc_region ?_|refine wc_block ?_|refine wc_skip ?_|refine at_end0 (h:=?_)|(refine wc_cond_dec (ht:=fun _ => ?_) (hf:=fun _ => ?_)<;> (try first | contradiction | (exfalso; omega))))
    all_goals try (exfalso; omega)
    all_goals exact ⟨I4, _, ⟨rfl, _, _, _, _, rfl⟩, hm⟩
  · rw [if_neg k34]
    repeat' (first|(refine m_call (d:=26) hm (hc:=hE) (k:=?_); clear hm; rintro _ I2 _ _ ⟨rfl, sa2, sp2, da2, dp2, rfl⟩ hle hm; have hleI2 := hle; try simp only [setn] at hm; have hp2 := hp.le hleI2; have hCf2 := hC.file.le hleI2)|(refine op_call (d:=28) (hc:=by exact hJ _) (k:=?_); rintro _ _ ⟨rfl, rfl⟩)|refine i_load1 hm (k:=?_)|refine op_move (k:=?_)|refine op_assign (k:=?_)|refine op_eql (k:=?_)|refine op_nilCheck (k:=?_)|refine op_fieldAddr (k:=?_)|refine wl_nil ?_|refine at_then_normal ?_|refine at_block_normal ?_|refine wc_seq ?_|refine wc_region ?_|refine wc_block ?_|refine wc_skip ?_|refine at_end0 (h:=?_)|(refine wc_cond_dec (ht:=fun _ => ?_) (hf:=fun _ => ?_)<;> (try first | contradiction | (exfalso; omega))))
    all_goals try (exfalso; omega)
    exact ⟨I2, _, ⟨rfl, _, _, _, _, rfl⟩, hm⟩
end
end Go.Proofs.YthmdffgiockcbaaGreatDoor
end
section
namespace Go.Sp
theorem floors_take {its : List Itm} {k : Nat} {it : Itm} (h : its[k]? = some it) : (floorsF its).take (k + 1) = (floorsF its).take k ++ [meetF its it.sends] :=
  take_succ_get (by rw [floorsF, List.getElem?_map, h]; rfl)
theorem meet_step {its : List Itm} {l : List Rf} {j : Nat} {x : Rf} (h : l[j]? = some x) : meetF its (l.take (j + 1)) = meetStep its (meetF its (l.take j)) x := by
  rw [take_succ_get h, meetF, List.foldl_append]; rfl
theorem parsF_take {l : List Par} {k : Nat} {p : Par} (h : l[k]? = some p) : parsF (l.take (k + 1)) = parsF (l.take k) ++ [⟨p.name, p.label⟩] := by
  rw [take_succ_get h, parsF, List.map_append]; rfl
structure ItF (it : Itm) : Prop where
  small : it.small
  body : stmsAll anyP labS it.body
  cnt : stmsCnt it.body ≤ 400000000
end Go.Sp
namespace Go.Fw
open Go
theorem mt_box {P : Program} {N : Nat} {ds : List Deferred} {Q : Exit → Act → World → Prop} {l : Log} {w w0 : World} {ops : Array Oper} {os' tail : List Oper} {d : Nat} {ty : TypeId} {pos : String} {af : Array Edge} {g : Option (Nat × Bool)} {t : TypeId} {x : Operand}
    {X : List Nat} {I0 I : Imm} {H : List HItem} {v : Value} {vs : List Value} (hm : Mem ⟨w0, X, I0⟩ I H w) (hw : want ops l ⟨some d, .box t x, ty, pos, af, g⟩ = some true := by rfl) (hN : Nat.blt d N = true := by rfl) (hx : ev l x = some v := by rfl) (hv : v.cells = vs.toArray := by rfl)
    (k : ∀ b w', Mem ⟨w0, X, I0⟩ I (.obj b (.cells vs.toArray t (0, 0)) :: H) w' → WS P N ds ops Q X w0 os' tail ((d, .pointer (some ⟨b, 0, none⟩)) :: l) w') :
    WS P N ds ops Q X w0 (⟨some d, .box t x, ty, pos, af, g⟩ :: os') tail l w := by
  have hk := Kept.alloc w (.cells v.cells t (0, 0))
  have hm' := hm.add (x := .obj w.heap.size (.cells vs.toArray t (0, 0))) hk (by rw [← hv]; exact heap_alloc_new w _) (fun b hb => by simp only [HItem.blk, Option.some.injEq] at hb; omega)
  refine ws_value (w' := w.alloc (.cells v.cells t (0, 0))) (v := .pointer (some ⟨w.heap.size, 0, none⟩)) rfl hw hN (fun a ha => ?_) hm'.kept (k _ _ hm')
  simp [execOp, Instr.box, newVar, newRow, newObj, ha.ev hx]; rfl
end Go.Fw
namespace Go.Proofs.YthmdffgiockcbaaGreatDoor
open Go.Fw
section
variable {its : List Sp.Itm} {it : Sp.Itm} {bc bf : Nat} {a : Option Addr} {cp : Nat} {xs : List Value} {pi vf : Value} {at_ : Int}
theorem f_blk : ∀ (n : Nat) (l : List Sp.Stm), SizeOf.sizeOf l ≤ n → l.length ≤ 64 → Sp.stmsSmall l → Sp.stmsAll Sp.anyP Sp.labS l → BlkOk its it bc bf a cp xs pi vf at_ l := by
  intro n
  induction n with
  | zero => intro l h; cases l <;> simp at h
  | succ n ih =>
  intro l hsz hll hsm hal
  refine f_block l hll hal (fun y hy => ?_)
  obtain ⟨j, hj, rfl⟩ := List.getElem_of_mem hy
  have hg := List.getElem?_eq_getElem hj
  have h1 := Sp.stmsSmall_get hsm hg
  have h2 := Sp.Stm.all_node (Sp.stmsAll_get hal hg)
  have h3 := Sp.sizeL_mem (List.getElem_mem hj)
  generalize l[j] = y at h1 h2 h3
  obtain ⟨s1, s2, s3, s4, s5⟩ := Sp.small_parts h1
  obtain ⟨z1, z2⟩ := Sp.size_thn (s := y)
  exact f_stmt y h1 h2.1 (ih y.thn (by omega) s2 s3 h2.2.2.1) (ih y.els (by omega) s4 s5 h2.2.2.2)
set_option maxHeartbeats 16000000 in
theorem f_floors (I : Imm) (h : FE I its a cp xs) (hlab : Sp.itLab its) (hsm : ∀ x ∈ its, x.small) :
    CalM Tryz.prog 114 #[.agg [.slice a its.length cp].toArray] I [] (fun v I' H' => H' = [] ∧ ∃ fa fp, v = .slice fa its.length fp ∧ RowI I' 3 1 (.slice fa its.length fp) its.length ((Sp.floorsF its).flatMap encInt)) := by
  refine CalM.of fun w E hm => enter (N := 45) Tryz.func114 rfl [(0, .agg [.slice a its.length cp].toArray)] args1 rfl ?_
  have hfew := h.few
  have hfl : (Sp.floorsF its).length = its.length := by simp [Sp.floorsF]
  repeat' (first|(refine m_box (d:=1) hm (k:=?_); clear hm; intro b1 _ hm)|refine m_load1 hm (k:=?_)|refine op_move (k:=?_)|refine op_assign (k:=?_)|refine op_len_slice (k:=?_)|refine op_fieldAddr (k:=?_)|refine wl_nil ?_|refine at_then_normal ?_|refine wc_seq ?_|refine wc_region ?_|refine wc_block ?_)
  refine wc_loop (fun x : FX => [(1, ptr b1), (3, .slice x.sa x.k x.sp), (11, .slice a its.length cp), (12, nt its.length), (13, nt x.k)])
    (fun x w' => Mem E x.I [.row (.slice x.sa x.k x.sp) 3 1 x.k (((Sp.floorsF its).take x.k).flatMap encInt), .cell b1 [.slice a its.length cp] 25] w' ∧ Le I x.I ∧ x.k ≤ its.length) (fun x => its.length - x.k) ⟨0, I, none, 0, none, 0⟩
    (by exact ⟨rfl, rfl, rfl, rfl, rfl, trivial⟩) ⟨hm.nil 3 1, Le.refl _, Nat.zero_le _⟩ ?_
  clear hm
  rintro ⟨k, I1, sa1, sp1, da1, dp1⟩ w1 ⟨hm, hle1, hk⟩
  dsimp only at hm hle1 hk ⊢
  by_cases hlt : k < its.length
  · have hg : its[k]? = some its[k] := List.getElem?_eq_getElem hlt
    obtain ⟨ci, hci, hat, hlc⟩ := (h.le hle1).get hg
    have hri := (h.le hle1).row
    have hsk := (hsm _ (List.getElem_mem hlt)).sends
    have hft := Sp.floors_take hg
    generalize its[k] = it at hg hat hsk hft
    obtain ⟨pa, pc, sa9, sc9, ba, bc9, da9, dc9, xb, rfl, _, hsnd, _⟩ := hat
    repeat' (first|(refine i_indexAddr (d:=15) (hr:=hri) (k:=?_); intro bt ot hpt; rw [show ((k : Int).toNat * 10) = k * 10 from rfl, hci] at hpt)|(refine m_varS (d:=5) hm (k:=?_); clear hm; intro b5 _ hm)|refine m_load1 hm (k:=?_)|refine i_loadN hm (k:=?_)|refine op_move (k:=?_)|refine op_assign (k:=?_)|refine op_lss (k:=?_)|refine op_len_slice (k:=?_)|refine op_fieldAddr (k:=?_)|refine wl_nil ?_|refine at_then_normal ?_|refine wc_seq ?_|refine wc_region ?_|refine wc_block ?_|refine wc_skip ?_|(refine wc_cond_dec (ht:=fun _ => ?_) (hf:=fun _ => ?_)<;> (try first | contradiction | (exfalso; omega))))
    all_goals try (exfalso; omega)
    refine wc_loop (fun y : NI => [(1, ptr b1), (3, .slice sa1 k sp1), (6, nt (Sp.meetF its (it.sends.take y.k))), (11, .slice a its.length cp), (12, nt its.length), (13, nt k), (18, .slice sa9 it.sends.length sc9), (19, nt it.sends.length), (20, nt y.k)])
      (fun y w' => Mem E y.I [.cell b5 (itCells it.kind it.name it.label (.slice pa it.params.length pc) (.slice sa9 it.sends.length sc9) (.slice ba it.body.length bc9) it.at_ it.size it.mark (.slice da9 it.diags.length dc9)) 47, .row (.slice sa1 k sp1) 3 1 k (((Sp.floorsF its).take k).flatMap encInt), .cell b1 [.slice a its.length cp] 25] w' ∧ Le I1 y.I ∧ y.k ≤ it.sends.length)
      (fun y => it.sends.length - y.k) ⟨0, I1⟩ (by exact ⟨rfl, rfl, rfl, rfl, rfl, rfl, rfl, rfl, rfl, trivial⟩) ⟨hm, Le.refl _, Nat.zero_le _⟩ ?_
    clear hm
    rintro ⟨j, I2⟩ w2 ⟨hm, hle2, hj⟩
    dsimp only at hm hle2 hj ⊢
    by_cases hjl : j < it.sends.length
    · have hgs : it.sends[j]? = some it.sends[j] := List.getElem?_eq_getElem hjl
      generalize it.sends[j] = q at hgs
      have hst := Sp.meet_step (its := its) hgs
      have hml := Sp.meetF_lt its (it.sends.take j)
      rw [Sp.meetStep] at hst
      generalize Sp.meetF its (it.sends.take j) = m at hst hml ⊢
      have hfind := (n_find 1 q.name its I2 a cp xs ((h.le hle1).le hle2)).read
      cases hf : Sp.findIt its 1 q.name with
      | none =>
        rw [hf] at hst
        rw [Sp.findV_none hf] at hfind
        repeat' (first|(refine i_indexFlat (d:=22) (enc:=encRf) (z:=q) (hr:=hsnd.le hle2) (he:=fun _ => rfl) (hz:=by exact hgs) (k:=?_); intro bz oz hpz)|(refine m_readC (d:=27) hm (hc:=hfind) (k:=?_); clear hm; intro _ hm)|(refine m_varS (d:=8) hm (k:=?_); clear hm; intro b8 _ hm)|refine m_load1 hm (k:=?_)|refine m_loadAll hm (k:=?_)|refine i_loadN hm (k:=?_)|refine op_move (k:=?_)|refine op_assign (k:=?_)|refine op_lss (k:=?_)|refine op_geq (k:=?_)|refine op_add (k:=?_)|refine op_fieldAddr (k:=?_)|refine wl_nil ?_|refine at_then_normal ?_|refine at_block_normal ?_|refine wc_seq ?_|refine wc_region ?_|refine wc_block ?_|refine wc_skip ?_|refine wc_cond_false (hf:=?_)|(refine wc_cond_dec (ht:=fun _ => ?_) (hf:=fun _ => ?_)<;> (try first | contradiction | (exfalso; omega))))
        all_goals try (exfalso; omega)
        exact at_round (⟨j + 1, I2⟩ : NI) (by exact ⟨rfl, rfl, by rw [hst]; rfl, rfl, rfl, rfl, rfl, rfl, rfl, trivial⟩) ⟨hm.tl, hle2, by dsimp only; omega⟩ (by dsimp only; omega)
      | some z =>
        rw [hf] at hst
        dsimp only at hst
        rw [Sp.findV_some hf] at hfind
        obtain ⟨hz, _, _, _, hmemz⟩ := Sp.findIt_lt hf
        obtain ⟨cz, hcz, hatz, _⟩ := (h.le hle1).get (Sp.itNo_get hz)
        obtain ⟨pa3, pc3, sa3, sc3, ba3, bc3, da3, dc3, xb3, rfl, _⟩ := hatz
        have hzl := (hlab _ hmemz).1
        have hri2 := hri.le hle2
        repeat' (first|(refine i_indexFlat (d:=22) (enc:=encRf) (z:=q) (hr:=hsnd.le hle2) (he:=fun _ => rfl) (hz:=by exact hgs) (k:=?_); intro bz oz hpz)|(refine m_readC (d:=27) hm (hc:=hfind) (k:=?_); clear hm; intro _ hm)|(refine i_indexAddr (d:=34) (hr:=hri2) (k:=?_); intro bu ou hpu; rw [show ((z : Int).toNat * 10) = z * 10 from rfl, hcz] at hpu)|(refine op_call (d:=37) (hc:=by exact c_meet _ _ hml hzl _) (k:=?_); rintro _ _ ⟨rfl, rfl⟩)|(refine m_varS (d:=8) hm (k:=?_); clear hm; intro b8 _ hm)|refine m_load1 hm (k:=?_)|refine i_load1 hm (k:=?_)|refine m_loadAll hm (k:=?_)|refine i_loadN hm (k:=?_)|refine op_move (k:=?_)|refine op_assign (k:=?_)|refine op_lss (k:=?_)|refine op_geq (k:=?_)|refine op_add (k:=?_)|refine op_fieldAddr (k:=?_)|refine wl_nil ?_|refine at_then_normal ?_|refine at_block_normal ?_|refine wc_seq ?_|refine wc_region ?_|refine wc_block ?_|refine wc_skip ?_|refine wc_cond_true (ht:=?_)|(refine wc_cond_dec (ht:=fun _ => ?_) (hf:=fun _ => ?_)<;> (try first | contradiction | (exfalso; omega))))
        all_goals try (exfalso; omega)
        exact at_round (⟨j + 1, I2⟩ : NI) (by exact ⟨rfl, rfl, by rw [hst]; rfl, rfl, rfl, rfl, rfl, rfl, rfl, trivial⟩) ⟨hm.tl, hle2, by dsimp only; omega⟩ (by dsimp only; omega)
    · obtain rfl : j = it.sends.length := by omega
      rw [List.take_length]
      repeat' (first|(refine m_push (d:=42) hm (k:=?_); clear hm; intro a42 cp42 _ _ hm; try simp only [setn] at hm)|refine op_move (k:=?_)|refine op_assign (k:=?_)|refine op_lss (k:=?_)|refine op_add (k:=?_)|refine wl_nil ?_|refine at_then_normal ?_|refine at_then_exit ?_|refine at_block_normal ?_|refine at_block_exit ?_|refine wc_seq ?_|refine wc_region ?_|refine wc_exit ?_|(refine wc_cond_dec (ht:=fun _ => ?_) (hf:=fun _ => ?_)<;> (try first | contradiction | (exfalso; omega))))
      all_goals try (exfalso; omega)
      refine at_round (⟨k + 1, I2, _, _, none, 0⟩ : FX) (by exact ⟨rfl, rfl, rfl, rfl, rfl, trivial⟩) ⟨?_, hle1.trans hle2, by dsimp only; omega⟩ (by dsimp only; omega)
      dsimp only
      rw [hft, List.flatMap_append]
      exact hm.tl
  · obtain rfl : k = its.length := by omega
    rw [List.take_of_length_le (by omega)] at hm
    repeat' (first|refine op_move (k:=?_)|refine op_assign (k:=?_)|refine op_lss (k:=?_)|refine wl_nil ?_|refine at_then_normal ?_|refine at_then_exit ?_|refine at_block_exit ?_|refine wc_seq ?_|refine wc_region ?_|refine wc_exit ?_|refine wc_ret ?_|refine at_ret1 (h:=?_)|(refine wc_cond_dec (ht:=fun _ => ?_) (hf:=fun _ => ?_)<;> (try first | contradiction | (exfalso; omega))))
    all_goals try (exfalso; omega)
    obtain ⟨I3, hle3, hm3, hrow⟩ := hm.freeze
    exact ⟨I3, [], ⟨rfl, _, _, rfl, hrow⟩, hm3.left (H := [])⟩
end
end Go.Proofs.YthmdffgiockcbaaGreatDoor
end
section
namespace Go.Proofs.YthmdffgiockcbaaGreatDoor
open Go.Fw
section
variable {its : List Sp.Itm} {a : Option Addr} {cp : Nat} {xs : List Value}
set_option maxHeartbeats 16000000 in
theorem f_check (i : Nat) (hi : i < its.length) (at_ : Int) (bf : Nat) (I : Imm) (hfile : PtrI I bf 0 25 [.slice a its.length cp]) (h : FE I its a cp xs) (hlab : Sp.itLab its) (hF : ∀ x ∈ its, Sp.ItF x) :
    CalM Tryz.prog 85 #[ptr bf, nt i, .int .i64 at_] I [] (fun v _ H' => ∃ bc pi vf sc sa sp da dp, v = ptr bc ∧ H' = FSt bc bf pi sc sa sp (Sp.checkF its i at_) da dp vf at_) := by
  refine CalM.of fun w E hm => enter (N := 69) Tryz.func85 rfl [(0, ptr bf), (1, nt i), (2, .int .i64 at_)] args3 rfl ?_
  have hfew := h.few
  have hg := Sp.itNo_get hi
  obtain ⟨ci, hci, hat, hlc⟩ := h.get hg
  have hri := h.row
  have hmem := Sp.itNo_mem hi
  have hIt := hF _ hmem
  have hlb := hlab _ hmem
  have hck : Sp.checkF its i at_ = if (Sp.itNo its i).kind = 2 then (Sp.stmsF its (Sp.itNo its i).label at_ (Sp.itNo its i).body (Sp.parsF (Sp.itNo its i).params) 0 Sp.FW0).2 else Sp.FW0 := rfl
  generalize Sp.checkF its i at_ = fin at hck ⊢
  have hfl := fun (J : Imm) (m : Le I J) => f_floors (I := J) (h.le m) hlab (fun x hx => (hF x hx).small)
  generalize Sp.itNo its i = it at hg hat hmem hIt hlb hck
  have hat0 := hat
  obtain ⟨pa, pc, sa9, sc9, ba, bc9, da9, dc9, xb, rfl, hpar, hsnd, hrb, hbs, _⟩ := hat
  have hsp := hIt.small.params
  have hsb := hIt.small.body
  by_cases k2 : it.kind = 2
  case neg =>
    rw [if_neg k2] at hck
    subst hck
    repeat' (first|(refine wc_semi_memL (id:=1) (hm.perm pm0) [0,1,2,3,4,5,6,7,8,9,11] [10,12,13] 14 (h:=?_); clear hm; intro wd hR hm)|(refine iw_indexAddr (d:=16) (hr:=hri) (k:=?_); intro bt ot hpt; rw [show ((i : Int).toNat * 10) = i * 10 from rfl, hci] at hpt)|(refine iw_loadN (d:=19) hR (hp:=hfile) (k:=?_))|(refine mt_call (d:=20) hm (hc:=hfl I (Le.refl _)) (k:=?_); clear hm; rintro _ I2 _ _ ⟨rfl, fa, fp, rfl, hflr⟩ hle hm; have hleI2 := hle; try simp only [setn] at hm; have hpt2 := hpt.le hleI2)|(refine mt_box (d:=23) hm (k:=?_); clear hm; intro bc _ hm)|refine iw_load1 hR (k:=?_)|refine mt_struct hm (k:=?_)|(refine ws_nil ?_; replace hm := hR.back hm; clear hR; try simp only [setn] at hm)|refine m_load1 hm (k:=?_)|refine i_load1 hm (k:=?_)|refine op_move (k:=?_)|refine op_assign (k:=?_)|refine op_eql (k:=?_)|refine op_nilCheck (k:=?_)|refine op_fieldAddr (k:=?_)|refine wl_nil ?_|refine at_then_normal ?_|refine wc_seq ?_|refine wc_region ?_|refine wc_skip ?_|refine wc_ret ?_|refine at_ret1 (h:=?_)|(refine wc_cond_dec (ht:=fun _ => ?_) (hf:=fun _ => ?_)<;> (try first | contradiction | (exfalso; omega)))|refine v_move (k:=?_)|refine v_nilCheck (k:=?_)|refine v_fieldAddr (k:=?_)|refine wv_nil ?_)
    all_goals try (exfalso; omega)
    exact ⟨I2, _, ⟨bc, _, _, [], none, 0, none, 0, rfl, rfl⟩, ((hm.nil 154 4).swap.nil 194 2).swap⟩
  rw [if_pos k2] at hck
  repeat' (first|(refine wc_semi_memL (id:=1) (hm.perm pm0) [0,1,2,3,4,5,6,7,8,9,11] [10,12,13] 14 (h:=?_); clear hm; intro wd hR hm)|(refine iw_indexAddr (d:=16) (hr:=hri) (k:=?_); intro bt ot hpt; rw [show ((i : Int).toNat * 10) = i * 10 from rfl, hci] at hpt)|(refine iw_loadN (d:=19) hR (hp:=hfile) (k:=?_))|(refine mt_call (d:=20) hm (hc:=hfl I (Le.refl _)) (k:=?_); clear hm; rintro _ I2 _ _ ⟨rfl, fa, fp, rfl, hflr⟩ hle hm; have hleI2 := hle; try simp only [setn] at hm; have hpt2 := hpt.le hleI2)|(refine mt_box (d:=23) hm (k:=?_); clear hm; intro bc _ hm)|refine iw_load1 hR (k:=?_)|refine mt_struct hm (k:=?_)|(refine ws_nil ?_; replace hm := hR.back hm; clear hR; try simp only [setn] at hm)|refine m_load1 hm (k:=?_)|refine i_load1 hm (k:=?_)|refine op_move (k:=?_)|refine op_assign (k:=?_)|refine op_eql (k:=?_)|refine op_len_slice (k:=?_)|refine op_nilCheck (k:=?_)|refine op_fieldAddr (k:=?_)|refine wl_nil ?_|refine at_then_normal ?_|refine wc_seq ?_|refine wc_region ?_|refine wc_block ?_|(refine wc_cond_dec (ht:=fun _ => ?_) (hf:=fun _ => ?_)<;> (try first | contradiction | (exfalso; omega)))|refine v_move (k:=?_)|refine v_nilCheck (k:=?_)|refine v_fieldAddr (k:=?_)|refine wv_nil ?_)
  all_goals try (exfalso; omega)
  have hC2 : FC I2 its it bf a cp xs (.pointer (some ⟨bt, ot, none⟩)) (.slice fa its.length fp) := ⟨hfile.le hleI2, h.le hleI2, ⟨bt, ot, _, _, rfl, hpt2, hat0.le hleI2⟩, ⟨fa, fp, rfl, hflr⟩, hlab, hlb.1⟩
  have hpar2 := hpar.le hleI2
  refine wc_loop (fun x : FX => [(0, ptr bf), (1, nt i), (2, .int .i64 at_), (7, ptr bc), (38, .slice pa it.params.length pc), (39, nt it.params.length), (40, nt x.k)])
    (fun x w' => Mem E I2 (FSt bc bf (.pointer (some ⟨bt, ot, none⟩)) (Sp.parsF (it.params.take x.k)) x.sa x.sp Sp.FW0 none 0 (.slice fa its.length fp) at_) w' ∧ x.k ≤ it.params.length) (fun x => it.params.length - x.k) ⟨0, I2, none, 0, none, 0⟩
    (by exact ⟨rfl, rfl, rfl, rfl, rfl, rfl, rfl, trivial⟩) ⟨((hm.nil 154 4).swap.nil 194 2).swap, Nat.zero_le _⟩ ?_
  clear hm
  rintro ⟨k, _, sa1, sp1, _, _⟩ w1 ⟨hm, hk⟩
  dsimp only at hm hk ⊢
  by_cases hlt : k < it.params.length
  · have hgp : it.params[k]? = some it.params[k] := List.getElem?_eq_getElem hlt
    generalize it.params[k] = p at hgp
    have hst := Sp.parsF_take hgp
    have hpl : (Sp.parsF (it.params.take k)).length = k := by rw [Sp.parsF, List.length_map, List.length_take]; omega
    generalize Sp.parsF (it.params.take k) = sc at hm hst hpl
    repeat' (first|(refine i_indexFlat (d:=42) (enc:=encPar) (z:=p) (hr:=hpar2) (he:=fun _ => rfl) (hz:=by exact hgp) (k:=?_); intro bz oz hpz)|(refine wc_semi_mem (id:=6) (hm.perm pm1_2) 10 12 (h:=?_); clear hm; intro wd hR hm)|refine mw_load1 hR (k:=?_)|(refine mt_push (d:=55) hm (k:=?_); clear hm; intro a55 cp55 _ _ hm; replace hm := hR.back hm; clear hR; try simp only [setn] at hm)|(refine m_varS (d:=9) hm (k:=?_); clear hm; intro b9 _ hm)|refine i_loadN hm (k:=?_)|(refine m_store1 hm (k:=?_); clear hm; intro _ hm; try simp only [setn] at hm)|refine op_move (k:=?_)|refine op_lss (k:=?_)|refine op_nilCheck (k:=?_)|refine op_add (k:=?_)|refine op_fieldAddr (k:=?_)|refine wl_nil ?_|refine at_then_normal ?_|refine at_block_normal ?_|refine wc_seq ?_|refine wc_region ?_|refine wc_block ?_|refine wc_skip ?_|(refine wc_cond_dec (ht:=fun _ => ?_) (hf:=fun _ => ?_)<;> (try first | contradiction | (exfalso; omega)))|refine v_move (k:=?_)|refine v_nilCheck (k:=?_)|refine v_fieldAddr (k:=?_)|refine v_struct (k:=?_)|refine wv_nil ?_)
    all_goals try (exfalso; omega)
    refine at_round (⟨k + 1, I2, a55, cp55, none, 0⟩ : FX) (by exact ⟨rfl, rfl, rfl, rfl, rfl, rfl, rfl, trivial⟩) ⟨?_, by dsimp only; omega⟩ (by dsimp only; omega)
    dsimp only
    rw [hst, ← FSt_snoc]
    exact ((hm.front 1 rfl).tl).swap
  · obtain rfl : k = it.params.length := by omega
    rw [List.take_length] at hm
    have hsl := Sp.parsF_lab hlab hmem
    have hpl : (Sp.parsF it.params).length = it.params.length := by rw [Sp.parsF, List.length_map]
    have hcn := hIt.cnt
    have hblk := f_blk (its := its) (it := it) (bc := bc) (bf := bf) (a := a) (cp := cp) (xs := xs) (pi := .pointer (some ⟨bt, ot, none⟩)) (vf := .slice fa its.length fp) (at_ := at_) _ it.body (Nat.le_refl _) (by omega) hIt.small.stms hIt.body I2 ba bc9 xb 0 (Sp.parsF it.params) Sp.FW0 sa1 sp1 none 0 (by omega) hsl (by omega) (by simp [Sp.FW0]; omega) hC2 (hrb.le hleI2) (StsAt.le hleI2 _ _ hbs)
    rw [← hck] at hblk
    generalize Sp.parsF it.params = sc at hm hblk
    repeat' (first|(refine m_call (d:=67) hm (hc:=hblk) (k:=?_); clear hm; rintro _ I3 _ _ ⟨rfl, sa3, sp3, da3, dp3, rfl⟩ hle hm; have hleI3 := hle; try simp only [setn] at hm)|refine m_load1 hm (k:=?_)|refine i_load1 hm (k:=?_)|refine op_move (k:=?_)|refine op_assign (k:=?_)|refine op_lss (k:=?_)|refine op_nilCheck (k:=?_)|refine op_fieldAddr (k:=?_)|refine wl_nil ?_|refine at_then_normal ?_|refine at_then_exit ?_|refine at_block_exit ?_|refine wc_seq ?_|refine wc_region ?_|refine wc_exit ?_|refine wc_ret ?_|refine at_ret1 (h:=?_)|(refine wc_cond_dec (ht:=fun _ => ?_) (hf:=fun _ => ?_)<;> (try first | contradiction | (exfalso; omega))))
    all_goals try (exfalso; omega)
    exact ⟨I3, _, ⟨bc, _, _, sc, sa3, sp3, da3, dp3, rfl, rfl⟩, hm⟩
theorem f_diags (i : Nat) (hi : i < its.length) (I : Imm) (h : FE I its a cp xs) (hlab : Sp.itLab its) (hF : ∀ x ∈ its, Sp.ItF x) :
    CalM Tryz.prog 55 #[.agg [.slice a its.length cp].toArray, nt i] I [] (fun v I' H' => H' = [] ∧ ∃ da dp, v = .slice da (Sp.checkF its i (-1)).ds.length dp ∧ RowI I' 154 4 (.slice da (Sp.checkF its i (-1)).ds.length dp) (Sp.checkF its i (-1)).ds.length ((Sp.checkF its i (-1)).ds.flatMap encDg)) := by
  refine CalM.of fun w E hm => enter (N := 19) Tryz.func55 rfl [(0, .agg [.slice a its.length cp].toArray), (1, nt i)] args2 rfl ?_
  have hfew := h.few
  repeat' (first|(refine m_box (d:=2) hm (k:=?_); clear hm; intro b2 _ hm)|refine m_load1 hm (k:=?_)|refine op_move (k:=?_)|refine op_assign (k:=?_)|refine op_pick_false (k:=?_)|refine op_lss (k:=?_)|refine op_geq (k:=?_)|refine op_len_slice (k:=?_)|refine op_fieldAddr (k:=?_)|refine wl_nil ?_|refine at_then_normal ?_|refine wc_seq ?_|refine wc_region ?_|refine wc_skip ?_|(refine wc_cond_dec (ht:=fun _ => ?_) (hf:=fun _ => ?_)<;> (try first | contradiction | (exfalso; omega))))
  all_goals try (exfalso; omega)
  obtain ⟨I2, hle2, hm2, hpf⟩ := hm.freezeO
  clear hm
  have hm := hm2
  clear hm2
  have hck := f_check i hi (-1) b2 I2 hpf (h.le hle2) hlab hF
  generalize Sp.checkF its i (-1) = fin at hck ⊢
  repeat' (first|(refine m_call (d:=15) hm (hc:=hck) (k:=?_); clear hm; rintro _ I3 _ _ ⟨bc, pi, vf, sc, sa, sp, da, dp, rfl, rfl⟩ hle hm; have hleI3 := hle; try simp only [setn] at hm)|refine m_load1 hm (k:=?_)|refine op_assign (k:=?_)|refine op_nilCheck (k:=?_)|refine op_fieldAddr (k:=?_)|refine wl_nil ?_|refine at_then_normal ?_|refine wc_ret ?_|refine at_ret1 (h:=?_))
  all_goals try (exfalso; omega)
  obtain ⟨I4, hle4, hm4, hrow⟩ := (hm.front 2 rfl).freeze
  exact ⟨I4, [], ⟨rfl, da, dp, rfl, hrow⟩, hm4.left (H := [])⟩
end
end Go.Proofs.YthmdffgiockcbaaGreatDoor
end
section
namespace Go.Sp
theorem item_itF (src : List UInt8) (at_ : Int) (h : src.length ≤ 1048576) : ItF (item src at_) ∧ (item src at_).label < 256 ∧ ∀ p ∈ (item src at_).params, p.label < 256 := by
  have hA := item_all (src := src) (p := anyP) (q := labS) (r := fun p => p.label < 256) (t := fun _ => True) at_ ⟨trivial, fun _ => trivial, fun _ _ _ _ => trivial, fun _ _ => trivial, fun _ _ _ _ _ => trivial, fun _ _ _ _ _ _ _ _ _ _ _ _ _ _ _ _ => trivial⟩
    ⟨by show 0 < 256; omega, fun _ _ lb _ _ h => Nat.lt_succ_of_le h, fun _ _ _ => (by show 0 < 256; omega), fun _ _ _ _ => (by show 0 < 256; omega), fun _ _ _ => (by show 0 < 256; omega)⟩ (fun _ lb h => Nat.lt_succ_of_le h) (fun _ => trivial)
  have hc := item_cnt src at_
  exact ⟨⟨item_small src at_ h, hA.body, by omega⟩, Nat.lt_succ_of_le hA.label, hA.params⟩
theorem file_itF (s : List UInt8) : (∀ x ∈ fileItems s, ItF x) ∧ itLab (fileItems s) := by
  have key : ∀ x ∈ fileItems s, ItF x ∧ x.label < 256 ∧ ∀ p ∈ x.params, p.label < 256 := by
    intro x hx
    by_cases h0 : fileErr s = 0
    · have hl : s.length ≤ 4000 := by
        rw [fileErr] at h0
        split at h0
        · cases h0
        · omega
      rw [fileItems, if_pos h0, items] at hx
      obtain ⟨j, _, rfl⟩ := List.mem_map.1 hx
      exact item_itF _ _ (by rw [piece, List.length_take, List.length_drop]; omega)
    · rw [fileItems, if_neg h0] at hx
      simp at hx
  exact ⟨fun x hx => (key x hx).1, fun x hx => (key x hx).2⟩
end Go.Sp
namespace Go.Proofs.YthmdffgiockcbaaGreatDoor
open Go.Fw
end Go.Proofs.YthmdffgiockcbaaGreatDoor
end
section
namespace Go.Fw
open Go
theorem RowI.drop {I : Imm} {ty sz n m cp : Nat} {a : Option Addr} {xs : List Value} (h : RowI I ty sz (.slice a n cp) n xs) (hmn : m ≤ n) {a' : Option Addr} {cp' : Nat} (hc : n - m ≤ cp') (ha : m < n → a' = a.map (fun p => p.add (m * sz))) :
    RowI I ty sz (.slice a' (n - m) cp') (n - m) (xs.drop (m * sz)) := by
  obtain ⟨h0, a0, cap, h1, h2, h3⟩ := h
  obtain ⟨rfl, _, rfl⟩ := Value.slice.inj h1
  have hle : m * sz ≤ n * sz := Nat.mul_le_mul_right _ hmn
  refine ⟨by rw [List.length_drop, h0, Nat.sub_mul], a', cp', rfl, hc, fun hn => ?_⟩
  obtain ⟨b, off, c, fr, rfl, e2, e3⟩ := h3 (by omega)
  refine ⟨b, off + m * sz, c, fr, (ha (by omega)).trans (by rw [Option.map_some, Addr.add_lit]), e2, fun j u hj => ?_⟩
  rw [List.getElem?_drop] at hj
  rw [Nat.add_assoc]; exact e3 _ _ hj
section
variable {P : Program} {N : Nat} {ds : List Deferred} {Q : Exit → Act → World → Prop} {l : Log} {w : World} {ops : Array Oper} {os : List Oper}
variable {d : Nat} {ty : TypeId} {pos : String} {af : Array Edge} {g : Option (Nat × Bool)} {t : TypeId} {x y : Operand} {E : Ent} {I : Imm} {H : List HItem}
end
end Go.Fw
end
section
namespace Go.Fw
open Go
section
variable {P : Program} {N : Nat} {ds : List Deferred} {Q : Exit → Act → World → Prop} {l : Log} {w w0 : World} {ops : Array Oper} {os tail : List Oper} {X : List Nat}
variable {d : Nat} {ty : TypeId} {pos : String} {af : Array Edge} {g : Option (Nat × Bool)} {t : TypeId} {x y : Operand} {E : Ent} {I I0 : Imm} {H G R : List HItem} {m' f : Nat} {listed : Array Bool}
theorem run_build {e : TypeId} {sz by_ n : Nat} [TySlice P t e] [Elem P e sz by_] {ps : List (Nat × Operand)} {vs : List (Nat × Value)} {a : Act} (ha : Fits N ds l a) (hx : evp l ps = some vs)
    (hi : vs.map (·.1) = List.range' 0 n) (hs : vs.all (fun p => Nat.beq p.2.cells.toList.length sz) = true) (hn : n * sz ≤ 16777216) :
    (execOp a.eval ⟨some d, .buildSlice t n ps.toArray, ty, pos, af, g⟩).run P w = .ok (.value (.slice (some ⟨w.heap.size, 0, none⟩) n n)) (w.alloc (.cells (vs.flatMap (·.2.cells.toList)).toArray e (0, 0))) := by
  obtain ⟨i, z, hi', hz, hs', hby, hzc, hpos⟩ := Elem.out (P := P) (e := e)
  have h6 := fun w => run_underlying (P := P) (w := w) (TySlice.out (P := P) (t := t))
  have hlen : vs.length = n := by have := congrArg List.length hi; simpa using this
  have hf := fill_all sz vs 0 ((List.range (n * sz)).map (fun j => z.cells[j % z.cells.size]!)) (by rw [hlen]; exact hi) (by simp [hlen]) (fun p hp => by
    have := List.all_eq_true.1 hs p hp
    exact Nat.eq_of_beq_eq_true this)
  simp only [Nat.zero_mul, List.take_zero, List.nil_append] at hf
  have e1 := ha.evp hx
  have hz0 : ¬ (2 ^ 24 < n * sz) := by omega
  have e2 : (Array.range (n * sz)).map (fun j => z.cells[j % z.cells.size]!) = ((List.range (n * sz)).map (fun j => z.cells[j % z.cells.size]!)).toArray := by
    apply Array.ext'; simp
  simp only [execOp, Instr.buildSlice]
  by_cases hz1 : n * sz = 0
  · have hn0 : n = 0 := by
      rcases Nat.mul_eq_zero.1 hz1 with h | h
      · exact h
      · omega
    subst hn0
    have : vs = [] := List.eq_nil_of_length_eq_zero hlen
    subst this
    have e4 : Array.range 0 = #[] := rfl
    simp [e1, h6, sizeOf, typeInfo, hi', Instr.fill, newRow, newObj, e4]
    rfl
  · simp [e1, h6, sizeOf, typeInfo, hi', hs', zeroValue, hz, hz0, newRow, newObj, e2, hf]
    rw [if_neg hz1]
    rfl
theorem all_len {sz : Nat} : ∀ (vs : List (Nat × Value)), vs.all (fun p => Nat.beq p.2.cells.toList.length sz) = true → (vs.flatMap (·.2.cells.toList)).length = vs.length * sz
  | [], _ => by simp
  | p :: vs, h => by
    rw [List.all_cons, Bool.and_eq_true] at h
    rw [List.flatMap_cons, List.length_append, all_len vs h.2, Nat.eq_of_beq_eq_true h.1, List.length_cons, Nat.add_mul]; omega
end
end Go.Fw
end
