/- Own work: texts FlC, FlD, FlE, one behind the other. -/
import Derived.Test.YthmdffgiockcbaaGreatDoorRb30
section
namespace Go.Sp
def coreF (its : List Itm) (at_ : Int) (sc : List Lc) (un : Nat) (e : Ex) (s : FW) : Nat × FW :=
  if e.kind = 2 then (getF sc e.name, s) else if e.kind = 3 then opsF its at_ sc un e.args 0 s else
  if e.kind = 4 then (callLab its e.name, askFloor its un e.name e.fr e.to (argsF its at_ sc un e.name e.args 0 s)) else (0, s)
theorem exF_eq (its : List Itm) (at_ : Int) (sc : List Lc) (un : Nat) (e : Ex) (s : FW) : exF its at_ sc un e s = ((coreF its at_ sc un e s).1, (coreF its at_ sc un e s).2.hit at_ e.fr e.to ((coreF its at_ sc un e s).1 ||| un)) := by
  cases e with
  | mk k nm n args f t =>
  rw [exF, coreF]
  show _ = _
  by_cases k2 : k = 2
  · simp [k2, Ex.kind, Ex.name, Ex.fr, Ex.to]
  · by_cases k3 : k = 3
    · simp [k3, Ex.kind, Ex.args, Ex.fr, Ex.to]
    · by_cases k4 : k = 4
      · simp [k4, Ex.kind, Ex.name, Ex.args, Ex.fr, Ex.to]
      · simp [k2, k3, k4, Ex.kind, Ex.fr, Ex.to]
theorem coreF_ds (its : List Itm) (at_ : Int) (sc : List Lc) (un : Nat) (e : Ex) (s : FW) : s.ds.length ≤ (coreF its at_ sc un e s).2.ds.length ∧ (coreF its at_ sc un e s).2.ds.length + 1 ≤ s.ds.length + 2 * e.cnt := by
  have := exF_n its at_ sc un e s
  rw [exF_eq] at this
  dsimp only at this
  rw [hit_ds] at this
  exact this
theorem hit_pos {s : FW} {at_ : Int} {f t n : Nat} (h0 : s.hv = none) (h1 : (f : Int) ≤ at_) (h2 : at_ < t) : s.hit at_ f t n = ⟨s.ds, some n⟩ := by rw [FW.hit, if_pos ⟨h0, h1, h2⟩]
theorem hit_some {s : FW} {at_ : Int} {f t n m : Nat} (h0 : s.hv = some m) : s.hit at_ f t n = s := by rw [FW.hit, if_neg (by rw [h0]; simp)]
theorem hit_neg {s : FW} {at_ : Int} {f t n : Nat} (h1 : ¬ ((f : Int) ≤ at_ ∧ at_ < t)) : s.hit at_ f t n = s := by rw [FW.hit, if_neg (fun h => h1 h.2)]
end Go.Sp
namespace Go.Fw
theorem sub3_0 {R : List HItem} {a b c : HItem} : ∀ h ∈ [a, b, c], h ∈ a :: b :: c :: R := by simp
end Go.Fw
namespace Go.Proofs.YthmdffgiockcbaaGreatDoor
open Go.Fw
structure FX where
  k : Nat
  I : Imm
  sa : Option Addr
  sp : Nat
  da : Option Addr
  dp : Nat
def ExprOk (its : List Sp.Itm) (it : Sp.Itm) (bc bf : Nat) (a : Option Addr) (cp : Nat) (xs : List Value) (pi vf : Value) (sc : List Sp.Lc) (at_ : Int) (un : Nat) (e : Sp.Ex) : Prop :=
  ∀ (I : Imm) (b o tc : Nat) (ea : Option Addr) (ec : Nat) (ys : List Value) (s : Sp.FW) (sa : Option Addr) (sp : Nat) (da : Option Addr) (dp : Nat), s.ds.length + 2 * e.cnt ≤ 1000000000 → FC I its it bf a cp xs pi vf →
    PtrI I b o tc (exCells e ea ec) → RowI I 102 6 (.slice ea e.args.length ec) e.args.length ys → ExsAt I e.args ys →
    CalM Tryz.prog 172 #[ptr bc, .pointer (some ⟨b, o, none⟩), nt un] I (FSt bc bf pi sc sa sp s da dp vf at_) (ToF bc bf pi vf at_ sc (Sp.exF its at_ sc un e s).2 (nt (Sp.exF its at_ sc un e s).1))
section
variable {its : List Sp.Itm} {it : Sp.Itm} {bc bf : Nat} {a : Option Addr} {cp : Nat} {xs : List Value} {pi vf : Value} {sc : List Sp.Lc} {at_ : Int} {un : Nat}
set_option maxHeartbeats 16000000 in
theorem f_call (hun : un < 256) (_hsc : sc.length ≤ 1099511627776) (hsl : Sp.scLab sc) (e : Sp.Ex) (hsm : e.small) (hE : ∀ y, y ∈ e.args → ExprOk its it bc bf a cp xs pi vf sc at_ un y)
    (I : Imm) (b o tc : Nat) (ea : Option Addr) (ec : Nat) (ys : List Value) (s : Sp.FW) (sa : Option Addr) (sp : Nat) (da : Option Addr) (dp : Nat) (hn : s.ds.length + 2 * e.cnt ≤ 1000000000) (hC : FC I its it bf a cp xs pi vf)
    (hp : PtrI I b o tc (exCells e ea ec)) (hr : RowI I 102 6 (.slice ea e.args.length ec) e.args.length ys) (hx : ExsAt I e.args ys) :
    CalM Tryz.prog 191 #[ptr bc, .pointer (some ⟨b, o, none⟩), nt un] I (FSt bc bf pi sc sa sp s da dp vf at_)
      (ToF bc bf pi vf at_ sc (Sp.askFloor its un e.name e.fr e.to (Sp.argsF its at_ sc un e.name e.args 0 s)) (nt (Sp.callLab its e.name))) := by
  obtain ⟨hal, hasm⟩ := Sp.small_args hsm
  have hcnt := Sp.Ex.cnt_eq e
  refine CalM.of fun w E hm => enter (N := 149) Tryz.func191 rfl [(0, ptr bc), (1, .pointer (some ⟨b, o, none⟩)), (2, nt un)] args3 rfl ?_
  obtain ⟨fa, fp, rfl, hfl⟩ := hC.floors
  have hCf := hC.file
  have hri := hC.fe.row
  have hfew := hC.fe.few
  have hfind := (n_find 2 e.name its I a cp xs hC.fe).read
  obtain ⟨fv, hfv⟩ : ∃ fv, fv = Sp.findV its 2 e.name := ⟨_, rfl⟩
  rw [← hfv] at hfind
  repeat' (first|(refine mq_readC (d:=20) hm (hc:=hfind) (k:=?_))|refine i_load1 hm (k:=?_)|refine mq_load1 hm (k:=?_)|refine iq_load1 hm (k:=?_)|refine iq_loadN hm (k:=?_)|refine op_move (k:=?_)|refine op_assign (k:=?_)|refine op_len_slice (k:=?_)|refine op_nilCheck (k:=?_)|refine op_fieldAddr (k:=?_)|refine wl_nil ?_|refine at_then_normal ?_|refine wc_seq ?_|refine wc_region ?_|refine wc_block ?_|refine wc_quiet (h:=?_)|(refine wq_nil ?_; intro _ hkq; replace hm := hm.kept0 hkq; clear hkq)|refine q_move (k:=?_)|refine q_assign (k:=?_)|refine q_nilCheck (k:=?_)|refine q_fieldAddr (k:=?_))
  all_goals try (exfalso; omega)
  refine wc_loop (fun x : FX => [(0, ptr bc), (1, .pointer (some ⟨b, o, none⟩)), (2, nt un), (7, .int .i64 fv), (25, nt e.args.length), (26, nt x.k)])
    (fun x w' => Mem E x.I (FSt bc bf pi sc x.sa x.sp (Sp.argsF its at_ sc un e.name (e.args.take x.k) 0 s) x.da x.dp (.slice fa its.length fp) at_) w' ∧ Le I x.I ∧ x.k ≤ e.args.length) (fun x => e.args.length - x.k) ⟨0, I, sa, sp, da, dp⟩
    (by exact ⟨rfl, rfl, rfl, rfl, rfl, rfl, trivial⟩) ⟨by dsimp only; rw [List.take_zero, Sp.argsF]; exact hm, Le.refl _, Nat.zero_le _⟩ ?_
  clear hm
  rintro ⟨k, I1, sa1, sp1, da1, dp1⟩ w1 ⟨hm, hle1, hk⟩
  dsimp only at hm hle1 hk ⊢
  have hC1 := hC.le hle1
  have hCf1 := hC1.file
  have hri1 := hC1.fe.row
  have hp1 := hp.le hle1
  by_cases hlt : k < e.args.length
  · have hg : e.args[k]? = some e.args[k] := List.getElem?_eq_getElem hlt
    have hmem := List.getElem_mem hlt
    obtain ⟨ea2, ec2, ys2, hc2, hr2, hx2⟩ := (hx.get hg).out
    have hEk := hE _ hmem
    generalize e.args[k] = y at hg hmem hc2 hr2 hx2 hEk
    have hst := Sp.argsF_step its at_ sc un e.name hg s
    have hcy := Sp.exsCnt_take_le hg
    have hnn := Sp.argsF_n its at_ sc un e.name (e.args.take k) 0 s
    generalize Sp.argsF its at_ sc un e.name (e.args.take k) 0 s = s1 at hm hst hnn
    have hcl := fun (J : Imm) (m : Le I J) (h1 : FC J its it bf a cp xs pi (.slice fa its.length fp)) b o tc (hpt : PtrI J b o tc (exCells y ea2 ec2)) => hEk J b o tc ea2 ec2 ys2 s1 sa1 sp1 da1 dp1 (by omega) h1 hpt (hr2.le m) (ExsAt.le m _ _ hx2)
    have hl1 := Sp.exF_lt hC.lab at_ hsl un y s1
    have hnx := Sp.exF_n its at_ sc un y s1
    generalize Sp.exF its at_ sc un y s1 = r at hcl hst hl1 hnx
    have hrow := hr.le hle1
    have hl2 := Sp.or_lt hl1 hun
    rw [Sp.askArg] at hst
    cases hf : Sp.findIt its 2 e.name with
    | none =>
      rw [hf] at hst
      rw [Sp.findV_none hf] at hfv
      subst hfv
      repeat' (first|(refine i_indexAddr (d:=35) (hr:=hrow) (k:=?_); intro bt ot hpt; rw [show ((k : Int).toNat * 6) = k * 6 from rfl, hc2] at hpt)|(refine m_call (d:=37) hm (hc:=hcl I1 hle1 hC1 _ _ _ hpt) (k:=?_); clear hm; rintro _ I2 _ _ ⟨rfl, sa2, sp2, da2, dp2, rfl⟩ hle hm; have hleI2 := hle; try simp only [setn] at hm; have hCf2 := hCf1.le hleI2; have hp2 := hp1.le hleI2)|(refine op_call (d:=39) (hc:=by exact c_join _ _ hl1 hun _) (k:=?_); rintro _ _ ⟨rfl, rfl⟩)|refine i_load1 hm (k:=?_)|refine op_move (k:=?_)|refine op_assign (k:=?_)|refine op_pick_false (k:=?_)|refine op_lss (k:=?_)|refine op_geq (k:=?_)|refine op_nilCheck (k:=?_)|refine op_add (k:=?_)|refine op_fieldAddr (k:=?_)|refine wl_skip (k:=?_)|refine wl_nil ?_|refine at_then_normal ?_|refine at_block_normal ?_|refine wc_seq ?_|refine wc_region ?_|refine wc_block ?_|refine wc_skip ?_|refine wc_cond_false (hf:=?_)|(refine wc_cond_dec (ht:=fun _ => ?_) (hf:=fun _ => ?_)<;> (try first | contradiction | (exfalso; omega))))
      all_goals try (exfalso; omega)
      exact at_round (⟨k + 1, I2, sa2, sp2, da2, dp2⟩ : FX) (by exact ⟨rfl, rfl, rfl, rfl, rfl, rfl, trivial⟩) ⟨by dsimp only; rw [hst]; exact hm, hle1.trans hleI2, by dsimp only; omega⟩ (by dsimp only; omega)
    | some j =>
      rw [hf] at hst
      rw [Sp.findV_some hf] at hfv
      subst hfv
      obtain ⟨hj, _, _, _, hmemj⟩ := Sp.findIt_lt hf
      obtain ⟨ci, hci, hat, hlc⟩ := hC1.fe.get (Sp.itNo_get hj)
      obtain ⟨pa, pc, sa9, sc9, ba, bc9, da9, dc9, xb, rfl, hpars, _⟩ := hat
      have hplab := (hC.lab _ hmemj).2
      dsimp only at hst
      generalize Sp.itNo its j = itj at hci hpars hplab hst
      by_cases hkp : k < itj.params.length
      · have hgp : itj.params[k]? = some itj.params[k] := List.getElem?_eq_getElem hkp
        have hpl := hplab _ (List.getElem_mem hkp)
        generalize itj.params[k] = q at hgp hpl
        rw [hgp] at hst
        dsimp only at hst
        rw [Sp.FW.ask] at hst
        have hF := fun w => c_flows (r.1 ||| un) q.label hl2 hpl w
        cases hfl2 : Sp.flows (r.1 ||| un) q.label with
        | true =>
          rw [hfl2] at hF hst
          repeat' (first|(refine i_indexAddr (d:=35) (hr:=hrow) (k:=?_); intro bt ot hpt; rw [show ((k : Int).toNat * 6) = k * 6 from rfl, hc2] at hpt)|(refine m_call (d:=37) hm (hc:=hcl I1 hle1 hC1 _ _ _ hpt) (k:=?_); clear hm; rintro _ I2 _ _ ⟨rfl, sa2, sp2, da2, dp2, rfl⟩ hle hm; have hleI2 := hle; try simp only [setn] at hm; have hCf2 := hCf1.le hleI2; have hp2 := hp1.le hleI2)|(refine op_call (d:=39) (hc:=by exact c_join _ _ hl1 hun _) (k:=?_); rintro _ _ ⟨rfl, rfl⟩)|(refine i_indexAddr (d:=52) (hr:=hri1.le hleI2) (k:=?_); intro bu ou hpu; rw [show ((j : Int).toNat * 10) = j * 10 from rfl, hci] at hpu)|(refine i_indexAddr (d:=68) (hr:=hri1.le hleI2) (k:=?_); intro bv ov hpv; rw [show ((j : Int).toNat * 10) = j * 10 from rfl, hci] at hpv)|(refine i_indexFlat (d:=72) (enc:=encPar) (z:=q) (hr:=hpars.le hleI2) (he:=fun _ => rfl) (hz:=by exact hgp) (k:=?_); intro bz oz hpz)|(refine op_call (d:=75) (hc:=by exact hF _) (k:=?_); rintro _ _ ⟨rfl, rfl⟩)|refine m_load1 hm (k:=?_)|refine i_load1 hm (k:=?_)|refine op_move (k:=?_)|refine op_assign (k:=?_)|refine op_pick_true (k:=?_)|refine op_lss (k:=?_)|refine op_geq (k:=?_)|refine op_len_slice (k:=?_)|refine op_not (k:=?_)|refine op_nilCheck (k:=?_)|refine op_add (k:=?_)|refine op_fieldAddr (k:=?_)|(refine wl_split_dec (h1:=fun _ => ?_) (h0:=fun _ => ?_)<;> (try first | contradiction | (exfalso; omega)))|refine wl_nil ?_|refine at_then_normal ?_|refine at_block_normal ?_|refine wc_seq ?_|refine wc_region ?_|refine wc_block ?_|refine wc_skip ?_|refine wc_cond_false (hf:=?_)|(refine wc_cond_dec (ht:=fun _ => ?_) (hf:=fun _ => ?_)<;> (try first | contradiction | (exfalso; omega))))
          all_goals try (exfalso; omega)
          rw [if_pos rfl] at hst
          exact at_round (⟨k + 1, I2, sa2, sp2, da2, dp2⟩ : FX) (by exact ⟨rfl, rfl, rfl, rfl, rfl, rfl, trivial⟩) ⟨by dsimp only; rw [hst]; exact hm, hle1.trans hleI2, by dsimp only; omega⟩ (by dsimp only; omega)
        | false =>
          rw [hfl2] at hF hst
          rw [if_neg Bool.false_ne_true] at hst
          have hT := fun (J : Imm) (sa : Option Addr) (sp : Nat) (da : Option Addr) (dp : Nat) => f_tell (I := J) (bc := bc) (bf := bf) (pi := pi) (sc := sc) (sa := sa) (sp := sp) (s := r.2) (da := da) (dp := dp) (vf := .slice fa its.length fp) (at_ := at_) q.name y.fr y.to (by omega)
          repeat' (first|(refine i_indexAddr (d:=35) (hr:=hrow) (k:=?_); intro bt ot hpt; rw [show ((k : Int).toNat * 6) = k * 6 from rfl, hc2] at hpt)|(refine m_call (d:=37) hm (hc:=hcl I1 hle1 hC1 _ _ _ hpt) (k:=?_); clear hm; rintro _ I2 _ _ ⟨rfl, sa2, sp2, da2, dp2, rfl⟩ hle hm; have hleI2 := hle; try simp only [setn] at hm; have hCf2 := hCf1.le hleI2; have hp2 := hp1.le hleI2)|(refine op_call (d:=39) (hc:=by exact c_join _ _ hl1 hun _) (k:=?_); rintro _ _ ⟨rfl, rfl⟩)|(refine i_indexAddr (d:=52) (hr:=hri1.le hleI2) (k:=?_); intro bu ou hpu; rw [show ((j : Int).toNat * 10) = j * 10 from rfl, hci] at hpu)|(refine i_indexAddr (d:=68) (hr:=hri1.le hleI2) (k:=?_); intro bv ov hpv; rw [show ((j : Int).toNat * 10) = j * 10 from rfl, hci] at hpv)|(refine i_indexFlat (d:=72) (enc:=encPar) (z:=q) (hr:=hpars.le hleI2) (he:=fun _ => rfl) (hz:=by exact hgp) (k:=?_); intro bz oz hpz)|(refine op_call (d:=75) (hc:=by exact hF _) (k:=?_); rintro _ _ ⟨rfl, rfl⟩)|(refine wc_quiet_tail (id:=7) 32 (h:=?_))|(refine iq_indexAddr (d:=84) (hr:=hrow.le hleI2) (k:=?_); intro bt3 ot3 hpt3; rw [show ((k : Int).toNat * 6) = k * 6 from rfl, hc2] at hpt3)|(refine iq_indexAddr (d:=92) (hr:=hrow.le hleI2) (k:=?_); intro bt4 ot4 hpt4; rw [show ((k : Int).toNat * 6) = k * 6 from rfl, hc2] at hpt4)|(refine iq_indexAddr (d:=103) (hr:=hri1.le hleI2) (k:=?_); intro bv3 ov3 hpv3; rw [show ((j : Int).toNat * 10) = j * 10 from rfl, hci] at hpv3)|(refine iq_indexFlat (d:=107) (enc:=encPar) (z:=q) (hr:=hpars.le hleI2) (he:=fun _ => rfl) (hz:=by exact hgp) (k:=?_); intro bz3 oz3 hpz3)|(refine m_call (d:=110) hm (hc:=hT I2 sa2 sp2 da2 dp2) (k:=?_); clear hm; rintro _ I3 _ _ ⟨rfl, sa3, sp3, da3, dp3, rfl⟩ hle hm; have hleI3 := hle; try simp only [setn] at hm)|refine m_load1 hm (k:=?_)|refine i_load1 hm (k:=?_)|refine mq_load1 hm (k:=?_)|refine iq_load1 hm (k:=?_)|refine op_move (k:=?_)|refine op_assign (k:=?_)|refine op_pick_true (k:=?_)|refine op_lss (k:=?_)|refine op_geq (k:=?_)|refine op_len_slice (k:=?_)|refine op_not (k:=?_)|refine op_nilCheck (k:=?_)|refine op_add (k:=?_)|refine op_fieldAddr (k:=?_)|(refine wl_split_dec (h1:=fun _ => ?_) (h0:=fun _ => ?_)<;> (try first | contradiction | (exfalso; omega)))|refine wl_nil ?_|refine at_then_normal ?_|refine at_block_normal ?_|refine wc_seq ?_|refine wc_region ?_|refine wc_block ?_|refine wc_skip ?_|(refine wq_nil_tail ?_; intro _ hkq; replace hm := hm.kept0 hkq; clear hkq)|refine wc_cond_true (ht:=?_)|(refine wc_cond_dec (ht:=fun _ => ?_) (hf:=fun _ => ?_)<;> (try first | contradiction | (exfalso; omega)))|refine q_move (k:=?_)|refine q_nilCheck (k:=?_)|refine q_fieldAddr (k:=?_))
          all_goals try (exfalso; omega)
          exact at_round (⟨k + 1, I3, sa3, sp3, da3, dp3⟩ : FX) (by exact ⟨rfl, rfl, rfl, rfl, rfl, rfl, trivial⟩) ⟨by dsimp only; rw [hst]; exact hm, (hle1.trans hleI2).trans hleI3, by dsimp only; omega⟩ (by dsimp only; omega)
      · rw [List.getElem?_eq_none (by omega)] at hst
        dsimp only at hst
        repeat' (first|(refine i_indexAddr (d:=35) (hr:=hrow) (k:=?_); intro bt ot hpt; rw [show ((k : Int).toNat * 6) = k * 6 from rfl, hc2] at hpt)|(refine m_call (d:=37) hm (hc:=hcl I1 hle1 hC1 _ _ _ hpt) (k:=?_); clear hm; rintro _ I2 _ _ ⟨rfl, sa2, sp2, da2, dp2, rfl⟩ hle hm; have hleI2 := hle; try simp only [setn] at hm; have hCf2 := hCf1.le hleI2; have hp2 := hp1.le hleI2)|(refine op_call (d:=39) (hc:=by exact c_join _ _ hl1 hun _) (k:=?_); rintro _ _ ⟨rfl, rfl⟩)|(refine i_indexAddr (d:=52) (hr:=hri1.le hleI2) (k:=?_); intro bu ou hpu; rw [show ((j : Int).toNat * 10) = j * 10 from rfl, hci] at hpu)|refine m_load1 hm (k:=?_)|refine i_load1 hm (k:=?_)|refine op_move (k:=?_)|refine op_assign (k:=?_)|refine op_pick_true (k:=?_)|refine op_pick_false (k:=?_)|refine op_lss (k:=?_)|refine op_geq (k:=?_)|refine op_len_slice (k:=?_)|refine op_nilCheck (k:=?_)|refine op_add (k:=?_)|refine op_fieldAddr (k:=?_)|refine wl_skip (k:=?_)|(refine wl_split_dec (h1:=fun _ => ?_) (h0:=fun _ => ?_)<;> (try first | contradiction | (exfalso; omega)))|refine wl_nil ?_|refine at_then_normal ?_|refine at_block_normal ?_|refine wc_seq ?_|refine wc_region ?_|refine wc_block ?_|refine wc_skip ?_|refine wc_cond_false (hf:=?_)|(refine wc_cond_dec (ht:=fun _ => ?_) (hf:=fun _ => ?_)<;> (try first | contradiction | (exfalso; omega))))
        all_goals try (exfalso; omega)
        exact at_round (⟨k + 1, I2, sa2, sp2, da2, dp2⟩ : FX) (by exact ⟨rfl, rfl, rfl, rfl, rfl, rfl, trivial⟩) ⟨by dsimp only; rw [hst]; exact hm, hle1.trans hleI2, by dsimp only; omega⟩ (by dsimp only; omega)
  · obtain rfl : k = e.args.length := by omega
    have hnn := Sp.argsF_n its at_ sc un e.name e.args 0 s
    rw [List.take_length] at hm
    generalize Sp.argsF its at_ sc un e.name e.args 0 s = s1 at hm hnn ⊢
    cases hf : Sp.findIt its 2 e.name with
    | none =>
      rw [Sp.findV_none hf] at hfv
      subst hfv
      rw [Sp.askFloor, Sp.callLab, hf]
      repeat' (first|refine op_move (k:=?_)|refine op_assign (k:=?_)|refine op_lss (k:=?_)|refine wl_nil ?_|refine at_then_normal ?_|refine at_then_ret ?_|refine at_then_exit ?_|refine at_block_exit ?_|refine wc_seq ?_|refine wc_region ?_|refine wc_exit ?_|refine wc_ret ?_|refine at_ret1 (h:=?_)|refine wc_cond_true (ht:=?_)|(refine wc_cond_dec (ht:=fun _ => ?_) (hf:=fun _ => ?_)<;> (try first | contradiction | (exfalso; omega))))
      all_goals try (exfalso; omega)
      exact ⟨I1, _, ⟨rfl, _, _, _, _, rfl⟩, hm⟩
    | some j =>
      rw [Sp.findV_some hf] at hfv
      subst hfv
      rw [Sp.askFloor, Sp.callLab, hf]
      dsimp only
      obtain ⟨hj, _, _, _, hmemj⟩ := Sp.findIt_lt hf
      obtain ⟨ci, hci, hat, hlc⟩ := hC1.fe.get (Sp.itNo_get hj)
      obtain ⟨pa, pc, sa9, sc9, ba, bc9, da9, dc9, xb, rfl, _⟩ := hat
      have hfg : (Sp.floorsF its)[j]? = some (Sp.meetF its (Sp.itNo its j).sends) := by rw [Sp.floorsF, List.getElem?_map, Sp.itNo_get hj]; rfl
      have hml := Sp.meetF_lt its (Sp.itNo its j).sends
      have hfl1 := hfl.le hle1
      have hF := fun w => c_flows un (Sp.meetF its (Sp.itNo its j).sends) hun hml w
      rw [Sp.FW.ask]
      cases hb : Sp.flows un (Sp.meetF its (Sp.itNo its j).sends) with
      | true =>
        rw [hb] at hF
        rw [if_pos rfl]
        repeat' (first|(refine i_indexFlat (d:=120) (enc:=encInt) (z:=Sp.meetF its (Sp.itNo its j).sends) (hr:=hfl1) (he:=fun _ => rfl) (hz:=by exact hfg) (k:=?_); intro bz oz hpz)|(refine op_call (d:=122) (hc:=by exact hF _) (k:=?_); rintro _ _ ⟨rfl, rfl⟩)|(refine i_indexAddr (d:=146) (hr:=hri1) (k:=?_); intro bu ou hpu; rw [show ((j : Int).toNat * 10) = j * 10 from rfl, hci] at hpu)|refine m_load1 hm (k:=?_)|refine i_load1 hm (k:=?_)|refine i_load1z hm (k:=?_)|refine op_move (k:=?_)|refine op_assign (k:=?_)|refine op_lss (k:=?_)|refine op_not (k:=?_)|refine op_nilCheck (k:=?_)|refine op_fieldAddr (k:=?_)|refine wl_nil ?_|refine at_then_normal ?_|refine at_then_exit ?_|refine at_block_exit ?_|refine wc_seq ?_|refine wc_region ?_|refine wc_skip ?_|refine wc_exit ?_|refine wc_ret ?_|refine at_ret1 (h:=?_)|refine wc_cond_false (hf:=?_)|(refine wc_cond_dec (ht:=fun _ => ?_) (hf:=fun _ => ?_)<;> (try first | contradiction | (exfalso; omega))))
        all_goals try (exfalso; omega)
        exact ⟨I1, _, ⟨rfl, _, _, _, _, rfl⟩, hm⟩
      | false =>
        rw [hb] at hF
        rw [if_neg Bool.false_ne_true]
        have hT := fun (J : Imm) => f_tell (I := J) (bc := bc) (bf := bf) (pi := pi) (sc := sc) (sa := sa1) (sp := sp1) (s := s1) (da := da1) (dp := dp1) (vf := .slice fa its.length fp) (at_ := at_) e.name e.fr e.to (by omega)
        repeat' (first|(refine i_indexFlat (d:=120) (enc:=encInt) (z:=Sp.meetF its (Sp.itNo its j).sends) (hr:=hfl1) (he:=fun _ => rfl) (hz:=by exact hfg) (k:=?_); intro bz oz hpz)|(refine op_call (d:=122) (hc:=by exact hF _) (k:=?_); rintro _ _ ⟨rfl, rfl⟩)|(refine wc_quiet_tail (id:=12) 13 (h:=?_))|(refine m_call (d:=137) hm (hc:=hT I1) (k:=?_); clear hm; rintro _ I3 _ _ ⟨rfl, sa3, sp3, da3, dp3, rfl⟩ hle hm; have hleI3 := hle; try simp only [setn] at hm; have hCf3 := hCf1.le hleI3)|(refine i_indexAddr (d:=146) (hr:=hri1.le hleI3) (k:=?_); intro bu ou hpu; rw [show ((j : Int).toNat * 10) = j * 10 from rfl, hci] at hpu)|refine m_load1 hm (k:=?_)|refine i_load1 hm (k:=?_)|refine i_load1z hm (k:=?_)|refine iq_load1 hm (k:=?_)|refine op_move (k:=?_)|refine op_assign (k:=?_)|refine op_lss (k:=?_)|refine op_not (k:=?_)|refine op_nilCheck (k:=?_)|refine op_fieldAddr (k:=?_)|refine wl_nil ?_|refine at_then_normal ?_|refine at_then_exit ?_|refine at_block_exit ?_|refine wc_seq ?_|refine wc_region ?_|refine wc_skip ?_|refine wc_exit ?_|refine wc_ret ?_|refine at_ret1 (h:=?_)|(refine wq_nil_tail ?_; intro _ hkq; replace hm := hm.kept0 hkq; clear hkq)|refine wc_cond_true (ht:=?_)|refine wc_cond_false (hf:=?_)|(refine wc_cond_dec (ht:=fun _ => ?_) (hf:=fun _ => ?_)<;> (try first | contradiction | (exfalso; omega)))|refine q_move (k:=?_)|refine q_nilCheck (k:=?_)|refine q_fieldAddr (k:=?_))
        all_goals try (exfalso; omega)
        exact ⟨I3, _, ⟨rfl, _, _, _, _, rfl⟩, hm⟩
end
end Go.Proofs.YthmdffgiockcbaaGreatDoor
end
section
namespace Go.Proofs.YthmdffgiockcbaaGreatDoor
open Go.Fw
section
variable {its : List Sp.Itm} {it : Sp.Itm} {bc bf : Nat} {a : Option Addr} {cp : Nat} {xs : List Value} {pi vf : Value} {sc : List Sp.Lc} {at_ : Int} {un : Nat}
set_option maxHeartbeats 16000000 in
theorem f_expr (hun : un < 256) (hsc : sc.length ≤ 1099511627776) (hsl : Sp.scLab sc) : ∀ (n : Nat) (e : Sp.Ex), SizeOf.sizeOf e ≤ n → e.small → ExprOk its it bc bf a cp xs pi vf sc at_ un e := by
  intro n
  induction n with
  | zero => intro e h; cases e; simp at h
  | succ n ih =>
  intro e hsz hsm I b o tc ea ec ys s sa sp da dp hn hC hp hr hx
  obtain ⟨hal, hasm⟩ := Sp.small_args hsm
  have hcnt := Sp.Ex.cnt_eq e
  refine CalM.of fun w E hm => enter (N := 86) Tryz.func172 rfl [(0, ptr bc), (1, .pointer (some ⟨b, o, none⟩)), (2, nt un)] args3 rfl ?_
  have hcore := Sp.coreF_ds its at_ sc un e s
  rw [Sp.exF_eq]
  have hlt := Sp.exF_lt hC.lab at_ hsl un e s
  rw [Sp.exF_eq] at hlt
  dsimp only at hlt ⊢
  have hcr : Sp.coreF its at_ sc un e s = if e.kind = 2 then (Sp.getF sc e.name, s) else if e.kind = 3 then Sp.opsF its at_ sc un e.args 0 s else
    if e.kind = 4 then (Sp.callLab its e.name, Sp.askFloor its un e.name e.fr e.to (Sp.argsF its at_ sc un e.name e.args 0 s)) else (0, s) := rfl
  generalize Sp.coreF its at_ sc un e s = r at hcr hcore hlt ⊢
  repeat' (first|(refine wc_cut_regH 2 (fun _ : FX => [(0, ptr bc), (1, .pointer (some ⟨b, o, none⟩)), (2, nt un), (7, nt r.1)]) (fun x w' => Mem E x.I (FSt bc bf pi sc x.sa x.sp r.2 x.da x.dp vf at_) w' ∧ Le I x.I) ?_ ?_)|refine op_assign (k:=?_)|refine wl_nil ?_|refine at_then_normal ?_|refine wc_seq ?_|refine wc_region ?_)
  · refine ⟨?_⟩
    by_cases k2 : e.kind = 2
    · rw [if_pos k2] at hcr
      subst hcr
      have hg := CalR.flow (I := I) (bc := bc) (bf := bf) (pi := pi) (sc := sc) (sa := sa) (sp := sp) (s := s) (da := da) (dp := dp) (vf := vf) (at_ := at_) (fun J m h => f_get0 e.name hsc h)
      repeat' (first|(refine m_readC (d:=20) hm (hs:=sub3_0) (hc:=by exact hg) (k:=?_); clear hm; intro _ hm)|refine i_load1 hm (k:=?_)|refine op_move (k:=?_)|refine op_assign (k:=?_)|refine op_eql (k:=?_)|refine op_nilCheck (k:=?_)|refine op_fieldAddr (k:=?_)|refine wl_nil ?_|refine at_then_normal ?_|refine at_block_normal ?_|refine wc_seq ?_|refine wc_region ?_|refine wc_block ?_|(refine wc_cond_dec (ht:=fun _ => ?_) (hf:=fun _ => ?_)<;> (try first | contradiction | (exfalso; omega))))
      all_goals try (exfalso; omega)
      exact at_cut (⟨0, I, sa, sp, da, dp⟩ : FX) (by exact ⟨rfl, rfl, rfl, rfl, trivial⟩) ⟨hm, Le.refl _⟩
    rw [if_neg k2] at hcr
    by_cases k3 : e.kind = 3
    · rw [if_pos k3] at hcr
      repeat' (first|refine i_load1 hm (k:=?_)|refine op_move (k:=?_)|refine op_assign (k:=?_)|refine op_eql (k:=?_)|refine op_len_slice (k:=?_)|refine op_nilCheck (k:=?_)|refine op_fieldAddr (k:=?_)|refine wl_nil ?_|refine at_then_normal ?_|refine wc_seq ?_|refine wc_region ?_|refine wc_block ?_|(refine wc_cond_dec (ht:=fun _ => ?_) (hf:=fun _ => ?_)<;> (try first | contradiction | (exfalso; omega))))
      all_goals try (exfalso; omega)
      refine wc_loop (fun x : FX => [(0, ptr bc), (1, .pointer (some ⟨b, o, none⟩)), (2, nt un), (7, nt (Sp.opsF its at_ sc un (e.args.take x.k) 0 s).1), (27, nt e.args.length), (28, nt x.k)])
        (fun x w' => Mem E x.I (FSt bc bf pi sc x.sa x.sp (Sp.opsF its at_ sc un (e.args.take x.k) 0 s).2 x.da x.dp vf at_) w' ∧ Le I x.I ∧ x.k ≤ e.args.length) (fun x => e.args.length - x.k) ⟨0, I, sa, sp, da, dp⟩
        (by exact ⟨rfl, rfl, rfl, by rw [List.take_zero, Sp.opsF]; rfl, rfl, rfl, trivial⟩) ⟨by dsimp only; rw [List.take_zero, Sp.opsF]; exact hm, Le.refl _, Nat.zero_le _⟩ ?_
      clear hm
      rintro ⟨k, I1, sa1, sp1, da1, dp1⟩ w1 ⟨hm, hle1, hk⟩
      dsimp only at hm hle1 hk ⊢
      have hC1 := hC.le hle1
      have hp1 := hp.le hle1
      have hrow := hr.le hle1
      by_cases hlt : k < e.args.length
      · have hg : e.args[k]? = some e.args[k] := List.getElem?_eq_getElem hlt
        have hsz2 := Sp.size_args (List.getElem_mem hlt)
        have hsm2 := Sp.exsSmall_get hasm hg
        obtain ⟨ea2, ec2, ys2, hc2, hr2, hx2⟩ := (hx.get hg).out
        generalize e.args[k] = y at hg hsz2 hsm2 hc2 hr2 hx2
        have hst := Sp.opsF_step its at_ sc un hg 0 s
        have hcy := Sp.exsCnt_take_le hg
        have hnn := Sp.opsF_n its at_ sc un (e.args.take k) 0 s
        have hl1 := Sp.opsF_lt hC.lab at_ hsl un (e.args.take k) 0 s (by omega)
        generalize Sp.opsF its at_ sc un (e.args.take k) 0 s = q at hm hst hnn hl1 ⊢
        have hcl := ih y (by omega) hsm2
        have hl2 := Sp.exF_lt hC.lab at_ hsl un y q.2
        have hcl2 := fun b o tc (hpt : PtrI I1 b o tc (exCells y ea2 ec2)) => hcl I1 b o tc ea2 ec2 ys2 q.2 sa1 sp1 da1 dp1 (by omega) hC1 hpt (hr2.le hle1) (ExsAt.le hle1 _ _ hx2)
        generalize Sp.exF its at_ sc un y q.2 = p at hcl2 hst hl2
        repeat' (first|(refine i_indexAddr (d:=38) (hr:=hrow) (k:=?_); intro bt ot hpt; rw [show ((k : Int).toNat * 6) = k * 6 from rfl, hc2] at hpt)|(refine m_call (d:=40) hm (hc:=hcl2 _ _ _ hpt) (k:=?_); clear hm; rintro _ I2 _ _ ⟨rfl, sa2, sp2, da2, dp2, rfl⟩ hle hm; have hleI2 := hle; try simp only [setn] at hm)|(refine op_call (d:=41) (hc:=by exact c_join _ _ hl1 hl2 _) (k:=?_); rintro _ _ ⟨rfl, rfl⟩)|refine i_load1 hm (k:=?_)|refine op_move (k:=?_)|refine op_assign (k:=?_)|refine op_lss (k:=?_)|refine op_nilCheck (k:=?_)|refine op_add (k:=?_)|refine op_fieldAddr (k:=?_)|refine wl_nil ?_|refine at_then_normal ?_|refine at_block_normal ?_|refine wc_seq ?_|refine wc_region ?_|refine wc_block ?_|refine wc_skip ?_|(refine wc_cond_dec (ht:=fun _ => ?_) (hf:=fun _ => ?_)<;> (try first | contradiction | (exfalso; omega))))
        all_goals try (exfalso; omega)
        exact at_round (⟨k + 1, I2, sa2, sp2, da2, dp2⟩ : FX) (by exact ⟨rfl, rfl, rfl, by rw [hst]; rfl, rfl, rfl, trivial⟩) ⟨by dsimp only; rw [hst]; exact hm, hle1.trans hleI2, by dsimp only; omega⟩ (by dsimp only; omega)
      · obtain rfl : k = e.args.length := by omega
        rw [List.take_length, ← hcr] at hm
        rw [List.take_length, ← hcr]
        repeat' (first|refine op_lss (k:=?_)|refine wl_nil ?_|refine at_then_normal ?_|refine at_then_exit ?_|refine at_block_normal ?_|refine at_block_exit ?_|refine wc_seq ?_|refine wc_region ?_|refine wc_exit ?_|(refine wc_cond_dec (ht:=fun _ => ?_) (hf:=fun _ => ?_)<;> (try first | contradiction | (exfalso; omega))))
        all_goals try (exfalso; omega)
        exact at_cut (⟨0, I1, sa1, sp1, da1, dp1⟩ : FX) (by exact ⟨rfl, rfl, rfl, rfl, trivial⟩) ⟨hm, hle1⟩
    rw [if_neg k3] at hcr
    by_cases k4 : e.kind = 4
    · rw [if_pos k4] at hcr
      subst hcr
      have hc := f_call (at_ := at_) hun hsc hsl e hsm (fun y hy => ih y (by have := Sp.size_args hy; omega) (by obtain ⟨j, hj, rfl⟩ := List.getElem_of_mem hy; exact Sp.exsSmall_get hasm (List.getElem?_eq_getElem hj))) I b o tc ea ec ys s sa sp da dp hn hC hp hr hx
      repeat' (first|(refine m_call (d:=48) hm (hc:=hc) (k:=?_); clear hm; rintro _ I2 _ _ ⟨rfl, sa2, sp2, da2, dp2, rfl⟩ hle hm; have hleI2 := hle; try simp only [setn] at hm)|refine i_load1 hm (k:=?_)|refine op_move (k:=?_)|refine op_assign (k:=?_)|refine op_eql (k:=?_)|refine op_nilCheck (k:=?_)|refine op_fieldAddr (k:=?_)|refine wl_nil ?_|refine at_then_normal ?_|refine at_block_normal ?_|refine wc_seq ?_|refine wc_region ?_|refine wc_block ?_|(refine wc_cond_dec (ht:=fun _ => ?_) (hf:=fun _ => ?_)<;> (try first | contradiction | (exfalso; omega))))
      all_goals try (exfalso; omega)
      exact at_cut (⟨0, I2, sa2, sp2, da2, dp2⟩ : FX) (by exact ⟨rfl, rfl, rfl, rfl, trivial⟩) ⟨hm, hleI2⟩
    · rw [if_neg k4] at hcr
      subst hcr
      repeat' (first|refine i_load1 hm (k:=?_)|refine op_move (k:=?_)|refine op_assign (k:=?_)|refine op_eql (k:=?_)|refine op_nilCheck (k:=?_)|refine op_fieldAddr (k:=?_)|refine wl_nil ?_|refine at_then_normal ?_|refine at_block_normal ?_|refine wc_seq ?_|refine wc_region ?_|refine wc_block ?_|refine wc_skip ?_|(refine wc_cond_dec (ht:=fun _ => ?_) (hf:=fun _ => ?_)<;> (try first | contradiction | (exfalso; omega))))
      all_goals try (exfalso; omega)
      exact at_cut (⟨0, I, sa, sp, da, dp⟩ : FX) (by exact ⟨rfl, rfl, rfl, rfl, trivial⟩) ⟨hm, Le.refl _⟩
  · clear hm
    rintro ⟨_, I1, sa1, sp1, da1, dp1⟩ w1 ⟨hm, hle1⟩
    dsimp only at hm hle1 ⊢
    have hp1 := hp.le hle1
    clear hcr hp hr hx
    cases hv : r.2.hv with
    | some m =>
      rw [Sp.hit_some hv]
      have e1 : r.2 = ⟨r.2.ds, some m⟩ := by rw [← hv]
      rw [e1] at hm ⊢
      repeat' (first|refine mq_load1 hm (k:=?_)|refine op_move (k:=?_)|refine op_assign (k:=?_)|refine wl_nil ?_|refine at_then_normal ?_|refine wc_seq ?_|refine wc_region ?_|refine wc_skip ?_|refine wc_ret ?_|refine at_ret1 (h:=?_)|refine wc_quiet (h:=?_)|(refine wq_nil ?_; intro _ hkq; replace hm := hm.kept0 hkq; clear hkq)|refine wc_cond_false (hf:=?_)|refine q_move (k:=?_)|refine q_pick_false (k:=?_)|refine q_not (k:=?_)|refine q_nilCheck (k:=?_)|refine q_fieldAddr (k:=?_)|refine wq_skip (k:=?_))
      all_goals try (exfalso; omega)
      exact ⟨I1, _, ⟨rfl, _, _, _, _, rfl⟩, hm⟩
    | none =>
      have e1 : r.2 = ⟨r.2.ds, none⟩ := by rw [← hv]
      by_cases hh : (e.fr : Int) ≤ at_ ∧ at_ < e.to
      · rw [Sp.hit_pos hv hh.1 hh.2]
        rw [e1] at hm
        repeat' (first|(refine op_call (d:=80) (hc:=by exact c_join _ _ hlt hun _) (k:=?_); rintro _ _ ⟨rfl, rfl⟩)|refine mq_load1 hm (k:=?_)|refine iq_load1 hm (k:=?_)|(refine m_store1 hm (k:=?_); clear hm; intro _ hm; try simp only [setn] at hm)|refine op_move (k:=?_)|refine op_assign (k:=?_)|refine op_nilCheck (k:=?_)|refine op_fieldAddr (k:=?_)|refine wl_nil ?_|refine at_then_normal ?_|refine wc_seq ?_|refine wc_region ?_|refine wc_ret ?_|refine at_ret1 (h:=?_)|refine wc_quiet (h:=?_)|(refine wq_nil ?_; intro _ hkq; replace hm := hm.kept0 hkq; clear hkq)|(refine wc_cond_dec (ht:=fun _ => ?_) (hf:=fun _ => ?_)<;> (try first | contradiction | (exfalso; omega)))|refine q_move (k:=?_)|refine q_pick_true (k:=?_)|refine q_lss (k:=?_)|refine q_leq (k:=?_)|refine q_not (k:=?_)|refine q_nilCheck (k:=?_)|refine q_fieldAddr (k:=?_)|(refine wq_split_dec (h1:=fun _ => ?_) (h0:=fun _ => ?_)<;> (try first | contradiction | (exfalso; omega))))
        all_goals try (exfalso; omega)
        exact ⟨I1, _, ⟨rfl, _, _, _, _, rfl⟩, hm⟩
      · rw [Sp.hit_neg hh]
        rw [e1] at hm ⊢
        repeat' (first|refine mq_load1 hm (k:=?_)|refine iq_load1 hm (k:=?_)|refine op_move (k:=?_)|refine op_assign (k:=?_)|refine wl_nil ?_|refine at_then_normal ?_|refine wc_seq ?_|refine wc_region ?_|refine wc_skip ?_|refine wc_ret ?_|refine at_ret1 (h:=?_)|refine wc_quiet (h:=?_)|(refine wq_nil ?_; intro _ hkq; replace hm := hm.kept0 hkq; clear hkq)|refine wc_cond_false (hf:=?_)|(refine wc_cond_dec (ht:=fun _ => ?_) (hf:=fun _ => ?_)<;> (try first | contradiction | (exfalso; omega)))|refine q_move (k:=?_)|refine q_pick_true (k:=?_)|refine q_pick_false (k:=?_)|refine q_lss (k:=?_)|refine q_leq (k:=?_)|refine q_not (k:=?_)|refine q_nilCheck (k:=?_)|refine q_fieldAddr (k:=?_)|refine wq_skip (k:=?_)|(refine wq_split_dec (h1:=fun _ => ?_) (h0:=fun _ => ?_)<;> (try first | contradiction | (exfalso; omega))))
        all_goals try (exfalso; omega)
        all_goals exact ⟨I1, _, ⟨rfl, _, _, _, _, rfl⟩, hm⟩
end
end Go.Proofs.YthmdffgiockcbaaGreatDoor
end
section
namespace Go.Sp
def coreStm (its : List Itm) (own : Nat) (at_ : Int) (x : Stm) (sc : List Lc) (a : Nat) (s : FW) : List Lc × FW :=
  if x.kind = 1 then (sc ++ [⟨x.name, if x.opn = true then a else x.label⟩], s.ask a (if x.opn = true then a else x.label) x.fr x.to x.name) else
  if x.kind = 2 then (sc, s.ask a (getF sc x.name) x.fr x.to x.name) else
  if x.kind = 5 then (sc, askCh its a x.name x.fr x.to s) else
  if x.kind = 6 then (sc, s.ask a own x.fr x.to x.name) else
  if x.kind = 3 ∨ x.kind = 4 then (sc, (stmsF its own at_ x.els sc a (stmsF its own at_ x.thn sc a s).2).2) else (sc, s)
theorem stmF_eq (its : List Itm) (own : Nat) (at_ : Int) (x : Stm) (sc : List Lc) (un : Nat) (s : FW) :
    stmF its own at_ x sc un s = coreStm its own at_ x sc ((exF its at_ sc (unF its sc x.kind un x.e) x.e s).1 ||| unF its sc x.kind un x.e) (exF its at_ sc (unF its sc x.kind un x.e) x.e s).2 := by
  cases x; rw [stmF, coreStm]; rfl
theorem stmsF_lab {its : List Itm} (h : itLab its) (own : Nat) (at_ : Int) : ∀ (l : List Stm) {sc : List Lc}, scLab sc → ∀ {un : Nat}, un < 256 → stmsAll anyP labS l → ∀ (s : FW), scLab (stmsF its own at_ l sc un s).1
  | [], sc, hs, un, hu, _, s => by rw [stmsF]; exact hs
  | x :: l, sc, hs, un, hu, hx, s => by
    rw [stmsAll] at hx
    rw [stmsF]
    exact stmsF_lab h own at_ l (stmF_lab h own at_ x hs hu (Stm.all_node hx.1).1 s) hu hx.2 _
end Go.Sp
namespace Go.Proofs.YthmdffgiockcbaaGreatDoor
open Go.Fw
section
variable (its : List Sp.Itm) (it : Sp.Itm) (bc bf : Nat) (a : Option Addr) (cp : Nat) (xs : List Value) (pi vf : Value) (at_ : Int)
def StmOk (x : Sp.Stm) : Prop :=
  ∀ (I : Imm) (b o tc : Nat) (cs : List Value) (un : Nat) (sc : List Sp.Lc) (s : Sp.FW) (sa : Option Addr) (sp : Nat) (da : Option Addr) (dp : Nat), un < 256 → Sp.scLab sc → sc.length + x.cnt ≤ 1000000000 → s.ds.length + 2 * x.cnt ≤ 1000000000 → FC I its it bf a cp xs pi vf →
    PtrI I b o tc cs → StAt I x cs →
    CalM Tryz.prog 137 #[ptr bc, .pointer (some ⟨b, o, none⟩), nt un] I (FSt bc bf pi sc sa sp s da dp vf at_) (ToF bc bf pi vf at_ (Sp.stmF its it.label at_ x sc un s).1 (Sp.stmF its it.label at_ x sc un s).2 (.tuple #[]))
def BlkOk (l : List Sp.Stm) : Prop :=
  ∀ (I : Imm) (ab : Option Addr) (cb : Nat) (xb : List Value) (un : Nat) (sc : List Sp.Lc) (s : Sp.FW) (sa : Option Addr) (sp : Nat) (da : Option Addr) (dp : Nat), un < 256 → Sp.scLab sc → sc.length + Sp.stmsCnt l ≤ 1000000000 → s.ds.length + 2 * Sp.stmsCnt l ≤ 1000000000 → FC I its it bf a cp xs pi vf →
    RowI I 104 15 (.slice ab l.length cb) l.length xb → StsAt I l xb →
    CalM Tryz.prog 115 #[ptr bc, .slice ab l.length cb, nt un] I (FSt bc bf pi sc sa sp s da dp vf at_) (ToF bc bf pi vf at_ sc (Sp.stmsF its it.label at_ l sc un s).2 (.tuple #[]))
end
section
variable {its : List Sp.Itm} {it : Sp.Itm} {bc bf : Nat} {a : Option Addr} {cp : Nat} {xs : List Value} {pi vf : Value} {at_ : Int}
set_option maxHeartbeats 16000000 in
theorem f_block (l : List Sp.Stm) (hl : l.length ≤ 64) (hlab : Sp.stmsAll Sp.anyP Sp.labS l) (hS : ∀ y ∈ l, StmOk its it bc bf a cp xs pi vf at_ y) : BlkOk its it bc bf a cp xs pi vf at_ l := by
  intro I ab cb xb un sc s sa sp da dp hun hsl hn1 hn2 hC hr hx
  refine CalM.of fun w E hm => enter (N := 34) Tryz.func115 rfl [(0, ptr bc), (1, .slice ab l.length cb), (2, nt un)] args3 rfl ?_
  repeat' (first|refine m_load1 hm (k:=?_)|refine op_move (k:=?_)|refine op_assign (k:=?_)|refine op_len_slice (k:=?_)|refine op_nilCheck (k:=?_)|refine op_fieldAddr (k:=?_)|refine wl_nil ?_|refine at_then_normal ?_|refine wc_seq ?_|refine wc_region ?_|refine wc_block ?_)
  refine wc_loop (fun x : FX => [(0, ptr bc), (1, .slice ab l.length cb), (2, nt un), (6, nt sc.length), (14, nt l.length), (15, nt x.k)])
    (fun x w' => Mem E x.I (FSt bc bf pi (Sp.stmsF its it.label at_ (l.take x.k) sc un s).1 x.sa x.sp (Sp.stmsF its it.label at_ (l.take x.k) sc un s).2 x.da x.dp vf at_) w' ∧ Le I x.I ∧ x.k ≤ l.length) (fun x => l.length - x.k) ⟨0, I, sa, sp, da, dp⟩
    (by exact ⟨rfl, rfl, rfl, rfl, rfl, rfl, trivial⟩) ⟨by dsimp only; rw [List.take_zero, Sp.stmsF]; exact hm, Le.refl _, Nat.zero_le _⟩ ?_
  clear hm
  rintro ⟨k, I1, sa1, sp1, da1, dp1⟩ w1 ⟨hm, hle1, hk⟩
  dsimp only at hm hle1 hk ⊢
  have hC1 := hC.le hle1
  have hrow := hr.le hle1
  by_cases hlt : k < l.length
  · have hg : l[k]? = some l[k] := List.getElem?_eq_getElem hlt
    have hmem := List.getElem_mem hlt
    obtain ⟨cs, hcs⟩ : ∃ cs, cs = (xb.drop (k * 15)).take 15 := ⟨_, rfl⟩
    have hat := hx.get hg
    rw [← hcs] at hat
    have hSk := hS _ hmem
    generalize l[k] = y at hg hmem hat hSk
    have hst := Sp.stmsF_step its it.label at_ hg sc un s
    have hcy := Sp.stmsCnt_take_le hg
    have hnn := Sp.stmsF_n its it.label at_ (l.take k) sc un s
    have hsl1 := Sp.stmsF_lab hC.lab it.label at_ (l.take k) hsl hun (Sp.stmsAll_take k hlab) s
    have htl : (l.take k).length = k := by rw [List.length_take]; omega
    generalize Sp.stmsF its it.label at_ (l.take k) sc un s = q at hm hst hnn hsl1
    have hkc : k ≤ Sp.stmsCnt (l.take k) := by
      have key : ∀ (l : List Sp.Stm), l.length ≤ Sp.stmsCnt l := by
        intro l
        induction l with
        | nil => simp
        | cons x l ih => rw [Sp.stmsCnt, List.length_cons]; have := Sp.Stm.cnt_eq x; omega
      have := key (l.take k)
      omega
    have hcl := fun b o (hpt : PtrI I1 b o 104 cs) => hSk I1 b o 104 cs un q.1 q.2 sa1 sp1 da1 dp1 hun hsl1 (by omega) (by omega) hC1 hpt (StAt.le hle1 _ _ hat)
    generalize Sp.stmF its it.label at_ y q.1 un q.2 = p at hcl hst
    repeat' (first|(refine i_indexAddr (d:=21) (hr:=hrow) (k:=?_); intro bt ot hpt; rw [show ((k : Int).toNat * 15) = k * 15 from rfl, ← hcs] at hpt)|(refine m_call (d:=23) hm (hc:=hcl _ _ hpt) (k:=?_); clear hm; rintro _ I2 _ _ ⟨rfl, sa2, sp2, da2, dp2, rfl⟩ hle hm; have hleI2 := hle; try simp only [setn] at hm)|refine op_move (k:=?_)|refine op_assign (k:=?_)|refine op_lss (k:=?_)|refine op_add (k:=?_)|refine wl_nil ?_|refine at_then_normal ?_|refine at_block_normal ?_|refine wc_seq ?_|refine wc_region ?_|refine wc_block ?_|refine wc_skip ?_|(refine wc_cond_dec (ht:=fun _ => ?_) (hf:=fun _ => ?_)<;> (try first | contradiction | (exfalso; omega))))
    all_goals try (exfalso; omega)
    exact at_round (⟨k + 1, I2, sa2, sp2, da2, dp2⟩ : FX) (by exact ⟨rfl, rfl, rfl, rfl, rfl, rfl, trivial⟩) ⟨by dsimp only; rw [hst]; exact hm, hle1.trans hleI2, by dsimp only; omega⟩ (by dsimp only; omega)
  · obtain rfl : k = l.length := by omega
    have hback := Sp.stmsF_back its it.label at_ l sc un s
    have hpl := (Sp.stmsF_n its it.label at_ l sc un s).2.2.1
    rw [List.take_length] at hm
    generalize Sp.stmsF its it.label at_ l sc un s = q at hm hback hpl ⊢
    repeat' (first|(refine m_sliceTo (d:=31) hm (hmn:=hpl) (k:=?_); clear hm; intro hm; try simp only [setn] at hm)|refine m_load1 hm (k:=?_)|(refine m_store1 hm (k:=?_); clear hm; intro _ hm; try simp only [setn] at hm)|refine op_move (k:=?_)|refine op_lss (k:=?_)|refine op_nilCheck (k:=?_)|refine op_fieldAddr (k:=?_)|refine wl_nil ?_|refine at_then_normal ?_|refine at_then_exit ?_|refine at_block_exit ?_|refine wc_seq ?_|refine wc_region ?_|refine wc_exit ?_|refine at_end0 (h:=?_)|(refine wc_cond_dec (ht:=fun _ => ?_) (hf:=fun _ => ?_)<;> (try first | contradiction | (exfalso; omega))))
    all_goals try (exfalso; omega)
    refine ⟨I1, _, ⟨rfl, sa1, sp1, da1, dp1, ?_⟩, hm⟩
    have e : (q.1.flatMap encLc).take (sc.length * 2) = sc.flatMap encLc := by
      have key : ∀ (l : List Sp.Lc) (n : Nat), (l.flatMap encLc).take (n * 2) = (l.take n).flatMap encLc := by
        intro l
        induction l with
        | nil => intro n; simp
        | cons x l ih =>
          intro n
          cases n with
          | zero => simp
          | succ n =>
            rw [List.flatMap_cons, List.take_succ_cons, List.flatMap_cons, show (n + 1) * 2 = 2 + n * 2 by omega, List.take_append, List.take_of_length_le (by show 2 ≤ 2 + n * 2; omega), show 2 + n * 2 - (encLc x).length = n * 2 by (show 2 + n * 2 - 2 = n * 2; omega), ih]
      rw [key, hback]
    rw [e]
end
end Go.Proofs.YthmdffgiockcbaaGreatDoor
end
