/- Own work: texts RfB, RnC, RnD, one behind the other. -/
import Derived.Test.YtkbiakajlfmakaaGreatDoorFt23
section
namespace Go.Sp
def twoP : PE := fun k _ _ m _ _ => k = 3 → m = 2
mutual
theorem exF_plain (its : List Itm) (at_ : Int) (sc : List Lc) (un : Nat) : ∀ (e : Ex) (s : FW), (exF its at_ sc un e s).1 = plainF its sc e
  | .mk k nm n args f t, s => by
    rw [exF, plainF]
    split
    · rfl
    · split
      · exact opsF_plain its at_ sc un args 0 s
      · split <;> rfl
theorem opsF_plain (its : List Itm) (at_ : Int) (sc : List Lc) (un : Nat) : ∀ (l : List Ex) (n : Nat) (s : FW), (opsF its at_ sc un l n s).1 = plainsF its sc l n
  | [], n, s => by rw [opsF, plainsF]
  | e :: l, n, s => by rw [opsF, plainsF, exF_plain its at_ sc un e s, opsF_plain its at_ sc un l]
 end
theorem two_args {l : List Ex} (h : l.length = 2) : ∃ x y, l = [x, y] := by
  match l, h with
  | [x, y], _ => exact ⟨x, y, rfl⟩
end Go.Sp
namespace Go.Proofs.YtkbiakajlfmakaaGreatDoor
open Go.Fw
structure RfX where
  k : Nat
  I : Imm
  da : Option Addr
  dp : Nat
/-- what is shown of an expression's secrets. -/
def RfExOk (its : List Sp.Itm) (i bc : Nat) (a : Option Addr) (cp : Nat) (xs : List Value) (sc : List Sp.Lc) (be : Nat) (es : Ents) (at_ : Int) (un : Nat) (e : Sp.Ex) : Prop :=
  ∀ (I : Imm) (ea : Option Addr) (ec : Nat) (ys : List Value) (s : Sp.FW) (da : Option Addr) (dp : Nat), s.ds.length + 2 * e.cnt ≤ 1000000000 → FE I its a cp xs → EnvF I sc be es →
    RowI I 100 6 (.slice ea e.args.length ec) e.args.length ys → ExsAt I e.args ys →
    CalM Tryz.prog 48 #[ptr bc, .map (some be), .agg (exCells e ea ec).toArray, nt un] I (RfSt bc a its.length cp i s da dp at_) (ToRf bc a its.length cp i at_ (Sp.exF its at_ sc un e s).2 (nt (Sp.exF its at_ sc un e s).1))
section
variable {its : List Sp.Itm} {i bc : Nat} {a : Option Addr} {cp : Nat} {xs : List Value} {sc : List Sp.Lc} {be : Nat} {es : Ents} {at_ : Int} {un : Nat}
set_option maxHeartbeats 32000000 in
theorem rf_expr (hun : un < 256) (hsl : Sp.scLab sc) (hlab : Sp.itLab its) (hits : ∀ x ∈ its, x.small) : ∀ (n : Nat) (e : Sp.Ex), SizeOf.sizeOf e ≤ n → e.small → e.all Sp.twoP → RfExOk its i bc a cp xs sc be es at_ un e := by
  intro n
  induction n with
  | zero => intro e h; cases e; simp at h
  | succ n ih =>
  intro e hsz hsm hall I ea ec ys s da dp hn hC hE hr hx
  obtain ⟨hal, hasm⟩ := Sp.small_args hsm
  obtain ⟨htwo, haall⟩ := Sp.Ex.all_node hall
  have hcnt := Sp.Ex.cnt_eq e
  have hfew := hC.few
  refine CalM.of fun w E hm => enter (N := 165) Tryz.func48 rfl [(0, ptr bc), (1, .map (some be)), (2, .agg (exCells e ea ec).toArray), (3, nt un)] args4 rfl ?_
  have hcore := Sp.coreF_ds its at_ sc un e s
  rw [Sp.exF_eq]
  have hlt := Sp.exF_lt hlab at_ hsl un e s
  rw [Sp.exF_eq] at hlt
  dsimp only at hlt ⊢
  have hcr : Sp.coreF its at_ sc un e s = if e.kind = 2 then (Sp.getF sc e.name, s) else if e.kind = 3 then Sp.opsF its at_ sc un e.args 0 s else
    if e.kind = 4 then (Sp.callLab its e.name, Sp.askFloor its un e.name e.fr e.to (Sp.argsF its at_ sc un e.name e.args 0 s)) else (0, s) := rfl
  generalize Sp.coreF its at_ sc un e s = r at hcr hcore hlt ⊢
  repeat' (first
  | (refine wc_cut_regN 2 (fun _ : RfX => [(0, ptr bc), (1, .map (some be)), (3, nt un), (6, ptr b6), (9, nt r.1)]) (fun x w' => Mem E x.I (RfSt bc a its.length cp i r.2 x.da x.dp at_) w' ∧ Le I x.I ∧ PtrI x.I b6 0 100 (exCells e ea ec)) ?_ ?_)
  | (refine m_box (d:=6) hm (k:=?_); clear hm; intro b6 _ hm)
  | refine op_assign (k:=?_)
  | refine wl_nil ?_
  | refine at_then_normal ?_
  | refine wc_seq ?_
  | refine wc_region ?_)
  · obtain ⟨I0, hle0, hm0, hp⟩ := hm.freezeO
    clear hm
    have hm := hm0
    clear hm0
    replace hC := hC.le hle0
    replace hE := hE.le hle0
    replace hr := hr.le hle0
    replace hx := ExsAt.le hle0 _ _ hx
    have hri := hC.row
    refine ⟨?_⟩
    by_cases k2 : e.kind = 2
    · rw [if_pos k2] at hcr
      subst hcr
      repeat' (first
      | (refine op_lookup (d := 22) (by rfl) (by rfl) (by rfl) (by rfl) (hm.mapI hE.map) zero_num ?_; rw [look_lab hE.get])
      | refine i_load1 hm (k:=?_)
      | refine op_move (k:=?_)
      | refine op_assign (k:=?_)
      | refine op_eql (k:=?_)
      | refine op_fieldAddr (k:=?_)
      | refine wl_nil ?_
      | refine at_then_normal ?_
      | refine at_block_normal ?_
      | refine wc_seq ?_
      | refine wc_region ?_
      | refine wc_block ?_
      | (refine wc_cond_dec (ht:=fun _ => ?_) (hf:=fun _ => ?_)<;> (try first | contradiction | (exfalso; omega))))
      all_goals try (exfalso; omega)
      exact at_cut (⟨0, I0, da, dp⟩ : RfX) (by exact ⟨rfl, rfl, rfl, rfl, rfl, trivial⟩) ⟨hm, hle0, hp⟩
    rw [if_neg k2] at hcr
    by_cases k3 : e.kind = 3
    · rw [if_pos k3] at hcr
      obtain ⟨x, y, hxy⟩ := Sp.two_args (htwo k3)
      have hgx : e.args[0]? = some x := by rw [hxy]; rfl
      have hgy : e.args[1]? = some y := by rw [hxy]; rfl
      have hszx := Sp.size_args (show x ∈ e.args by rw [hxy]; simp)
      have hszy := Sp.size_args (show y ∈ e.args by rw [hxy]; simp)
      have hcx := Sp.exsCnt_take_le hgx
      have hcy := Sp.exsCnt_take_le hgy
      obtain ⟨ea1, ec1, ys1, hc1, hr1, hx1⟩ := (hx.get hgx).out
      obtain ⟨ea2, ec2, ys2, hc2, hr2, hx2⟩ := (hx.get hgy).out
      have hX := fun (J : Imm) (m : Le I0 J) => ih x (by omega) (Sp.exsSmall_get hasm hgx) (Sp.exsAll_get haall hgx) J ea1 ec1 ys1 s da dp (by omega) (hC.le m) (hE.le m) (hr1.le m) (ExsAt.le m _ _ hx1)
      have hl1 := Sp.exF_lt hlab at_ hsl un x s
      have hn1 := Sp.exF_n its at_ sc un x s
      rw [hxy, Sp.opsF, Sp.opsF, Sp.opsF, Nat.zero_or] at hcr
      rw [hxy, Sp.exsCnt, Sp.exsCnt, Sp.exsCnt] at hcnt
      generalize Sp.exF its at_ sc un x s = r1 at hX hl1 hn1 hcr
      have hY := fun (J : Imm) (m : Le I0 J) (da : Option Addr) (dp : Nat) => ih y (by omega) (Sp.exsSmall_get hasm hgy) (Sp.exsAll_get haall hgy) J ea2 ec2 ys2 r1.2 da dp (by omega) (hC.le m) (hE.le m) (hr2.le m) (ExsAt.le m _ _ hx2)
      have hl2 := Sp.exF_lt hlab at_ hsl un y r1.2
      generalize Sp.exF its at_ sc un y r1.2 = r2 at hY hl2 hcr
      subst hcr
      have hB := fun (J : Imm) => bothC J r1.1 r2.1 hl1 hl2
      have hlen : (2 : Nat) = e.args.length := by rw [hxy]; rfl
      repeat' (first
      | (refine wc_semi_memL (id:=6) (hm.perm pm2_0) [0,1,2,3,4,5,6,8,9,10,11,12,13,14] [7,15,16] 17 (h:=?_); clear hm; intro wd hR hm)
      | (refine iw_indexAddr (d:=29) (hr:=hr) (k:=?_); intro bt ot hpt; rw [show ((0 : Int).toNat * 6) = 0 * 6 from rfl, hc1] at hpt)
      | (refine iw_indexAddr (d:=37) (hr:=hr) (k:=?_); intro bu ou hpu; rw [show ((1 : Int).toNat * 6) = 1 * 6 from rfl, hc2] at hpu)
      | (refine mt_call (d:=32) hm (hc:=hX I0 (Le.refl _)) (k:=?_); clear hm; rintro _ I2 _ _ ⟨rfl, da2, dp2, rfl⟩ hle hm; have hleI2 := hle; try simp only [setn] at hm)
      | (refine mt_call (d:=40) hm (hc:=hY I2 hleI2 _ _) (k:=?_); clear hm; rintro _ I3 _ _ ⟨rfl, da3, dp3, rfl⟩ hle hm; have hleI3 := hle; try simp only [setn] at hm)
      | (refine mt_readR (d:=41) hR hm (hc:=hB _) (k:=?_); clear hm; intro _ hm)
      | refine iw_load1 hR (k:=?_)
      | refine iw_loadN hR (k:=?_)
      | (refine ws_nil ?_; replace hm := hR.back hm; clear hR; try simp only [setn] at hm)
      | refine i_load1 hm (k:=?_)
      | refine op_assign (k:=?_)
      | refine op_eql (k:=?_)
      | refine op_fieldAddr (k:=?_)
      | refine wl_nil ?_
      | refine at_then_normal ?_
      | refine at_block_normal ?_
      | refine wc_seq ?_
      | refine wc_region ?_
      | refine wc_block ?_
      | (refine wc_cond_dec (ht:=fun _ => ?_) (hf:=fun _ => ?_)<;> (try first | contradiction | (exfalso; omega)))
      | refine v_move (k:=?_)
      | refine v_fieldAddr (k:=?_)
      | refine wv_nil ?_)
      all_goals try (exfalso; omega)
      exact at_cut (⟨0, I3, da3, dp3⟩ : RfX) (by exact ⟨rfl, rfl, rfl, rfl, rfl, trivial⟩) ⟨hm, (hle0.trans hleI2).trans hleI3, (hp.le hleI2).le hleI3⟩
    rw [if_neg k3] at hcr
    by_cases k4 : e.kind = 4
    · rw [if_pos k4] at hcr
      have hfind := (r_find 2 e.name its I0 a cp xs hC).read
      obtain ⟨fv, hfv⟩ : ∃ fv, fv = Sp.findV its 2 e.name := ⟨_, rfl⟩
      rw [← hfv] at hfind
      repeat' (first
      | (refine mq_loadN (n := 1) (d := 47) (vs := [.slice a its.length cp]) hm (by rfl) (by rfl) (by rfl) (by first | exact gt0 | exact gt1 | exact gt2 | exact gt3 | exact gt4 | exact gt5 | exact gt6) (by rfl) (by rfl) ?_)
      | (refine mq_readC (d:=50) hm (hc:=hfind) (k:=?_))
      | refine i_load1 hm (k:=?_)
      | refine iq_load1 hm (k:=?_)
      | refine op_move (k:=?_)
      | refine op_assign (k:=?_)
      | refine op_eql (k:=?_)
      | refine op_len_slice (k:=?_)
      | refine op_fieldAddr (k:=?_)
      | refine wl_nil ?_
      | refine at_then_normal ?_
      | refine wc_seq ?_
      | refine wc_region ?_
      | refine wc_block ?_
      | refine wc_quiet (h:=?_)
      | (refine wq_nil ?_; intro _ hkq; replace hm := hm.kept0 hkq; clear hkq)
      | (refine wc_cond_dec (ht:=fun _ => ?_) (hf:=fun _ => ?_)<;> (try first | contradiction | (exfalso; omega)))
      | refine q_move (k:=?_)
      | refine q_assign (k:=?_)
      | refine q_nilCheck (k:=?_)
      | refine q_fieldAddr (k:=?_))
      all_goals try (exfalso; omega)
      refine wc_loop (fun x : RfX => [(0, ptr bc), (1, .map (some be)), (3, nt un), (6, ptr b6), (9, .int .i64 0), (10, .int .i64 fv), (52, .slice ea e.args.length ec), (53, nt e.args.length), (54, nt x.k)])
        (fun x w' => Mem E x.I (RfSt bc a its.length cp i (Sp.argsF its at_ sc un e.name (e.args.take x.k) 0 s) x.da x.dp at_) w' ∧ Le I0 x.I ∧ x.k ≤ e.args.length) (fun x => e.args.length - x.k) ⟨0, I0, da, dp⟩
        (by exact ⟨rfl, rfl, rfl, rfl, rfl, rfl, rfl, rfl, rfl, trivial⟩) ⟨by dsimp only; rw [List.take_zero, Sp.argsF]; exact hm, Le.refl _, Nat.zero_le _⟩ ?_
      clear hm
      rintro ⟨k, I1, da1, dp1⟩ w1 ⟨hm, hle1, hk⟩
      dsimp only at hm hle1 hk ⊢
      have hC1 := hC.le hle1
      have hri1 := hC1.row
      have hp1 := hp.le hle1
      by_cases hlt2 : k < e.args.length
      · have hg : e.args[k]? = some e.args[k] := List.getElem?_eq_getElem hlt2
        have hmem := List.getElem_mem hlt2
        obtain ⟨ea2, ec2, ys2, hc2, hr2, hx2⟩ := (hx.get hg).out
        have hszk := Sp.size_args hmem
        have hsmk := Sp.exsSmall_get hasm hg
        have halk := Sp.exsAll_get haall hg
        generalize e.args[k] = y at hg hmem hc2 hr2 hx2 hszk hsmk halk
        have hst := Sp.argsF_step its at_ sc un e.name hg s
        have hcy := Sp.exsCnt_take_le hg
        have hnn := Sp.argsF_n its at_ sc un e.name (e.args.take k) 0 s
        generalize Sp.argsF its at_ sc un e.name (e.args.take k) 0 s = s1 at hm hst hnn
        have hcl := fun (J : Imm) (m : Le I0 J) => ih y (by omega) hsmk halk J ea2 ec2 ys2 s1 da1 dp1 (by omega) (hC.le m) (hE.le m) (hr2.le m) (ExsAt.le m _ _ hx2)
        have hl1 := Sp.exF_lt hlab at_ hsl un y s1
        have hnx := Sp.exF_n its at_ sc un y s1
        generalize Sp.exF its at_ sc un y s1 = r2 at hcl hst hl1 hnx
        have hrow := hr.le hle1
        have hl2 := Sp.or_lt hl1 hun
        have hB := fun (J : Imm) => bothC J r2.1 un hl1 hun
        rw [Sp.askArg] at hst
        cases hf : Sp.findIt its 2 e.name with
        | none =>
          rw [hf] at hst
          rw [Sp.findV_none hf] at hfv
          subst hfv
          repeat' (first
          | (refine i_indexAddr (d:=57) (hr:=hrow) (k:=?_); intro bt ot hpt; rw [show ((k : Int).toNat * 6) = k * 6 from rfl, hc2] at hpt)
          | (refine m_call (d:=63) hm (hc:=hcl I1 hle1) (k:=?_); clear hm; rintro _ I2 _ _ ⟨rfl, da2, dp2, rfl⟩ hle hm; have hleI2 := hle; try simp only [setn] at hm)
          | (refine m_readC (d:=65) hm (hc:=hB _) (k:=?_); clear hm; intro _ hm)
          | (refine m_allocS (d:=12) hm (k:=?_); clear hm; intro b12 _ hm)
          | refine m_loadAll hm (k:=?_)
          | refine i_loadN hm (k:=?_)
          | (refine m_storeAll hm (k:=?_); clear hm; intro _ hm; try simp only [setn] at hm)
          | refine op_move (k:=?_)
          | refine op_assign (k:=?_)
          | refine op_pick_false (k:=?_)
          | refine op_lss (k:=?_)
          | refine op_geq (k:=?_)
          | refine op_add (k:=?_)
          | refine wl_skip (k:=?_)
          | refine wl_nil ?_
          | refine at_then_normal ?_
          | refine at_block_normal ?_
          | refine wc_seq ?_
          | refine wc_region ?_
          | refine wc_block ?_
          | refine wc_skip ?_
          | refine wc_cond_false (hf:=?_)
          | (refine wc_cond_dec (ht:=fun _ => ?_) (hf:=fun _ => ?_)<;> (try first | contradiction | (exfalso; omega))))
          all_goals try (exfalso; omega)
          exact at_round (⟨k + 1, I2, da2, dp2⟩ : RfX) (by exact ⟨rfl, rfl, rfl, rfl, rfl, rfl, rfl, rfl, rfl, trivial⟩) ⟨by dsimp only; rw [hst]; exact hm.left, hle1.trans hleI2, by dsimp only; omega⟩ (by dsimp only; omega)
        | some j =>
          rw [hf] at hst
          rw [Sp.findV_some hf] at hfv
          subst hfv
          obtain ⟨hj, _, _, _, hmemj⟩ := Sp.findIt_lt hf
          obtain ⟨ci, hci, hat, hlc⟩ := hC1.get (Sp.itNo_get hj)
          obtain ⟨pa, pc, sa9, sc9, ba, bc9, da9, dc9, xb, rfl, hpars, _⟩ := hat
          have hplab := (hlab _ hmemj).2
          dsimp only at hst
          generalize Sp.itNo its j = itj at hci hpars hplab hst
          by_cases hkp : k < itj.params.length
          · have hgp : itj.params[k]? = some itj.params[k] := List.getElem?_eq_getElem hkp
            have hpl := hplab _ (List.getElem_mem hkp)
            generalize itj.params[k] = q at hgp hpl
            rw [hgp] at hst
            dsimp only at hst
            have hA := fun (J : Imm) (da : Option Addr) (dp : Nat) => rf_ask (I := J) (bc := bc) (a := a) (n := its.length) (cp := cp) (i := i) (s := r2.2) (da := da) (dp := dp) (at_ := at_) (r2.1 ||| un) q.label y.fr y.to q.name hl2 hpl (by omega)
            repeat' (first
            | (refine i_indexAddr (d:=57) (hr:=hrow) (k:=?_); intro bt ot hpt; rw [show ((k : Int).toNat * 6) = k * 6 from rfl, hc2] at hpt)
            | (refine m_call (d:=63) hm (hc:=hcl I1 hle1) (k:=?_); clear hm; rintro _ I2 _ _ ⟨rfl, da2, dp2, rfl⟩ hle hm; have hleI2 := hle; try simp only [setn] at hm)
            | (refine m_readC (d:=65) hm (hc:=hB _) (k:=?_); clear hm; intro _ hm)
            | (refine i_indexAddr (d:=76) (hr:=hri1.le hleI2) (k:=?_); intro bu ou hpu; rw [show ((j : Int).toNat * 10) = j * 10 from rfl, hci] at hpu)
            | (refine i_indexAddr (d:=88) (hr:=hri1.le hleI2) (k:=?_); intro bv ov hpv; rw [show ((j : Int).toNat * 10) = j * 10 from rfl, hci] at hpv)
            | (refine i_indexFlat (d:=92) (enc:=encPar) (z:=q) (hr:=hpars.le hleI2) (he:=fun _ => rfl) (hz:=by exact hgp) (k:=?_); intro bz oz hpz)
            | (refine m_call (d:=104) hm (hc:=hA _ _ _) (k:=?_); clear hm; rintro _ I3 _ _ ⟨rfl, da3, dp3, rfl⟩ hle hm; have hleI3 := hle; try simp only [setn] at hm)
            | (refine m_allocS (d:=12) hm (k:=?_); clear hm; intro b12 _ hm)
            | (refine m_varS (d:=14) hm (k:=?_); clear hm; intro b14 _ hm)
            | refine m_load1 hm (k:=?_)
            | refine i_load1 hm (k:=?_)
            | refine m_loadAll hm (k:=?_)
            | refine i_loadN hm (k:=?_)
            | (refine m_storeAll hm (k:=?_); clear hm; intro _ hm; try simp only [setn] at hm)
            | refine op_move (k:=?_)
            | refine op_assign (k:=?_)
            | refine op_pick_true (k:=?_)
            | refine op_lss (k:=?_)
            | refine op_geq (k:=?_)
            | refine op_len_slice (k:=?_)
            | refine op_nilCheck (k:=?_)
            | refine op_add (k:=?_)
            | refine op_fieldAddr (k:=?_)
            | refine wl_nil ?_
            | refine at_then_normal ?_
            | refine at_block_normal ?_
            | refine wc_seq ?_
            | refine wc_region ?_
            | refine wc_block ?_
            | refine wc_skip ?_
            | (refine wc_cond_dec (ht:=fun _ => ?_) (hf:=fun _ => ?_)<;> (try first | contradiction | (exfalso; omega))))
            all_goals try (exfalso; omega)
            exact at_round (⟨k + 1, I3, da3, dp3⟩ : RfX) (by exact ⟨rfl, rfl, rfl, rfl, rfl, rfl, rfl, rfl, rfl, trivial⟩) ⟨by dsimp only; rw [hst]; exact hm.left, (hle1.trans hleI2).trans hleI3, by dsimp only; omega⟩ (by dsimp only; omega)
          · rw [List.getElem?_eq_none (by omega)] at hst
            dsimp only at hst
            repeat' (first
            | (refine i_indexAddr (d:=57) (hr:=hrow) (k:=?_); intro bt ot hpt; rw [show ((k : Int).toNat * 6) = k * 6 from rfl, hc2] at hpt)
            | (refine m_call (d:=63) hm (hc:=hcl I1 hle1) (k:=?_); clear hm; rintro _ I2 _ _ ⟨rfl, da2, dp2, rfl⟩ hle hm; have hleI2 := hle; try simp only [setn] at hm)
            | (refine m_readC (d:=65) hm (hc:=hB _) (k:=?_); clear hm; intro _ hm)
            | (refine i_indexAddr (d:=76) (hr:=hri1.le hleI2) (k:=?_); intro bu ou hpu; rw [show ((j : Int).toNat * 10) = j * 10 from rfl, hci] at hpu)
            | (refine m_allocS (d:=12) hm (k:=?_); clear hm; intro b12 _ hm)
            | refine m_load1 hm (k:=?_)
            | refine i_load1 hm (k:=?_)
            | refine m_loadAll hm (k:=?_)
            | refine i_loadN hm (k:=?_)
            | (refine m_storeAll hm (k:=?_); clear hm; intro _ hm; try simp only [setn] at hm)
            | refine op_move (k:=?_)
            | refine op_assign (k:=?_)
            | refine op_pick_true (k:=?_)
            | refine op_lss (k:=?_)
            | refine op_geq (k:=?_)
            | refine op_len_slice (k:=?_)
            | refine op_nilCheck (k:=?_)
            | refine op_add (k:=?_)
            | refine op_fieldAddr (k:=?_)
            | refine wl_nil ?_
            | refine at_then_normal ?_
            | refine at_block_normal ?_
            | refine wc_seq ?_
            | refine wc_region ?_
            | refine wc_block ?_
            | refine wc_skip ?_
            | (refine wc_cond_dec (ht:=fun _ => ?_) (hf:=fun _ => ?_)<;> (try first | contradiction | (exfalso; omega))))
            all_goals try (exfalso; omega)
            exact at_round (⟨k + 1, I2, da2, dp2⟩ : RfX) (by exact ⟨rfl, rfl, rfl, rfl, rfl, rfl, rfl, rfl, rfl, trivial⟩) ⟨by dsimp only; rw [hst]; exact hm.left, hle1.trans hleI2, by dsimp only; omega⟩ (by dsimp only; omega)
      · obtain rfl : k = e.args.length := by omega
        rw [List.take_length] at hm
        have hnn := Sp.argsF_n its at_ sc un e.name e.args 0 s
        generalize Sp.argsF its at_ sc un e.name e.args 0 s = s1 at hm hcr hnn
        rw [Sp.askFloor, Sp.callLab] at hcr
        cases hf : Sp.findIt its 2 e.name with
        | none =>
          rw [hf] at hcr
          dsimp only at hcr
          rw [Sp.findV_none hf] at hfv
          subst hfv
          subst hcr
          repeat' (first
          | refine op_move (k:=?_)
          | refine op_lss (k:=?_)
          | refine op_geq (k:=?_)
          | refine wl_nil ?_
          | refine at_then_normal ?_
          | refine at_then_exit ?_
          | refine at_block_normal ?_
          | refine at_block_exit ?_
          | refine wc_seq ?_
          | refine wc_region ?_
          | refine wc_skip ?_
          | refine wc_exit ?_
          | refine wc_cond_false (hf:=?_)
          | (refine wc_cond_dec (ht:=fun _ => ?_) (hf:=fun _ => ?_)<;> (try first | contradiction | (exfalso; omega))))
          all_goals try (exfalso; omega)
          exact at_cut (⟨0, I1, da1, dp1⟩ : RfX) (by exact ⟨rfl, rfl, rfl, rfl, rfl, trivial⟩) ⟨hm, hle0.trans hle1, hp1⟩
        | some j =>
          rw [hf] at hcr
          dsimp only at hcr
          rw [Sp.findV_some hf] at hfv
          subst hfv
          obtain ⟨hj, _, _, _, hmemj⟩ := Sp.findIt_lt hf
          obtain ⟨ci, hci, hat, hlc⟩ := hC1.get (Sp.itNo_get hj)
          have hfl := fun (J : Imm) (m : Le I1 J) => rf_floor J (hC1.le m) hlab hits j hj
          have hfb := Sp.meetF_lt its (Sp.itNo its j).sends
          obtain ⟨pa, pc, sa9, sc9, ba, bc9, da9, dc9, xb, rfl, hpars, _⟩ := hat
          generalize Sp.meetF its (Sp.itNo its j).sends = fl at hfl hfb hcr
          subst hcr
          have hA := fun (J : Imm) (da : Option Addr) (dp : Nat) => rf_ask (I := J) (bc := bc) (a := a) (n := its.length) (cp := cp) (i := i) (s := s1) (da := da) (dp := dp) (at_ := at_) un fl e.fr e.to e.name hun hfb (by omega)
          repeat' (first
          | (refine wc_quiet_tail (id:=18) 14 (h:=?_))
          | (refine mq_loadN (n := 1) (d := 113) (vs := [.slice a its.length cp]) hm (by rfl) (by rfl) (by rfl) (by first | exact gt0 | exact gt1 | exact gt2 | exact gt3 | exact gt4 | exact gt5 | exact gt6) (by rfl) (by rfl) ?_)
          | (refine mq_readC (d:=115) hm (hc:=hfl I1 (Le.refl _)) (k:=?_))
          | (refine m_call (d:=122) hm (hc:=hA _ _ _) (k:=?_); clear hm; rintro _ I3 _ _ ⟨rfl, da3, dp3, rfl⟩ hle hm; have hleI3 := hle; try simp only [setn] at hm)
          | (refine i_indexAddr (d:=129) (hr:=hri1.le hleI3) (k:=?_); intro bv ov hpv; rw [show ((j : Int).toNat * 10) = j * 10 from rfl, hci] at hpv)
          | refine m_load1 hm (k:=?_)
          | refine i_load1 hm (k:=?_)
          | refine iq_load1 hm (k:=?_)
          | refine op_move (k:=?_)
          | refine op_assign (k:=?_)
          | refine op_lss (k:=?_)
          | refine op_geq (k:=?_)
          | refine op_nilCheck (k:=?_)
          | refine op_fieldAddr (k:=?_)
          | refine wl_nil ?_
          | refine at_then_normal ?_
          | refine at_then_exit ?_
          | refine at_block_normal ?_
          | refine at_block_exit ?_
          | refine wc_seq ?_
          | refine wc_region ?_
          | refine wc_exit ?_
          | (refine wq_nil_tail ?_; intro _ hkq; replace hm := hm.kept0 hkq; clear hkq)
          | refine wc_cond_true (ht:=?_)
          | (refine wc_cond_dec (ht:=fun _ => ?_) (hf:=fun _ => ?_)<;> (try first | contradiction | (exfalso; omega)))
          | refine q_move (k:=?_)
          | refine q_nilCheck (k:=?_)
          | refine q_fieldAddr (k:=?_))
          all_goals try (exfalso; omega)
          exact at_cut (⟨0, I3, da3, dp3⟩ : RfX) (by exact ⟨rfl, rfl, rfl, rfl, rfl, trivial⟩) ⟨hm, (hle0.trans hle1).trans hleI3, hp1.le hleI3⟩
    · rw [if_neg k4] at hcr
      subst hcr
      repeat' (first
      | refine i_load1 hm (k:=?_)
      | refine op_assign (k:=?_)
      | refine op_eql (k:=?_)
      | refine op_fieldAddr (k:=?_)
      | refine wl_nil ?_
      | refine at_then_normal ?_
      | refine at_block_normal ?_
      | refine wc_seq ?_
      | refine wc_region ?_
      | refine wc_block ?_
      | refine wc_skip ?_
      | (refine wc_cond_dec (ht:=fun _ => ?_) (hf:=fun _ => ?_)<;> (try first | contradiction | (exfalso; omega))))
      all_goals try (exfalso; omega)
      exact at_cut (⟨0, I0, da, dp⟩ : RfX) (by exact ⟨rfl, rfl, rfl, rfl, rfl, trivial⟩) ⟨hm, hle0, hp⟩
  · clear hm
    rintro ⟨_, I1, da1, dp1⟩ w1 ⟨hm, hle1, hp1⟩
    dsimp only at hm hle1 hp1 ⊢
    have hB := fun (J : Imm) => bothC J r.1 un hlt hun
    clear hcr hr hx
    cases hv : r.2.hv with
    | some m =>
      rw [Sp.hit_some hv]
      have e1 : r.2 = ⟨r.2.ds, some m⟩ := by rw [← hv]
      rw [e1] at hm ⊢
      repeat' (first
      | refine mq_load1 hm (k:=?_)
      | refine op_move (k:=?_)
      | refine op_assign (k:=?_)
      | refine wl_nil ?_
      | refine at_then_normal ?_
      | refine wc_seq ?_
      | refine wc_region ?_
      | refine wc_skip ?_
      | refine wc_ret ?_
      | refine at_ret1 (h:=?_)
      | refine wc_quiet (h:=?_)
      | (refine wq_nil ?_; intro _ hkq; replace hm := hm.kept0 hkq; clear hkq)
      | refine wc_cond_false (hf:=?_)
      | refine q_move (k:=?_)
      | refine q_pick_false (k:=?_)
      | refine q_not (k:=?_)
      | refine q_nilCheck (k:=?_)
      | refine q_fieldAddr (k:=?_)
      | refine wq_skip (k:=?_))
      all_goals try (exfalso; omega)
      exact ⟨I1, _, ⟨rfl, _, _, rfl⟩, hm⟩
    | none =>
      have e1 : r.2 = ⟨r.2.ds, none⟩ := by rw [← hv]
      by_cases hh : (e.fr : Int) ≤ at_ ∧ at_ < e.to
      · rw [Sp.hit_pos hv hh.1 hh.2]
        rw [e1] at hm
        repeat' (first
        | (refine m_readC (d:=159) hm (hc:=hB _) (k:=?_); clear hm; intro _ hm)
        | refine mq_load1 hm (k:=?_)
        | refine iq_load1 hm (k:=?_)
        | (refine m_store1 hm (k:=?_); clear hm; intro _ hm; try simp only [setn] at hm)
        | refine op_move (k:=?_)
        | refine op_assign (k:=?_)
        | refine op_nilCheck (k:=?_)
        | refine op_fieldAddr (k:=?_)
        | refine wl_nil ?_
        | refine at_then_normal ?_
        | refine wc_seq ?_
        | refine wc_region ?_
        | refine wc_ret ?_
        | refine at_ret1 (h:=?_)
        | refine wc_quiet (h:=?_)
        | (refine wq_nil ?_; intro _ hkq; replace hm := hm.kept0 hkq; clear hkq)
        | (refine wc_cond_dec (ht:=fun _ => ?_) (hf:=fun _ => ?_)<;> (try first | contradiction | (exfalso; omega)))
        | refine q_move (k:=?_)
        | refine q_pick_true (k:=?_)
        | refine q_lss (k:=?_)
        | refine q_geq (k:=?_)
        | refine q_not (k:=?_)
        | refine q_nilCheck (k:=?_)
        | refine q_fieldAddr (k:=?_)
        | (refine wq_split_dec (h1:=fun _ => ?_) (h0:=fun _ => ?_)<;> (try first | contradiction | (exfalso; omega))))
        all_goals try (exfalso; omega)
        exact ⟨I1, _, ⟨rfl, _, _, rfl⟩, hm⟩
      · rw [Sp.hit_neg hh]
        rw [e1] at hm ⊢
        repeat' (first
        | refine mq_load1 hm (k:=?_)
        | refine iq_load1 hm (k:=?_)
        | refine op_move (k:=?_)
        | refine op_assign (k:=?_)
        | refine wl_nil ?_
        | refine at_then_normal ?_
        | refine wc_seq ?_
        | refine wc_region ?_
        | refine wc_skip ?_
        | refine wc_ret ?_
        | refine at_ret1 (h:=?_)
        | refine wc_quiet (h:=?_)
        | (refine wq_nil ?_; intro _ hkq; replace hm := hm.kept0 hkq; clear hkq)
        | refine wc_cond_false (hf:=?_)
        | (refine wc_cond_dec (ht:=fun _ => ?_) (hf:=fun _ => ?_)<;> (try first | contradiction | (exfalso; omega)))
        | refine q_move (k:=?_)
        | refine q_pick_true (k:=?_)
        | refine q_pick_false (k:=?_)
        | refine q_lss (k:=?_)
        | refine q_geq (k:=?_)
        | refine q_not (k:=?_)
        | refine q_nilCheck (k:=?_)
        | refine q_fieldAddr (k:=?_)
        | refine wq_skip (k:=?_)
        | (refine wq_split_dec (h1:=fun _ => ?_) (h0:=fun _ => ?_)<;> (try first | contradiction | (exfalso; omega))))
        all_goals try (exfalso; omega)
        all_goals exact ⟨I1, _, ⟨rfl, _, _, rfl⟩, hm⟩
end
end Go.Proofs.YtkbiakajlfmakaaGreatDoor
end
section
namespace Go.Proofs.YtkbiakajlfmakaaGreatDoor
open Go.Fw
structure RX where
  k : Nat
  I : Imm
  da : Option Addr
  dp : Nat
  ua : Option Addr
  up : Nat
section
variable {src : List UInt8} {p : Nat} {q : List UInt8} {its : List Sp.Itm} {i : Nat} {it : Sp.Itm} {bc : Nat} {a : Option Addr} {cp : Nat} {xs : List Value} {sc : List Sp.Lc} {be : Nat} {es : Ents}
end
end Go.Proofs.YtkbiakajlfmakaaGreatDoor
end
section
namespace Go.Proofs.YtkbiakajlfmakaaGreatDoor
open Go.Fw
structure RY where
  k : Nat
  I : Imm
  be : Nat
  es : Ents
  da : Option Addr
  dp : Nat
  ua : Option Addr
  up : Nat
section
variable {src : List UInt8} {p : Nat} {q : List UInt8} {its : List Sp.Itm} {i : Nat} {it : Sp.Itm} {bc : Nat} {a : Option Addr} {cp : Nat} {xs : List Value}
end
end Go.Proofs.YtkbiakajlfmakaaGreatDoor
end
