/- Own work: texts RfC, FwT, NsF, NsG, FwApp, NsH, RnE, RnF, FlJ, one behind the other. -/
import Derived.Test.YtkbiakajlfmakaaGreatDoorFt24
section
namespace Go.Proofs.YtkbiakajlfmakaaGreatDoor
open Go.Fw
section
variable {its : List Sp.Itm} {i bc : Nat} {a : Option Addr} {cp : Nat} {xs : List Value} {sc : List Sp.Lc} {be : Nat} {es : Ents} {at_ : Int} {un : Nat}
set_option maxHeartbeats 16000000 in
theorem rf_mere (hsl : Sp.scLab sc) (hlab : Sp.itLab its) (hits : ∀ x ∈ its, x.small) (e : Sp.Ex) (hsm : e.small) (hall : e.all Sp.twoP) (I : Imm) (ea : Option Addr) (ec : Nat) (ys : List Value) (s : Sp.FW) (da : Option Addr) (dp : Nat) (hn : 2 * e.cnt ≤ 1000000000)
    (hC : FE I its a cp xs) (hE : EnvF I sc be es) (hr : RowI I 100 6 (.slice ea e.args.length ec) e.args.length ys) (hx : ExsAt I e.args ys) :
    CalM Tryz.prog 47 #[ptr bc, .map (some be), .agg (exCells e ea ec).toArray] I (RfSt bc a its.length cp i s da dp at_) (ToRf bc a its.length cp i at_ s (nt (Sp.plainF its sc e))) := by
  refine CalM.of fun w E hm => enter (N := 22) Tryz.func47 rfl [(0, ptr bc), (1, .map (some be)), (2, .agg (exCells e ea ec).toArray)] args3 rfl ?_
  have hpl := Sp.exF_plain its (-1) sc 0 e Sp.FW0
  repeat' (first
  | refine wc_hold 1 ?_
  | (refine m_box (d:=5) hm (k:=?_); clear hm; intro b5 _ hm)
  | refine op_assign (k:=?_)
  | refine wl_nil ?_
  | refine at_then_normal ?_
  | refine wc_seq ?_
  | refine wc_region ?_)
  obtain ⟨I0, hle0, hm0, hp⟩ := hm.freezeO
  clear hm
  have hm := hm0
  clear hm0
  have hc := fun b17 => rf_expr (i := i) (bc := b17) (at_ := -1) (un := 0) (by omega) hsl hlab hits _ e (Nat.le_refl _) hsm hall I0 ea ec ys Sp.FW0 none 0 (by show 0 + _ ≤ _; omega) (hC.le hle0) (hE.le hle0) (hr.le hle0) (ExsAt.le hle0 _ _ hx)
  rw [hpl] at hc
  generalize Sp.exF its (-1) sc 0 e Sp.FW0 = r at hc
  refine ⟨?_⟩
  repeat' (first
  | (refine wc_semi_memL (id:=1) (hm.perm pm0) [0,1,2,3,4,5,6,7] [8,9] 10 (h:=?_); clear hm; intro wd hR hm)
  | (refine mw_loadN (n:=1) (d:=11) (vs:=[.slice a its.length cp]) hR (k:=?_))
  | (refine mt_box (d:=17) hm (k:=?_); clear hm; intro b17 _ hm)
  | (refine m_call (d:=21) ((hm.nil 65 4).swap) (hp:=pm2_0) (hc:=hc b17) (k:=?_); clear hm; rintro _ I2 _ _ ⟨rfl, da2, dp2, rfl⟩ hleI2 hm; try simp only [setn] at hm)
  | refine mw_load1 hR (k:=?_)
  | refine mt_struct hm (k:=?_)
  | (refine ws_nil ?_; replace hm := hR.back hm; clear hR; try simp only [setn] at hm)
  | refine i_loadN hm (k:=?_)
  | refine op_move (k:=?_)
  | refine op_assign (k:=?_)
  | refine wl_nil ?_
  | refine at_then_normal ?_
  | refine wc_seq ?_
  | refine wc_region ?_
  | refine wc_ret ?_
  | refine at_ret1 (h:=?_)
  | refine v_move (k:=?_)
  | refine v_nilCheck (k:=?_)
  | refine v_fieldAddr (k:=?_)
  | refine wv_nil ?_)
  all_goals try (exfalso; omega)
  exact ⟨I2, _, ⟨rfl, _, _, rfl⟩, hm.right (H := RfSt b17 a its.length cp i r.2 da2 dp2 (-1))⟩
end
structure RfY where
  k : Nat
  I : Imm
  es : Ents
  da : Option Addr
  dp : Nat
def RfBlkOk (its : List Sp.Itm) (i bc : Nat) (a : Option Addr) (cp : Nat) (xs : List Value) (own : Nat) (at_ : Int) (l : List Sp.Stm) : Prop :=
  ∀ (I : Imm) (ab : Option Addr) (cb : Nat) (xb : List Value) (be : Nat) (es : Ents) (un : Nat) (sc : List Sp.Lc) (s : Sp.FW) (da : Option Addr) (dp : Nat), un < 256 → Sp.scLab sc → s.ds.length + 2 * Sp.stmsCnt l ≤ 1000000000 → FE I its a cp xs → EnvF I sc be es →
    RowI I 102 15 (.slice ab l.length cb) l.length xb → StsAt I l xb →
    CalM Tryz.prog 33 #[ptr bc, .map (some be), .slice ab l.length cb, nt un] I (RfSt bc a its.length cp i s da dp at_) (ToRf bc a its.length cp i at_ (Sp.stmsF its own at_ l sc un s).2 (.tuple #[]))
section
variable {its : List Sp.Itm} {i bc : Nat} {a : Option Addr} {cp : Nat} {xs : List Value} {at_ : Int}
set_option maxHeartbeats 64000000 in
theorem rf_block (hlab : Sp.itLab its) (hits : ∀ x ∈ its, x.small) (hi : i < its.length) (l : List Sp.Stm) (hl : l.length ≤ 64) (hsml : Sp.stmsSmall l) (hall : Sp.stmsAll Sp.twoP Sp.labS l)
    (hS : ∀ y ∈ l, RfBlkOk its i bc a cp xs (Sp.itNo its i).label at_ y.thn ∧ RfBlkOk its i bc a cp xs (Sp.itNo its i).label at_ y.els) : RfBlkOk its i bc a cp xs (Sp.itNo its i).label at_ l := by
  intro I ab cb xb be es un sc s da dp hun hsl hn2 hC hE hr hx
  have hfew := hC.few
  have hown := (hlab _ (Sp.itNo_mem hi)).1
  have hgi := Sp.itNo_get hi
  refine CalM.of fun w E hm => enter (N := 159) Tryz.func33 rfl [(0, ptr bc), (1, .map (some be)), (2, .slice ab l.length cb), (3, nt un)] args4 rfl ?_
  repeat' (first
  | (refine m_makeMap (d:=17) hm (k:=?_); clear hm; intro bm _ hm)
  | (refine wc_cut_regN 1 (fun _ : WX => [(0, ptr bc), (1, .map (some be)), (2, .slice ab l.length cb), (3, nt un), (8, .map (some bm))]) (fun x w' => Mem E I (.mp bm x.es :: RfSt bc a its.length cp i s da dp at_) w' ∧ (x.es.map (·.1)).Nodup ∧ ∀ m, mget x.es m = mget es m) ?_ ?_)
  | refine op_assign (k:=?_)
  | refine wl_nil ?_
  | refine at_then_normal ?_
  | refine wc_seq ?_
  | refine wc_region ?_)
  · refine ⟨?_⟩
    repeat' (first
    | (refine m_range (d := 19) hm (by rfl) (by rfl) (by rfl) (hm.mapI hE.map) ?_; clear hm; intro r _ hm)
    | refine op_move (k:=?_)
    | refine wl_nil ?_
    | refine at_then_normal ?_
    | refine wc_seq ?_
    | refine wc_region ?_
    | refine wc_block ?_)
    refine wc_loop (fun _ : WX => [(0, ptr bc), (1, .map (some be)), (2, .slice ab l.length cb), (3, nt un), (8, .map (some bm)), (19, ptr r)])
      (fun x w' => Mem E I (.it r be es.length x.S :: .mp bm x.es :: RfSt bc a its.length cp i s da dp at_) w' ∧ Copied es x.S x.es) (fun x => leftN es.length x.S) ⟨[], []⟩
      (by exact ⟨rfl, rfl, rfl, rfl, rfl, rfl, trivial⟩) ⟨hm, Copied.start es⟩ ?_
    clear hm
    rintro ⟨S, es2⟩ w1 ⟨hm, hcp⟩
    dsimp only at hm hcp ⊢
    repeat' (first
    | (refine m_next (d := 20) hm (by rfl) (by rfl) (by rfl) (by first | exact gt0 | exact gt1 | exact gt2 | exact gt3 | exact gt4 | exact gt5 | exact gt6) (hm.mapI hE.map) (fun hall => ?_) (fun j ku kv w2 hj hS hm2 => ?_))
    | (refine m_entry (d := 22) hm2 (by rfl) (by rfl) (by rfl) (by first | exact gt0 | exact gt1 | exact gt2 | exact gt3 | exact gt4 | exact gt5 | exact gt6) (hm2.mapI hE.map) hj ?_; clear hm; have hm := hm2; clear hm2; try simp only [setn] at hm)
    | (refine wl_mapUpdate ?_; refine m_put hm (by rfl) (by rfl) (by rfl) (by rfl) (by rfl) (by first | exact gt0 | exact gt1 | exact gt2 | exact gt3 | exact gt4 | exact gt5 | exact gt6) hcp.nodup ?_; clear hm; intro _ hm; try simp only [setn] at hm)
    | refine op_move (k:=?_)
    | refine op_assign (k:=?_)
    | refine op_extract (k:=?_)
    | refine wl_nil ?_
    | refine at_then_normal ?_
    | refine at_then_exit ?_
    | refine at_block_normal ?_
    | refine at_block_exit ?_
    | refine wc_seq ?_
    | refine wc_region ?_
    | refine wc_block ?_
    | refine wc_skip ?_
    | refine wc_exit ?_
    | refine wc_cond_true (ht:=?_)
    | refine wc_cond_false (hf:=?_))
    · exact at_cut (⟨S, es2⟩ : WX) (by exact ⟨rfl, rfl, rfl, rfl, rfl, trivial⟩) ⟨hm.tl, hcp.nodup, hcp.done hE.map.nodup hall⟩
    · exact at_round (⟨S ++ [j], mput es2 ku kv⟩ : WX) (by exact ⟨rfl, rfl, rfl, rfl, rfl, rfl, trivial⟩) ⟨hm, hcp.put hE.map.nodup hj⟩ (leftN_step (List.getElem?_eq_some_iff.1 hj).1 hS)
  · clear hm
    rintro ⟨_, es0⟩ w1 ⟨hm, hnd0, hsame⟩
    dsimp only at hm hnd0 hsame ⊢
    have hget0 : ∀ m, mget es0 m = (Sp.findLc sc m).map (fun l => nt l.at_) := fun m => (hsame m).trans (hE.get m)
    clear hsame hE
    repeat' (first
    | refine op_move (k:=?_)
    | refine op_len_slice (k:=?_)
    | refine wl_nil ?_
    | refine at_then_normal ?_
    | refine wc_seq ?_
    | refine wc_region ?_
    | refine wc_block ?_)
    refine wc_loop (fun x : RfY => [(0, ptr bc), (3, nt un), (8, .map (some bm)), (28, .slice ab l.length cb), (29, nt l.length), (30, nt x.k)])
      (fun x w' => Mem E x.I (.mp bm x.es :: RfSt bc a its.length cp i (Sp.stmsF its (Sp.itNo its i).label at_ (l.take x.k) sc un s).2 x.da x.dp at_) w' ∧ (x.es.map (·.1)).Nodup ∧ (∀ m, mget x.es m = (Sp.findLc (Sp.stmsF its (Sp.itNo its i).label at_ (l.take x.k) sc un s).1 m).map (fun l => nt l.at_)) ∧ Le I x.I ∧ x.k ≤ l.length) (fun x => l.length - x.k) ⟨0, I, es0, da, dp⟩
      (by exact ⟨rfl, rfl, rfl, rfl, rfl, rfl, trivial⟩) ⟨by dsimp only; rw [List.take_zero, Sp.stmsF]; exact hm, hnd0, by dsimp only; rw [List.take_zero, Sp.stmsF]; exact hget0, Le.refl _, Nat.zero_le _⟩ ?_
    clear hm hnd0 hget0 es0
    rintro ⟨k, I1, es1, da1, dp1⟩ w1 ⟨hm, hnd, hget, hle1, hk⟩
    dsimp only at hm hnd hget hle1 hk ⊢
    have hC1 := hC.le hle1
    have hri := hC1.row
    have hrow := hr.le hle1
    by_cases hlt : k < l.length
    · have hg : l[k]? = some l[k] := List.getElem?_eq_getElem hlt
      have hmem := List.getElem_mem hlt
      obtain ⟨cs, hcs⟩ : ∃ cs, (xb.drop (k * 15)).take 15 = cs := ⟨_, rfl⟩
      have hat := hx.get hg
      rw [hcs] at hat
      have hSk := hS _ hmem
      have hsmy := Sp.stmsSmall_get hsml hg
      have haly := Sp.stmsAll_get hall hg
      generalize l[k] = y at hg hmem hat hSk hsmy haly
      have hst := Sp.stmsF_step its (Sp.itNo its i).label at_ hg sc un s
      have hcy := Sp.stmsCnt_take_le hg
      have hnn := Sp.stmsF_n its (Sp.itNo its i).label at_ (l.take k) sc un s
      have hanyL : Sp.stmsAll Sp.anyP Sp.labS l := Sp.stmsAll_mono (fun _ _ _ _ _ _ _ => trivial) (fun _ _ _ _ _ _ _ h => h) l hall
      have hsl1 := Sp.stmsF_lab hlab (Sp.itNo its i).label at_ (l.take k) hsl hun (Sp.stmsAll_take k hanyL) s
      generalize Sp.stmsF its (Sp.itNo its i).label at_ (l.take k) sc un s = r at hm hget hst hnn hsl1
      obtain ⟨s1, s2, s3, s4, s5⟩ := Sp.small_parts hsmy
      obtain ⟨a1, a2, a3, a4⟩ := Sp.Stm.all_node haly
      have hcnt := Sp.Stm.cnt_eq y
      obtain ⟨ea, ec, ex, a1', c1, xs1, a2', c2, xs2, rfl, hr3, hx3, hr4, hx4, hr5, hx5⟩ := hat.out
      rw [Sp.stmF_eq] at hst
      have huF : Sp.unF its r.1 y.kind un y.e = if y.kind = 4 then Sp.plainF its r.1 y.e ||| un else un := rfl
      have hpl := Sp.plainF_lt hlab hsl1 y.e
      have hme := fun (I : Imm) (m : Le I1 I) (da : Option Addr) (dp : Nat) => CalM.borrow (I := I) (b := bm) hnd (fun J m2 hmap => rf_mere (i := i) (bc := bc) (at_ := at_) (a := a) (cp := cp) (xs := xs) (sc := r.1) (be := bm) (es := es1) hsl1 hlab hits y.e s1 a2 J ea ec ex r.2 da dp (by omega) ((hC1.le m).le m2) ⟨hmap, hget⟩ (((hr3.le hle1).le m).le m2) (ExsAt.le m2 _ _ (ExsAt.le m _ _ (ExsAt.le hle1 _ _ hx3))))
      have hBm := fun (J : Imm) => bothC J (Sp.plainF its r.1 y.e) un hpl hun
      obtain ⟨un1, hun1⟩ : ∃ un1, un1 = Sp.unF its r.1 y.kind un y.e := ⟨_, rfl⟩
      rw [← hun1] at hst huF
      have hu1 : un1 < 256 := by
        rw [huF]; split
        · exact Sp.or_lt hpl hun
        · exact hun
      repeat' (first
      | (refine i_indexAddr (d:=32) (hr:=hrow) (k:=?_); intro bt ot hpt; rw [show ((k : Int).toNat * 15) = k * 15 from rfl, hcs] at hpt)
      | (refine i_loadN (d:=33) hm (hp:=hpt) (k:=?_))
      | (refine wc_cut_regN 9 (fun _ : RfX => [(0, ptr bc), (3, nt un), (8, .map (some bm)), (12, ptr b12), (13, nt un1), (28, .slice ab l.length cb), (29, nt l.length), (30, nt k)]) (fun x w' => Mem E x.I (.cell b12 (stCells y.kind y.name y.at_ y.label y.opn y.e ea ec (.slice a1' y.thn.length c1) (.slice a2' y.els.length c2) y.fr y.to) 102 :: .mp bm es1 :: RfSt bc a its.length cp i r.2 x.da x.dp at_) w' ∧ Le I1 x.I) ?_ ?_)
      | (refine m_varS (d:=12) hm (k:=?_); clear hm; intro b12 _ hm)
      | refine op_move (k:=?_)
      | refine op_assign (k:=?_)
      | refine op_lss (k:=?_)
      | refine wl_nil ?_
      | refine at_then_normal ?_
      | refine wc_seq ?_
      | refine wc_region ?_
      | refine wc_block ?_
      | refine wc_skip ?_
      | (refine wc_cond_dec (ht:=fun _ => ?_) (hf:=fun _ => ?_)<;> (try first | contradiction | (exfalso; omega))))
      · refine ⟨?_⟩
        by_cases k4 : y.kind = 4
        · rw [if_pos k4] at huF
          subst huF
          repeat' (first
          | (refine m_loadN (n := 6) (d := 41) (vs := exCells y.e ea ec) hm (by rfl) (by rfl) (by rfl) (by first | exact gt0 | exact gt1 | exact gt2 | exact gt3 | exact gt4 | exact gt5 | exact gt6) (by rfl) (by rfl) ?_)
          | (refine m_call (d:=42) hm (hp:=pm3_1) (hc:=hme I1 (Le.refl _) da1 dp1) (k:=?_); clear hm; rintro _ I2 _ _ ⟨_, rfl, rfl, da2, dp2, rfl⟩ hleI2 hm; try simp only [setn] at hm)
          | (refine m_readC (d:=44) hm (hc:=hBm _) (k:=?_); clear hm; intro _ hm)
          | refine m_load1 hm (k:=?_)
          | refine op_move (k:=?_)
          | refine op_assign (k:=?_)
          | refine op_eql (k:=?_)
          | refine op_fieldAddr (k:=?_)
          | refine wl_nil ?_
          | refine at_then_normal ?_
          | refine wc_seq ?_
          | refine wc_region ?_
          | (refine wc_cond_dec (ht:=fun _ => ?_) (hf:=fun _ => ?_)<;> (try first | contradiction | (exfalso; omega))))
          all_goals try (exfalso; omega)
          exact at_cut (⟨0, I2, da2, dp2⟩ : RfX) (by exact ⟨rfl, rfl, rfl, rfl, rfl, rfl, rfl, rfl, trivial⟩) ⟨hm.perm (pm3_1.symm), hleI2⟩
        · rw [if_neg k4] at huF
          subst huF
          repeat' (first
          | refine m_load1 hm (k:=?_)
          | refine op_eql (k:=?_)
          | refine op_fieldAddr (k:=?_)
          | refine wl_nil ?_
          | refine at_then_normal ?_
          | refine wc_seq ?_
          | refine wc_region ?_
          | refine wc_skip ?_
          | (refine wc_cond_dec (ht:=fun _ => ?_) (hf:=fun _ => ?_)<;> (try first | contradiction | (exfalso; omega))))
          all_goals try (exfalso; omega)
          exact at_cut (⟨0, I1, da1, dp1⟩ : RfX) (by exact ⟨rfl, rfl, rfl, rfl, rfl, rfl, rfl, rfl, trivial⟩) ⟨hm, Le.refl _⟩
      · clear hm hme hBm huF hun1
        rintro ⟨_, I2, da2, dp2⟩ w2 ⟨hm, hle2⟩
        dsimp only at hm hle2 ⊢
        have hC2 := hC1.le hle2
        have hri2 := hC2.row
        have hEx := CalM.borrow (I := I2) (b := bm) hnd (fun J m2 hmap => rf_expr (i := i) (bc := bc) (at_ := at_) (un := un1) (a := a) (cp := cp) (xs := xs) (be := bm) (es := es1) hu1 hsl1 hlab hits _ y.e (Nat.le_refl _) s1 a2 J ea ec ex r.2 da2 dp2 (by omega) (hC2.le m2) ⟨hmap, hget⟩ (((hr3.le hle1).le hle2).le m2) (ExsAt.le m2 _ _ (ExsAt.le hle2 _ _ (ExsAt.le hle1 _ _ hx3))))
        have hl1 := Sp.exF_lt hlab at_ hsl1 un1 y.e r.2
        have hnx := Sp.exF_n its at_ r.1 un1 y.e r.2
        generalize Sp.exF its at_ r.1 un1 y.e r.2 = r2 at hEx hl1 hnx hst
        have hB := fun (J : Imm) => bothC J r2.1 un1 hl1 hu1
        have hav := Sp.or_lt hl1 hu1
        generalize r2.1 ||| un1 = av at hB hav hst
        have hask := fun (J : Imm) (da : Option Addr) (dp : Nat) (b : Nat) (hb : b < 256) => rf_ask (I := J) (bc := bc) (a := a) (n := its.length) (cp := cp) (i := i) (s := r2.2) (da := da) (dp := dp) (at_ := at_) av b y.fr y.to y.name hav hb (by omega)
        rw [Sp.coreStm] at hst
        by_cases k1 : y.kind = 1
        · rw [if_pos k1] at hst
          have hlb := a1
          obtain ⟨nl, hnl⟩ : ∃ nl, nl = if y.opn = true then av else y.label := ⟨_, rfl⟩
          rw [← hnl] at hst
          have hnl2 : nl < 256 := by
            rw [hnl]; split
            · exact hav
            · exact hlb
          have hfin : ∀ m, mget (mput es1 y.name (nt nl)) m = (Sp.findLc (r.1 ++ [⟨y.name, nl⟩]) m).map (fun l => nt l.at_) := fun m => by
            rw [mget_mput m hnd, Sp.findLc_snoc]
            by_cases e : m = y.name
            · subst e; rw [if_pos rfl, if_pos rfl]; rfl
            · rw [if_neg e, if_neg (fun h => e h.symm), hget]
          cases ho : y.opn with
          | true =>
            rw [ho, if_pos rfl] at hnl
            rw [ho] at hm
            subst hnl
            repeat' (first
            | (refine m_loadN (n := 6) (d := 48) (vs := exCells y.e ea ec) hm (by rfl) (by rfl) (by rfl) (by first | exact gt0 | exact gt1 | exact gt2 | exact gt3 | exact gt4 | exact gt5 | exact gt6) (by rfl) (by rfl) ?_)
            | (refine m_call (d:=50) hm (hp:=pm3_1) (hc:=hEx) (k:=?_); clear hm; rintro _ I3 _ _ ⟨_, rfl, rfl, da3, dp3, rfl⟩ hleI3 hm; try simp only [setn] at hm)
            | (refine m_readC (d:=52) hm (hc:=hB _) (k:=?_); clear hm; intro _ hm)
            | (refine m_call (d:=71) hm (hp:=pm2_1) (hc:=hask _ da3 dp3 nl hnl2) (k:=?_); clear hm; rintro _ I4 _ _ ⟨rfl, da4, dp4, rfl⟩ hleI4 hm; try simp only [setn] at hm)
            | (refine wl_mapUpdate ?_; refine m_put hm (by rfl) (by rfl) (by rfl) (by rfl) (by rfl) (by first | exact gt0 | exact gt1 | exact gt2 | exact gt3 | exact gt4 | exact gt5 | exact gt6) hnd ?_; clear hm; intro _ hm; try simp only [setn] at hm)
            | refine m_load1 hm (k:=?_)
            | refine op_move (k:=?_)
            | refine op_assign (k:=?_)
            | refine op_eql (k:=?_)
            | refine op_add (k:=?_)
            | refine op_fieldAddr (k:=?_)
            | refine wl_nil ?_
            | refine at_then_normal ?_
            | refine at_block_normal ?_
            | refine wc_seq ?_
            | refine wc_region ?_
            | refine wc_block ?_
            | refine wc_cond_true (ht:=?_)
            | (refine wc_cond_dec (ht:=fun _ => ?_) (hf:=fun _ => ?_)<;> (try first | contradiction | (exfalso; omega))))
            all_goals try (exfalso; first | omega | contradiction)
            refine at_round (⟨k + 1, I4, _, da4, dp4⟩ : RfY) (by exact ⟨rfl, rfl, rfl, rfl, rfl, rfl, trivial⟩) ⟨by dsimp only; rw [hst]; exact (hm.front 2 rfl).left, mput_nodup hnd, by dsimp only; rw [hst]; exact hfin, ((hle1.trans hle2).trans hleI3).trans hleI4, by dsimp only; omega⟩ (by dsimp only; omega)
          | false =>
            rw [ho, if_neg (by decide)] at hnl
            rw [ho] at hm
            subst hnl
            repeat' (first
            | (refine m_loadN (n := 6) (d := 48) (vs := exCells y.e ea ec) hm (by rfl) (by rfl) (by rfl) (by first | exact gt0 | exact gt1 | exact gt2 | exact gt3 | exact gt4 | exact gt5 | exact gt6) (by rfl) (by rfl) ?_)
            | (refine m_call (d:=50) hm (hp:=pm3_1) (hc:=hEx) (k:=?_); clear hm; rintro _ I3 _ _ ⟨_, rfl, rfl, da3, dp3, rfl⟩ hleI3 hm; try simp only [setn] at hm)
            | (refine m_readC (d:=52) hm (hc:=hB _) (k:=?_); clear hm; intro _ hm)
            | (refine m_call (d:=71) hm (hp:=pm2_1) (hc:=hask _ da3 dp3 y.label hnl2) (k:=?_); clear hm; rintro _ I4 _ _ ⟨rfl, da4, dp4, rfl⟩ hleI4 hm; try simp only [setn] at hm)
            | (refine wl_mapUpdate ?_; refine m_put hm (by rfl) (by rfl) (by rfl) (by rfl) (by rfl) (by first | exact gt0 | exact gt1 | exact gt2 | exact gt3 | exact gt4 | exact gt5 | exact gt6) hnd ?_; clear hm; intro _ hm; try simp only [setn] at hm)
            | refine m_load1 hm (k:=?_)
            | refine op_move (k:=?_)
            | refine op_assign (k:=?_)
            | refine op_eql (k:=?_)
            | refine op_add (k:=?_)
            | refine op_fieldAddr (k:=?_)
            | refine wl_nil ?_
            | refine at_then_normal ?_
            | refine at_block_normal ?_
            | refine wc_seq ?_
            | refine wc_region ?_
            | refine wc_block ?_
            | refine wc_skip ?_
            | refine wc_cond_false (hf:=?_)
            | (refine wc_cond_dec (ht:=fun _ => ?_) (hf:=fun _ => ?_)<;> (try first | contradiction | (exfalso; omega))))
            all_goals try (exfalso; first | omega | contradiction)
            refine at_round (⟨k + 1, I4, _, da4, dp4⟩ : RfY) (by exact ⟨rfl, rfl, rfl, rfl, rfl, rfl, trivial⟩) ⟨by dsimp only; rw [hst]; exact (hm.front 2 rfl).left, mput_nodup hnd, by dsimp only; rw [hst]; exact hfin, ((hle1.trans hle2).trans hleI3).trans hleI4, by dsimp only; omega⟩ (by dsimp only; omega)
        rw [if_neg k1] at hst
        by_cases k2 : y.kind = 2
        · rw [if_pos k2] at hst
          have hgl := Sp.getF_lt hsl1 y.name
          have hlk := look_lab hget y.name
          generalize Sp.getF r.1 y.name = gl at hgl hlk hst
          repeat' (first
          | (refine m_loadN (n := 6) (d := 48) (vs := exCells y.e ea ec) hm (by rfl) (by rfl) (by rfl) (by first | exact gt0 | exact gt1 | exact gt2 | exact gt3 | exact gt4 | exact gt5 | exact gt6) (by rfl) (by rfl) ?_)
          | (refine m_call (d:=50) hm (hp:=pm3_1) (hc:=hEx) (k:=?_); clear hm; rintro _ I3 _ _ ⟨_, rfl, rfl, da3, dp3, rfl⟩ hleI3 hm; try simp only [setn] at hm)
          | (refine m_readC (d:=52) hm (hc:=hB _) (k:=?_); clear hm; intro _ hm)
          | (refine m_lookup (d:=83) hm (hn:=hnd) (hz:=zero_num) (k:=?_); rw [hlk])
          | (refine m_call (d:=90) hm (hp:=pm2_1) (hc:=hask _ da3 dp3 gl hgl) (k:=?_); clear hm; rintro _ I4 _ _ ⟨rfl, da4, dp4, rfl⟩ hleI4 hm; try simp only [setn] at hm)
          | refine m_load1 hm (k:=?_)
          | refine op_move (k:=?_)
          | refine op_assign (k:=?_)
          | refine op_eql (k:=?_)
          | refine op_add (k:=?_)
          | refine op_fieldAddr (k:=?_)
          | refine wl_nil ?_
          | refine at_then_normal ?_
          | refine at_block_normal ?_
          | refine wc_seq ?_
          | refine wc_region ?_
          | refine wc_block ?_
          | (refine wc_cond_dec (ht:=fun _ => ?_) (hf:=fun _ => ?_)<;> (try first | contradiction | (exfalso; omega))))
          all_goals try (exfalso; first | omega | contradiction)
          exact at_round (⟨k + 1, I4, es1, da4, dp4⟩ : RfY) (by exact ⟨rfl, rfl, rfl, rfl, rfl, rfl, trivial⟩) ⟨by dsimp only; rw [hst]; exact (hm.front 2 rfl).left, hnd, by dsimp only; rw [hst]; exact hget, ((hle1.trans hle2).trans hleI3).trans hleI4, by dsimp only; omega⟩ (by dsimp only; omega)
        rw [if_neg k2] at hst
        by_cases k5 : y.kind = 5
        · rw [if_pos k5, Sp.askCh] at hst
          have hfind := fun (J : Imm) (m : Le I2 J) => (r_find 1 y.name its J a cp xs (hC2.le m)).read
          cases hf : Sp.findIt its 1 y.name with
          | none =>
            rw [hf] at hst
            rw [Sp.findV_none hf] at hfind
            repeat' (first
            | (refine m_loadN (n := 6) (d := 48) (vs := exCells y.e ea ec) hm (by rfl) (by rfl) (by rfl) (by first | exact gt0 | exact gt1 | exact gt2 | exact gt3 | exact gt4 | exact gt5 | exact gt6) (by rfl) (by rfl) ?_)
            | (refine m_call (d:=50) hm (hp:=pm3_1) (hc:=hEx) (k:=?_); clear hm; rintro _ I3 _ _ ⟨_, rfl, rfl, da3, dp3, rfl⟩ hleI3 hm; try simp only [setn] at hm)
            | (refine m_readC (d:=52) hm (hc:=hB _) (k:=?_); clear hm; intro _ hm)
            | (refine mq_loadN (n := 1) (d := 96) (vs := [.slice a its.length cp]) hm (by rfl) (by rfl) (by rfl) (by first | exact gt0 | exact gt1 | exact gt2 | exact gt3 | exact gt4 | exact gt5 | exact gt6) (by rfl) (by rfl) ?_)
            | (refine mq_readC (d:=99) hm (hc:=hfind _ hleI3) (k:=?_))
            | refine m_load1 hm (k:=?_)
            | refine mq_load1 hm (k:=?_)
            | refine op_move (k:=?_)
            | refine op_assign (k:=?_)
            | refine op_geq (k:=?_)
            | refine op_eql (k:=?_)
            | refine op_add (k:=?_)
            | refine op_fieldAddr (k:=?_)
            | refine wl_nil ?_
            | refine at_then_normal ?_
            | refine at_block_normal ?_
            | refine wc_seq ?_
            | refine wc_region ?_
            | refine wc_block ?_
            | refine wc_skip ?_
            | refine wc_quiet (h:=?_)
            | (refine wq_nil ?_; intro _ hkq; replace hm := hm.kept0 hkq; clear hkq)
            | refine wc_cond_false (hf:=?_)
            | (refine wc_cond_dec (ht:=fun _ => ?_) (hf:=fun _ => ?_)<;> (try first | contradiction | (exfalso; omega)))
            | refine q_move (k:=?_)
            | refine q_assign (k:=?_)
            | refine q_nilCheck (k:=?_)
            | refine q_fieldAddr (k:=?_))
            all_goals try (exfalso; first | omega | contradiction)
            exact at_round (⟨k + 1, I3, es1, da3, dp3⟩ : RfY) (by exact ⟨rfl, rfl, rfl, rfl, rfl, rfl, trivial⟩) ⟨by dsimp only; rw [hst]; exact hm.left, hnd, by dsimp only; rw [hst]; exact hget, (hle1.trans hle2).trans hleI3, by dsimp only; omega⟩ (by dsimp only; omega)
          | some j =>
            rw [hf] at hst
            dsimp only at hst
            rw [Sp.findV_some hf] at hfind
            obtain ⟨hj, _, _, _, hmemj⟩ := Sp.findIt_lt hf
            obtain ⟨ci, hci, hatj, hlc⟩ := hC2.get (Sp.itNo_get hj)
            obtain ⟨pa, pc, sa9, sc9, ba, bc9, da9, dc9, xbj, rfl, _⟩ := hatj
            have hjl := (hlab _ hmemj).1
            repeat' (first
            | (refine m_loadN (n := 6) (d := 48) (vs := exCells y.e ea ec) hm (by rfl) (by rfl) (by rfl) (by first | exact gt0 | exact gt1 | exact gt2 | exact gt3 | exact gt4 | exact gt5 | exact gt6) (by rfl) (by rfl) ?_)
            | (refine m_call (d:=50) hm (hp:=pm3_1) (hc:=hEx) (k:=?_); clear hm; rintro _ I3 _ _ ⟨_, rfl, rfl, da3, dp3, rfl⟩ hleI3 hm; try simp only [setn] at hm)
            | (refine m_readC (d:=52) hm (hc:=hB _) (k:=?_); clear hm; intro _ hm)
            | (refine mq_loadN (n := 1) (d := 96) (vs := [.slice a its.length cp]) hm (by rfl) (by rfl) (by rfl) (by first | exact gt0 | exact gt1 | exact gt2 | exact gt3 | exact gt4 | exact gt5 | exact gt6) (by rfl) (by rfl) ?_)
            | (refine mq_readC (d:=99) hm (hc:=hfind _ hleI3) (k:=?_))
            | (refine wc_quiet_tail (id:=24) 17 (h:=?_))
            | (refine iq_indexAddr (d:=110) (hr:=hri2.le hleI3) (k:=?_); intro bu ou hpu; rw [show ((j : Int).toNat * 10) = j * 10 from rfl, hci] at hpu)
            | (refine m_call (d:=119) hm (hp:=pm2_1) (hc:=hask _ da3 dp3 _ hjl) (k:=?_); clear hm; rintro _ I4 _ _ ⟨rfl, da4, dp4, rfl⟩ hleI4 hm; try simp only [setn] at hm)
            | refine m_load1 hm (k:=?_)
            | refine mq_load1 hm (k:=?_)
            | refine iq_load1 hm (k:=?_)
            | refine op_move (k:=?_)
            | refine op_assign (k:=?_)
            | refine op_geq (k:=?_)
            | refine op_eql (k:=?_)
            | refine op_add (k:=?_)
            | refine op_fieldAddr (k:=?_)
            | refine wl_nil ?_
            | refine at_then_normal ?_
            | refine at_block_normal ?_
            | refine wc_seq ?_
            | refine wc_region ?_
            | refine wc_block ?_
            | refine wc_quiet (h:=?_)
            | (refine wq_nil ?_; intro _ hkq; replace hm := hm.kept0 hkq; clear hkq)
            | (refine wq_nil_tail ?_; intro _ hkq; replace hm := hm.kept0 hkq; clear hkq)
            | refine wc_cond_true (ht:=?_)
            | (refine wc_cond_dec (ht:=fun _ => ?_) (hf:=fun _ => ?_)<;> (try first | contradiction | (exfalso; omega)))
            | refine q_move (k:=?_)
            | refine q_assign (k:=?_)
            | refine q_nilCheck (k:=?_)
            | refine q_fieldAddr (k:=?_))
            all_goals try (exfalso; first | omega | contradiction)
            exact at_round (⟨k + 1, I4, es1, da4, dp4⟩ : RfY) (by exact ⟨rfl, rfl, rfl, rfl, rfl, rfl, trivial⟩) ⟨by dsimp only; rw [hst]; exact (hm.front 2 rfl).left, hnd, by dsimp only; rw [hst]; exact hget, ((hle1.trans hle2).trans hleI3).trans hleI4, by dsimp only; omega⟩ (by dsimp only; omega)
        rw [if_neg k5] at hst
        by_cases k6 : y.kind = 6
        · rw [if_pos k6] at hst
          obtain ⟨ci, hci, hati, hlc⟩ := hC2.get hgi
          obtain ⟨pa, pc, sa9, sc9, ba, bc9, da9, dc9, xbj, rfl, _⟩ := hati
          repeat' (first
          | (refine m_loadN (n := 6) (d := 48) (vs := exCells y.e ea ec) hm (by rfl) (by rfl) (by rfl) (by first | exact gt0 | exact gt1 | exact gt2 | exact gt3 | exact gt4 | exact gt5 | exact gt6) (by rfl) (by rfl) ?_)
          | (refine m_call (d:=50) hm (hp:=pm3_1) (hc:=hEx) (k:=?_); clear hm; rintro _ I3 _ _ ⟨_, rfl, rfl, da3, dp3, rfl⟩ hleI3 hm; try simp only [setn] at hm)
          | (refine m_readC (d:=52) hm (hc:=hB _) (k:=?_); clear hm; intro _ hm)
          | (refine wc_quiet_tail (id:=26) 20 (h:=?_))
          | (refine iq_indexAddr (d:=133) (hr:=hri2.le hleI3) (k:=?_); intro bu ou hpu; rw [show ((i : Int).toNat * 10) = i * 10 from rfl, hci] at hpu)
          | (refine m_call (d:=142) hm (hp:=pm2_1) (hc:=hask _ da3 dp3 _ hown) (k:=?_); clear hm; rintro _ I4 _ _ ⟨rfl, da4, dp4, rfl⟩ hleI4 hm; try simp only [setn] at hm)
          | refine m_load1 hm (k:=?_)
          | refine mq_load1 hm (k:=?_)
          | refine iq_load1 hm (k:=?_)
          | refine op_move (k:=?_)
          | refine op_assign (k:=?_)
          | refine op_eql (k:=?_)
          | refine op_add (k:=?_)
          | refine op_fieldAddr (k:=?_)
          | refine wl_nil ?_
          | refine at_then_normal ?_
          | refine at_block_normal ?_
          | refine wc_seq ?_
          | refine wc_region ?_
          | refine wc_block ?_
          | (refine wq_nil_tail ?_; intro _ hkq; replace hm := hm.kept0 hkq; clear hkq)
          | (refine wc_cond_dec (ht:=fun _ => ?_) (hf:=fun _ => ?_)<;> (try first | contradiction | (exfalso; omega)))
          | refine q_move (k:=?_)
          | refine q_nilCheck (k:=?_)
          | refine q_fieldAddr (k:=?_))
          all_goals try (exfalso; first | omega | contradiction)
          exact at_round (⟨k + 1, I4, es1, da4, dp4⟩ : RfY) (by exact ⟨rfl, rfl, rfl, rfl, rfl, rfl, trivial⟩) ⟨by dsimp only; rw [hst]; exact (hm.front 2 rfl).left, hnd, by dsimp only; rw [hst]; exact hget, ((hle1.trans hle2).trans hleI3).trans hleI4, by dsimp only; omega⟩ (by dsimp only; omega)
        rw [if_neg k6] at hst
        by_cases k34 : y.kind = 3 ∨ y.kind = 4
        · rw [if_pos k34] at hst
          have hb1 := fun (I : Imm) (m : Le I2 I) (da : Option Addr) (dp : Nat) => CalM.borrow (I := I) (b := bm) hnd (fun J m2 hmap => hSk.1 J a1' c1 xs1 bm es1 av r.1 r2.2 da dp hav hsl1 (by omega) ((hC2.le m).le m2) ⟨hmap, hget⟩ ((((hr4.le hle1).le hle2).le m).le m2) (StsAt.le m2 _ _ (StsAt.le m _ _ (StsAt.le hle2 _ _ (StsAt.le hle1 _ _ hx4)))))
          have hnn3 := Sp.stmsF_n its (Sp.itNo its i).label at_ y.thn r.1 av r2.2
          generalize Sp.stmsF its (Sp.itNo its i).label at_ y.thn r.1 av r2.2 = r7 at hb1 hnn3 hst
          have hb2 := fun (I : Imm) (m : Le I2 I) (da : Option Addr) (dp : Nat) => CalM.borrow (I := I) (b := bm) hnd (fun J m2 hmap => hSk.2 J a2' c2 xs2 bm es1 av r.1 r7.2 da dp hav hsl1 (by omega) ((hC2.le m).le m2) ⟨hmap, hget⟩ ((((hr5.le hle1).le hle2).le m).le m2) (StsAt.le m2 _ _ (StsAt.le m _ _ (StsAt.le hle2 _ _ (StsAt.le hle1 _ _ hx5)))))
          generalize Sp.stmsF its (Sp.itNo its i).label at_ y.els r.1 av r7.2 = r8 at hb2 hst
          repeat' (first
          | (refine m_loadN (n := 6) (d := 48) (vs := exCells y.e ea ec) hm (by rfl) (by rfl) (by rfl) (by first | exact gt0 | exact gt1 | exact gt2 | exact gt3 | exact gt4 | exact gt5 | exact gt6) (by rfl) (by rfl) ?_)
          | (refine m_call (d:=50) hm (hp:=pm3_1) (hc:=hEx) (k:=?_); clear hm; rintro _ I3 _ _ ⟨_, rfl, rfl, da3, dp3, rfl⟩ hleI3 hm; try simp only [setn] at hm)
          | (refine m_readC (d:=52) hm (hc:=hB _) (k:=?_); clear hm; intro _ hm)
          | (refine m_call (d:=151) hm (hp:=pm3_0) (hc:=hb1 _ hleI3 da3 dp3) (k:=?_); clear hm; rintro _ I4 _ _ ⟨_, rfl, rfl, da4, dp4, rfl⟩ hleI4 hm; try simp only [setn] at hm)
          | (refine m_call (d:=157) hm (hp:=pm3_0) (hc:=hb2 _ (hleI3.trans hleI4) da4 dp4) (k:=?_); clear hm; rintro _ I5 _ _ ⟨_, rfl, rfl, da5, dp5, rfl⟩ hleI5 hm; try simp only [setn] at hm)
          | refine m_load1 hm (k:=?_)
          | refine op_move (k:=?_)
          | refine op_assign (k:=?_)
          | refine op_eql (k:=?_)
          | refine op_add (k:=?_)
          | refine op_fieldAddr (k:=?_)
          | refine wl_nil ?_
          | refine at_then_normal ?_
          | refine at_block_normal ?_
          | refine wc_seq ?_
          | refine wc_region ?_
          | refine wc_block ?_
          | refine wc_skip ?_
          | (refine wc_cond_dec (ht:=fun _ => ?_) (hf:=fun _ => ?_)<;> (try first | contradiction | (exfalso; omega))))
          all_goals try (exfalso; first | omega | contradiction)
          all_goals exact at_round (⟨k + 1, I5, es1, da5, dp5⟩ : RfY) (by exact ⟨rfl, rfl, rfl, rfl, rfl, rfl, trivial⟩) ⟨by dsimp only; rw [hst]; exact hm.left, hnd, by dsimp only; rw [hst]; exact hget, (((hle1.trans hle2).trans hleI3).trans hleI4).trans hleI5, by dsimp only; omega⟩ (by dsimp only; omega)
        · rw [if_neg k34] at hst
          repeat' (first
          | (refine m_loadN (n := 6) (d := 48) (vs := exCells y.e ea ec) hm (by rfl) (by rfl) (by rfl) (by first | exact gt0 | exact gt1 | exact gt2 | exact gt3 | exact gt4 | exact gt5 | exact gt6) (by rfl) (by rfl) ?_)
          | (refine m_call (d:=50) hm (hp:=pm3_1) (hc:=hEx) (k:=?_); clear hm; rintro _ I3 _ _ ⟨_, rfl, rfl, da3, dp3, rfl⟩ hleI3 hm; try simp only [setn] at hm)
          | (refine m_readC (d:=52) hm (hc:=hB _) (k:=?_); clear hm; intro _ hm)
          | refine m_load1 hm (k:=?_)
          | refine op_move (k:=?_)
          | refine op_assign (k:=?_)
          | refine op_eql (k:=?_)
          | refine op_add (k:=?_)
          | refine op_fieldAddr (k:=?_)
          | refine wl_nil ?_
          | refine at_then_normal ?_
          | refine at_block_normal ?_
          | refine wc_seq ?_
          | refine wc_region ?_
          | refine wc_block ?_
          | refine wc_skip ?_
          | (refine wc_cond_dec (ht:=fun _ => ?_) (hf:=fun _ => ?_)<;> (try first | contradiction | (exfalso; omega))))
          all_goals try (exfalso; first | omega | contradiction)
          exact at_round (⟨k + 1, I3, es1, da3, dp3⟩ : RfY) (by exact ⟨rfl, rfl, rfl, rfl, rfl, rfl, trivial⟩) ⟨by dsimp only; rw [hst]; exact hm.left, hnd, by dsimp only; rw [hst]; exact hget, (hle1.trans hle2).trans hleI3, by dsimp only; omega⟩ (by dsimp only; omega)
    · obtain rfl : k = l.length := by omega
      rw [List.take_length] at hm
      repeat' (first
      | refine op_lss (k:=?_)
      | refine wl_nil ?_
      | refine at_then_normal ?_
      | refine at_then_exit ?_
      | refine at_block_exit ?_
      | refine wc_seq ?_
      | refine wc_region ?_
      | refine wc_exit ?_
      | refine at_end0 (h:=?_)
      | (refine wc_cond_dec (ht:=fun _ => ?_) (hf:=fun _ => ?_)<;> (try first | contradiction | (exfalso; omega))))
      all_goals try (exfalso; omega)
      exact ⟨I1, _, ⟨rfl, _, _, rfl⟩, hm.tl⟩
theorem rf_blk (hlab : Sp.itLab its) (hits : ∀ x ∈ its, x.small) (hi : i < its.length) : ∀ (n : Nat) (l : List Sp.Stm), SizeOf.sizeOf l ≤ n → l.length ≤ 64 → Sp.stmsSmall l → Sp.stmsAll Sp.twoP Sp.labS l → RfBlkOk its i bc a cp xs (Sp.itNo its i).label at_ l := by
  intro n
  induction n with
  | zero => intro l h; cases l <;> simp at h
  | succ n ih =>
  intro l hsz hll hsm hal
  refine rf_block hlab hits hi l hll hsm hal (fun y hy => ?_)
  obtain ⟨j, hj, rfl⟩ := List.getElem_of_mem hy
  have hg := List.getElem?_eq_getElem hj
  have h1 := Sp.stmsSmall_get hsm hg
  have h0 := Sp.stmsAll_get hal hg
  obtain ⟨s1, s2, s3, s4, s5⟩ := Sp.small_parts h1
  obtain ⟨_, _, a3, a4⟩ := Sp.Stm.all_node h0
  have hme := Sp.sizeL_mem (List.getElem_mem hj)
  obtain ⟨z1, z2⟩ := Sp.size_thn (s := l[j])
  exact ⟨ih _ (by omega) s2 s3 a3, ih _ (by omega) s4 s5 a4⟩
end
end Go.Proofs.YtkbiakajlfmakaaGreatDoor
end
section
namespace Go.Fw
open Go
section
variable {P : Program} {N : Nat} {ds : List Deferred} {Q : Exit → Act → World → Prop} {X : List Nat} {l l' : Log} {w w' w0 : World} {ops : Array Oper} {os tail : List Oper} {o : Oper}
variable {d : Nat} {ty : TypeId} {pos : String} {af : Array Edge} {g : Option (Nat × Bool)} {t t' : TypeId} {x y : Operand} {ik : IntKind}
theorem s_move {x : Operand} {v : Value} (hC : Kept X w0 w) (hw : want ops l ⟨some d, .move x, ty, pos, af, g⟩ = some true) (hN : Nat.blt d N = true) (hx : ev l x = some v)
    (k : WS P N ds ops Q X w0 os tail ((d, v) :: l) w) : WS P N ds ops Q X w0 (⟨some d, .move x, ty, pos, af, g⟩ :: os) tail l w :=
  ws_value rfl hw hN (fun a ha => by simp [execOp, ha.ev hx]) hC k
theorem s_neq {a b : Int} (hC : Kept X w0 w) (hw : want ops l ⟨some d, .binOp .neq t x y t', ty, pos, af, g⟩ = some true) (hN : Nat.blt d N = true) (hx : ev l x = some (.int ik a)) (hy : ev l y = some (.int ik b))
    (k : WS P N ds ops Q X w0 os tail ((d, .bool (decide (a ≠ b))) :: l) w) : WS P N ds ops Q X w0 (⟨some d, .binOp .neq t x y t', ty, pos, af, g⟩ :: os) tail l w :=
  ws_value rfl hw hN (fun c hc => by simp [execOp, hc.ev hx, hc.ev hy, eqGuard, binOp, Op.intCmp, beq_dec, bne]) hC k
theorem s_not {b : Bool} (hC : Kept X w0 w) (hw : want ops l ⟨some d, .unOp .not t x, ty, pos, af, g⟩ = some true) (hN : Nat.blt d N = true)
    (hx : ev l x = some (.bool b)) (k : WS P N ds ops Q X w0 os tail ((d, .bool (!b)) :: l) w) : WS P N ds ops Q X w0 (⟨some d, .unOp .not t x, ty, pos, af, g⟩ :: os) tail l w :=
  ws_value rfl hw hN (fun c hc => by simp [execOp, hc.ev hx, Op.unary]) hC k
end
end Go.Fw
end
section
namespace Go.Proofs.YtkbiakajlfmakaaGreatDoor
open Go.Fw
section
variable {src : List UInt8} {p : Nat} {q : List UInt8} {its : List Sp.Itm} {it : Sp.Itm} {bc bf : Nat} {a : Option Addr} {cp : Nat} {xs : List Value} {pi : Value}
end
end Go.Proofs.YtkbiakajlfmakaaGreatDoor
end
section
namespace Go.Sp
/-- what is asked of an item. -/
structure ItN (src : List UInt8) (it : Itm) : Prop where
  small : it.small
  cnt : stmsCnt it.body ≤ 400000000
  st : ItS0 src it
end Go.Sp
namespace Go.Proofs.YtkbiakajlfmakaaGreatDoor
open Go.Fw
section
variable {src : List UInt8} {its : List Sp.Itm} {a : Option Addr} {cp : Nat} {xs : List Value}
end
end Go.Proofs.YtkbiakajlfmakaaGreatDoor
end
section
namespace Go.Fw
open Go
section
variable {P : Program} {N : Nat} {ds : List Deferred} {Q : Exit → Act → World → Prop} {l : Log} {w : World} {ops : Array Oper} {os : List Oper}
variable {d : Nat} {ty : TypeId} {pos : String} {af : Array Edge} {g : Option (Nat × Bool)} {t : TypeId} {x y : Operand} {E : Ent} {I : Imm} {H : List HItem}
end
end Go.Fw
end
section
namespace Go.Sp
end Go.Sp
namespace Go.Proofs.YtkbiakajlfmakaaGreatDoor
open Go.Fw
section
variable {src : List UInt8} {its : List Sp.Itm} {a : Option Addr} {cp : Nat} {xs : List Value}
end
end Go.Proofs.YtkbiakajlfmakaaGreatDoor
end
section
namespace Go.Sp
end Go.Sp
namespace Go.Proofs.YtkbiakajlfmakaaGreatDoor
open Go.Fw
section
variable {src : List UInt8} {its : List Sp.Itm} {a : Option Addr} {cp : Nat} {xs : List Value}
end
end Go.Proofs.YtkbiakajlfmakaaGreatDoor
end
section
namespace Go.Proofs.YtkbiakajlfmakaaGreatDoor
open Go.Fw
section
variable {src : List UInt8} {its : List Sp.Itm} {a : Option Addr} {cp : Nat} {xs : List Value}
end
theorem eqDg0 (z : Sp.Dg) : eqCells (encDg z) (encDg z) = true := by
  obtain ⟨a, b, c, d⟩ := z
  simp [encDg, eqCells, eqCell]
set_option maxHeartbeats 8000000 in
theorem r_same {I : Imm} {l : List Sp.Dg} {a b : Option Addr} {c d : Nat} (hr : RowI I 65 4 (.slice a l.length c) l.length (l.flatMap encDg)) (hr2 : RowI I 65 4 (.slice b l.length d) l.length (l.flatMap encDg)) (hl : l.length ≤ 1099511627776) :
    CalM Tryz.prog 9 #[.slice a l.length c, .slice b l.length d] I [] (fun v _ H' => v = .bool true ∧ H' = []) := by
  refine CalM.of fun w E hm => enter (N := 26) Tryz.func9 rfl [(0, .slice a l.length c), (1, .slice b l.length d)] args2 rfl ?_
  repeat' (first
  | refine op_move (k:=?_)
  | refine op_assign (k:=?_)
  | refine op_neq (k:=?_)
  | refine op_len_slice (k:=?_)
  | refine wl_nil ?_
  | refine at_then_normal ?_
  | refine wc_seq ?_
  | refine wc_region ?_
  | refine wc_block ?_
  | refine wc_skip ?_
  | (refine wc_cond_dec (ht:=fun _ => ?_) (hf:=fun _ => ?_)<;> (try first | contradiction | (exfalso; omega))))
  all_goals try (exfalso; omega)
  refine wc_loop (fun k : Nat => [(0, .slice a l.length c), (1, .slice b l.length d), (12, nt l.length), (13, nt k)])
    (fun k w' => Mem E I [] w' ∧ k ≤ l.length) (fun k => l.length - k) 0 (by exact ⟨rfl, rfl, rfl, rfl, trivial⟩) ⟨hm, Nat.zero_le _⟩ ?_
  clear hm
  rintro k w1 ⟨hm, hk⟩
  try dsimp only at hm hk ⊢
  by_cases hlt : k < l.length
  · have hg : l[((k : Nat) : Int).toNat]? = some l[k] := List.getElem?_eq_getElem hlt
    generalize l[k] = z at hg
    have hself := eqDg0 z
    repeat' (first
    | (refine iq_indexFlat (d:=18) (enc:=encDg) (z:=z) (hr:=hr) (he:=fun _ => rfl) (hz:=hg) (k:=?_); intro bt ot hpt)
    | (refine iq_indexFlat (d:=22) (enc:=encDg) (z:=z) (hr:=hr2) (he:=fun _ => rfl) (hz:=hg) (k:=?_); intro bu ou hpu)
    | refine iq_loadN hm (k:=?_)
    | refine op_move (k:=?_)
    | refine op_assign (k:=?_)
    | refine op_lss (k:=?_)
    | refine op_add (k:=?_)
    | refine wl_nil ?_
    | refine at_then_normal ?_
    | refine at_then_ret ?_
    | refine at_block_normal ?_
    | refine at_block_ret ?_
    | refine wc_seq ?_
    | refine wc_region ?_
    | refine wc_block ?_
    | refine wc_skip ?_
    | refine wc_ret ?_
    | refine at_ret1 (h:=?_)
    | refine wc_quiet (h:=?_)
    | (refine wq_nil ?_; intro _ hkq; replace hm := hm.kept0 hkq; clear hkq)
    | (refine wc_cond_dec (ht:=fun _ => ?_) (hf:=fun _ => ?_)<;> (try first | contradiction | (exfalso; omega)))
    | refine wc_cond (ht:=fun _ => ?_) (hf:=fun _ => ?_)
    | refine q_move (k:=?_)
    | refine q_neq_flat (k:=?_))
    all_goals try (exfalso; first | omega | contradiction | exact absurd ‹(!eqCells (encDg z) (encDg z)) = true› (by rw [hself]; decide))
    exact at_round (k + 1 : Nat) (by exact ⟨rfl, rfl, rfl, rfl, trivial⟩) ⟨hm, by omega⟩ (by omega)
  · obtain rfl : k = l.length := by omega
    repeat' (first
    | refine op_assign (k:=?_)
    | refine op_lss (k:=?_)
    | refine wl_nil ?_
    | refine at_then_normal ?_
    | refine at_then_exit ?_
    | refine at_block_exit ?_
    | refine wc_seq ?_
    | refine wc_region ?_
    | refine wc_exit ?_
    | refine wc_ret ?_
    | refine at_ret1 (h:=?_)
    | (refine wc_cond_dec (ht:=fun _ => ?_) (hf:=fun _ => ?_)<;> (try first | contradiction | (exfalso; omega))))
    all_goals try (exfalso; omega)
    exact ⟨I, [], ⟨rfl, rfl⟩, hm⟩
end Go.Proofs.YtkbiakajlfmakaaGreatDoor
end
section
namespace Go.Sp
theorem item_itF (src : List UInt8) (at_ : Int) (h : src.length ≤ 1048576) : ItF (item src at_) ∧ (item src at_).label < 256 ∧ ∀ p ∈ (item src at_).params, p.label < 256 := by
  have hA := item_all (src := src) (p := anyP) (q := labS) (r := fun p => p.label < 256) (t := fun _ => True) at_ ⟨trivial, fun _ => trivial, fun _ _ _ _ => trivial, fun _ _ => trivial, fun _ _ _ _ _ => trivial, fun _ _ _ _ _ _ _ _ _ _ _ _ _ _ _ _ => trivial⟩
    ⟨by show 0 < 256; omega, fun _ _ lb _ _ h => Nat.lt_succ_of_le h, fun _ _ _ => (by show 0 < 256; omega), fun _ _ _ _ => (by show 0 < 256; omega), fun _ _ _ => (by show 0 < 256; omega)⟩ (fun _ lb h => Nat.lt_succ_of_le h) (fun _ => trivial)
  have hc := item_cnt src at_
  exact ⟨⟨item_small src at_ h, hA.body, by omega⟩, Nat.lt_succ_of_le hA.label, hA.params⟩
theorem file_itF (s : List UInt8) : (∀ x ∈ fileItems s, ItF x) ∧ itLab (fileItems s) := by
  have key : ∀ x ∈ fileItems s, ItF x ∧ x.label < 256 ∧ ∀ p ∈ x.params, p.label < 256 := by
    intro x hx
    by_cases h0 : fileErr s = 0
    · have hl : s.length ≤ 4000 := by
        rw [fileErr] at h0
        split at h0
        · cases h0
        · omega
      rw [fileItems, if_pos h0, items] at hx
      obtain ⟨j, _, rfl⟩ := List.mem_map.1 hx
      exact item_itF _ _ (by rw [piece, List.length_take, List.length_drop]; omega)
    · rw [fileItems, if_neg h0] at hx
      simp at hx
  exact ⟨fun x hx => (key x hx).1, fun x hx => (key x hx).2⟩
end Go.Sp
namespace Go.Proofs.YtkbiakajlfmakaaGreatDoor
open Go.Fw
theorem fe_of {I : Imm} {its : List Sp.Itm} {a : Option Addr} {cp : Nat} {xs : List Value} (h1 : RowI I 59 10 (.slice a its.length cp) its.length xs) (h2 : ItsAt I its xs) (h3 : its.length ≤ 30) : FE I its a cp xs := ⟨h1, h2, by omega⟩
end Go.Proofs.YtkbiakajlfmakaaGreatDoor
end
