/- Own work: texts RnB, RnC, RnD, NsF, NsG, FwApp, NsH, one behind the other. -/
import Derived.Test.YtkbiakajlfmakaaGreatDoorFp22
section
namespace Go.Proofs.YtkbiakajlfmakaaGreatDoor
open Go.Fw
/-- a map that is copied. -/
structure WX where
  S : List Nat
  es : Ents
section
variable {I : Imm} {bc i cp dp up : Nat} {a da ua : Option Addr} {s : Sp.NW}
variable {src : List UInt8} {p : Nat} {q : List UInt8} {its : List Sp.Itm} {it : Sp.Itm} {xs : List Value}
set_option maxHeartbeats 8000000 in
theorem r_glob (hC : RC I src p q its i it a cp xs) (k : Int) (f : Nat) (u : List UInt8) (hst : Sp.stands q f u) (hd : s.n ≤ 1000000000) :
    CalM Tryz.prog 30 #[ptr bc, .int .i64 k, nt f, str u] I (WSt bc a its.length cp i s da dp ua up) (ToW bc a its.length cp i (Sp.itmN its p k f u s) (.int .i64 (Sp.findV its k u))) := by
  have hb := (hC.st.sub _ _ hst).1
  have hlen := hC.len
  have hri := hC.fe.row
  have hfew := hC.fe.few
  refine CalM.of fun w E hm => enter (N := 49) Tryz.func30 rfl [(0, ptr bc), (1, .int .i64 k), (2, nt f), (3, str u)] args4 rfl ?_
  have hfind := (r_find k u its I a cp xs hC.fe).read
  cases hf : Sp.findIt its k u with
  | none =>
    rw [Sp.findV, hf] at hfind ⊢
    dsimp only at hfind ⊢
    rw [Sp.itmN_none hf]
    by_cases hn : u = []
    · rw [if_pos hn]
      subst hn
      repeat' (first
      | (refine m_loadN (n := 1) (d := 13) (vs := [.slice a its.length cp]) hm (by rfl) (by rfl) (by rfl) (by first | exact gt0 | exact gt1 | exact gt2 | exact gt3 | exact gt4 | exact gt5 | exact gt6) (by rfl) (by rfl) ?_)
      | (refine m_readC (d:=16) hm (hc:=hfind) (k:=?_); clear hm; intro _ hm)
      | refine op_move (k:=?_)
      | refine op_assign (k:=?_)
      | refine op_geq (k:=?_)
      | refine op_neq_str (k:=?_)
      | refine op_nilCheck (k:=?_)
      | refine op_fieldAddr (k:=?_)
      | refine wl_nil ?_
      | refine at_then_normal ?_
      | refine wc_seq ?_
      | refine wc_region ?_
      | refine wc_skip ?_
      | refine wc_ret ?_
      | refine at_ret1 (h:=?_)
      | refine wc_cond_false (hf:=?_))
      all_goals try (exfalso; first | omega | contradiction)
      exact ⟨I, _, ⟨rfl, _, _, _, _, rfl⟩, hm⟩
    · rw [if_neg hn]
      have hT := fun (J : Imm) => r_tell (I := J) (bc := bc) (a := a) (n := its.length) (cp := cp) (i := i) (s := s) (da := da) (dp := dp) (ua := ua) (up := up) u f 6 (by omega) hd
      repeat' (first
      | (refine m_loadN (n := 1) (d := 13) (vs := [.slice a its.length cp]) hm (by rfl) (by rfl) (by rfl) (by first | exact gt0 | exact gt1 | exact gt2 | exact gt3 | exact gt4 | exact gt5 | exact gt6) (by rfl) (by rfl) ?_)
      | (refine m_readC (d:=16) hm (hc:=hfind) (k:=?_); clear hm; intro _ hm)
      | (refine m_call (d:=47) hm (hc:=(hT I)) (k:=?_); clear hm; rintro _ I2 _ _ ⟨rfl, da2, dp2, ua2, up2, rfl⟩ hle hm; have hleI2 := hle; try simp only [setn] at hm)
      | refine op_move (k:=?_)
      | refine op_assign (k:=?_)
      | refine op_geq (k:=?_)
      | refine op_neq_str (k:=?_)
      | refine op_nilCheck (k:=?_)
      | refine op_fieldAddr (k:=?_)
      | refine wl_nil ?_
      | refine at_then_normal ?_
      | refine wc_seq ?_
      | refine wc_region ?_
      | refine wc_ret ?_
      | refine at_ret1 (h:=?_)
      | refine wc_cond_false (hf:=?_)
      | (refine wc_cond_dec (ht:=fun _ => ?_) (hf:=fun _ => ?_)<;> (try first | contradiction | (exfalso; omega))))
      all_goals try (exfalso; first | omega | contradiction)
      exact ⟨I2, _, ⟨rfl, _, _, _, _, rfl⟩, hm⟩
  | some j =>
    rw [Sp.findV, hf] at hfind ⊢
    dsimp only at hfind ⊢
    rw [Sp.itmN_some hf]
    obtain ⟨hj, _, _, _, hmemj⟩ := Sp.findIt_lt hf
    obtain ⟨_, dd, hdd, hds⟩ := Sp.findIt_ok hC.sts hf
    have hd0 := hds.1
    have hU := fun (J : Imm) (m : Le I J) => r_use (I := J) (bc := bc) (s := s) (da := da) (dp := dp) (ua := ua) (up := up) (hC.le m) f u ((Sp.itNo its j).at_ + (Sp.itNo its j).mark) hst hd
    obtain ⟨ci, hci, hat, hlc⟩ := hC.fe.get (Sp.itNo_get hj)
    obtain ⟨pa, pc, sa9, sc9, ba, bc9, da9, dc9, xb, rfl, _⟩ := hat
    repeat' (first
    | (refine m_loadN (n := 1) (d := 13) (vs := [.slice a its.length cp]) hm (by rfl) (by rfl) (by rfl) (by first | exact gt0 | exact gt1 | exact gt2 | exact gt3 | exact gt4 | exact gt5 | exact gt6) (by rfl) (by rfl) ?_)
    | (refine m_readC (d:=16) hm (hc:=hfind) (k:=?_); clear hm; intro _ hm)
    | (refine wc_quiet_tail (id:=3) 22 (h:=?_))
    | (refine iq_indexAddr (d:=28) (hr:=hri) (k:=?_); intro bt ot hpt; rw [show ((j : Int).toNat * 10) = j * 10 from rfl, hci] at hpt)
    | (refine iq_indexAddr (d:=37) (hr:=hri) (k:=?_); intro bu ou hpu; rw [show ((j : Int).toNat * 10) = j * 10 from rfl, hci] at hpu)
    | (refine m_call (d:=41) hm (hc:=(hU I (Le.refl _))) (k:=?_); clear hm; rintro _ I2 _ _ ⟨rfl, da2, dp2, ua2, up2, rfl⟩ hle hm; have hleI2 := hle; try simp only [setn] at hm)
    | refine mq_load1 hm (k:=?_)
    | refine iq_load1 hm (k:=?_)
    | refine op_move (k:=?_)
    | refine op_assign (k:=?_)
    | refine op_geq (k:=?_)
    | refine op_nilCheck (k:=?_)
    | refine op_fieldAddr (k:=?_)
    | refine wl_nil ?_
    | refine at_then_normal ?_
    | refine wc_seq ?_
    | refine wc_region ?_
    | refine wc_ret ?_
    | refine at_ret1 (h:=?_)
    | (refine wq_nil_tail ?_; intro _ hkq; replace hm := hm.kept0 hkq; clear hkq)
    | refine wc_cond_true (ht:=?_)
    | refine q_move (k:=?_)
    | refine q_nilCheck (k:=?_)
    | refine q_add (k:=?_)
    | refine q_fieldAddr (k:=?_))
    all_goals try (exfalso; first | omega | contradiction)
    exact ⟨I2, _, ⟨rfl, _, _, _, _, rfl⟩, hm⟩
theorem env_start (I : Imm) (p b : Nat) (h : MapI I b []) : EnvI I p [] b [] := ⟨h, fun _n => rfl⟩
set_option maxHeartbeats 16000000 in
theorem r_with (hC : RC I src p q its i it a cp xs) {be : Nat} {es : Ents} {sc : List Sp.Lc} (hE : EnvI I p sc be es) (u : List UInt8) (f : Nat) (hst : Sp.stands q f u) (hd : s.n ≤ 1000000000) :
    CalM Tryz.prog 29 #[ptr bc, .map (some be), str u, nt f] I (WSt bc a its.length cp i s da dp ua up)
      (fun v J H' => ∃ b2 es2, v = .map (some b2) ∧ EnvI J p (Sp.mkN u f sc s).1 b2 es2 ∧ ∃ da dp ua up, H' = WSt bc a its.length cp i (Sp.mkN u f sc s).2 da dp ua up) := by
  have hb := (hC.st.sub _ _ hst).1
  have hlen := hC.len
  have hri := hC.fe.row
  have hfew := hC.fe.few
  have hat := hC.st.at_
  have hi := (List.getElem?_eq_some_iff.1 hC.at_).1
  obtain ⟨ci, hci, hati, _⟩ := hC.fe.get hC.at_
  obtain ⟨pa, pc, sa9, sc9, ba, bc9, da9, dc9, xb, rfl, _⟩ := hati
  rw [hat] at hci
  refine CalM.of fun w E hm => enter (N := 56) Tryz.func29 rfl [(0, ptr bc), (1, .map (some be)), (2, str u), (3, nt f)] args4 rfl ?_
  repeat' (first
  | (refine m_makeMap (d:=14) hm (k:=?_); clear hm; intro bm _ hm)
  | (refine wc_cut_regN 2 (fun _ : WX => [(0, ptr bc), (1, .map (some be)), (2, str u), (3, nt f), (9, .map (some bm))]) (fun x w' => Mem E I (.mp bm x.es :: WSt bc a its.length cp i s da dp ua up) w' ∧ (x.es.map (·.1)).Nodup ∧ ∀ m, mget x.es m = mget es m) ?_ ?_)
  | refine op_assign (k:=?_)
  | refine wl_nil ?_
  | refine at_then_normal ?_
  | refine wc_seq ?_
  | refine wc_region ?_)
  · refine ⟨?_⟩
    repeat' (first
    | (refine m_range (d := 16) hm (by rfl) (by rfl) (by rfl) (hm.mapI hE.map) ?_; clear hm; intro r _ hm)
    | refine op_move (k:=?_)
    | refine wl_nil ?_
    | refine at_then_normal ?_
    | refine wc_seq ?_
    | refine wc_region ?_
    | refine wc_block ?_)
    refine wc_loop (fun _ : WX => [(0, ptr bc), (1, .map (some be)), (2, str u), (3, nt f), (9, .map (some bm)), (16, ptr r)])
      (fun x w' => Mem E I (.it r be es.length x.S :: .mp bm x.es :: WSt bc a its.length cp i s da dp ua up) w' ∧ Copied es x.S x.es) (fun x => leftN es.length x.S) ⟨[], []⟩
      (by exact ⟨rfl, rfl, rfl, rfl, rfl, rfl, trivial⟩) ⟨hm, Copied.start es⟩ ?_
    clear hm
    rintro ⟨S, es2⟩ w1 ⟨hm, hcp⟩
    dsimp only at hm hcp ⊢
    repeat' (first
    | (refine m_next (d := 17) hm (by rfl) (by rfl) (by rfl) (by first | exact gt0 | exact gt1 | exact gt2 | exact gt3 | exact gt4 | exact gt5 | exact gt6) (hm.mapI hE.map) (fun hall => ?_) (fun j ku kv w2 hj hS hm2 => ?_))
    | (refine m_entry (d := 19) hm2 (by rfl) (by rfl) (by rfl) (by first | exact gt0 | exact gt1 | exact gt2 | exact gt3 | exact gt4 | exact gt5 | exact gt6) (hm2.mapI hE.map) hj ?_; clear hm; have hm := hm2; clear hm2; try simp only [setn] at hm)
    | (refine wl_mapUpdate ?_; refine m_put hm (by rfl) (by rfl) (by rfl) (by rfl) (by rfl) (by first | exact gt0 | exact gt1 | exact gt2 | exact gt3 | exact gt4 | exact gt5 | exact gt6) hcp.nodup ?_; clear hm; intro _ hm; try simp only [setn] at hm)
    | refine op_move (k:=?_)
    | refine op_assign (k:=?_)
    | refine op_extract (k:=?_)
    | refine wl_nil ?_
    | refine at_then_normal ?_
    | refine at_then_exit ?_
    | refine at_block_normal ?_
    | refine at_block_exit ?_
    | refine wc_seq ?_
    | refine wc_region ?_
    | refine wc_block ?_
    | refine wc_skip ?_
    | refine wc_exit ?_
    | refine wc_cond_true (ht:=?_)
    | refine wc_cond_false (hf:=?_))
    · exact at_cut (⟨S, es2⟩ : WX) (by exact ⟨rfl, rfl, rfl, rfl, rfl, trivial⟩) ⟨hm.tl, hcp.nodup, hcp.done hE.map.nodup hall⟩
    · exact at_round (⟨S ++ [j], mput es2 ku kv⟩ : WX) (by exact ⟨rfl, rfl, rfl, rfl, rfl, rfl, trivial⟩) ⟨hm, hcp.put hE.map.nodup hj⟩ (leftN_step (List.getElem?_eq_some_iff.1 hj).1 hS)
  · clear hm
    rintro ⟨S, es2⟩ w1 ⟨hm, hnd, hsame⟩
    dsimp only at hm hnd hsame ⊢
    have hg := hE.get u
    by_cases hn : u = []
    · subst hn
      rw [show Sp.mkN [] f sc s = (sc, s) by rw [Sp.mkN, if_pos rfl]]
      repeat' (first
      | refine op_move (k:=?_)
      | refine op_assign (k:=?_)
      | refine op_eql_str (k:=?_)
      | refine wl_nil ?_
      | refine at_then_normal ?_
      | refine at_then_ret ?_
      | refine wc_seq ?_
      | refine wc_region ?_
      | refine wc_ret ?_
      | refine at_ret1 (h:=?_)
      | refine wc_cond_true (ht:=?_))
      all_goals try (exfalso; first | omega | contradiction)
      obtain ⟨J, hJ, hmJ, hmap⟩ := hm.freezeM hnd
      exact ⟨J, _, ⟨bm, es2, rfl, ⟨hmap, fun m => (hsame m).trans (hE.get m)⟩, _, _, _, _, rfl⟩, hmJ⟩
    have hfin : ∀ m, mget (mput es2 u (.int .i64 ((p : Int) + f))) m = (Sp.findLc (sc ++ [⟨u, f⟩]) m).map (fun l => .int .i64 ((p : Int) + l.at_)) := fun m => by
      rw [mget_mput m hnd, Sp.findLc_snoc]
      by_cases e : m = u
      · subst e; rw [if_pos rfl, if_pos rfl]; rfl
      · rw [if_neg e, if_neg (fun h => e h.symm), hsame, hE.get]
    cases hf : Sp.findLc sc u with
    | some l =>
      rw [hf] at hg
      rw [Sp.mkN_some hn hf]
      have hT := fun (J : Imm) => r_tell (I := J) (bc := bc) (a := a) (n := its.length) (cp := cp) (i := i) (s := s) (da := da) (dp := dp) (ua := ua) (up := up) u f 7 (by omega) hd
      repeat' (first
      | (refine op_lookup2 (d := 31) (by rfl) (by rfl) (by rfl) (by rfl) (hm.mapI hE.map) zero_num ?_; rw [hg]; dsimp only [Option.map_some, Option.getD_some, Option.isSome_some])
      | (refine m_call (d:=38) hm (hp:=pm3_1) (hc:=hT I) (k:=?_); clear hm; rintro _ I2 _ _ ⟨rfl, da2, dp2, ua2, up2, rfl⟩ hleI2 hm; try simp only [setn] at hm; have hri2 := hri.le hleI2)
      | (refine wc_quiet_tail (id:=11) 16 (h:=?_))
      | (refine iq_indexAddr (d:=50) (hr:=hri2) (k:=?_); intro bt ot hpt; rw [show ((i : Int).toNat * 10) = i * 10 from rfl, hci] at hpt)
      | (refine wl_mapUpdate ?_; refine m_put hm (by rfl) (by rfl) (by rfl) (by rfl) (by rfl) (by first | exact gt0 | exact gt1 | exact gt2 | exact gt3 | exact gt4 | exact gt5 | exact gt6) hnd ?_; clear hm; intro _ hm; try simp only [setn] at hm)
      | refine mq_load1 hm (k:=?_)
      | refine iq_load1 hm (k:=?_)
      | refine op_move (k:=?_)
      | refine op_assign (k:=?_)
      | refine op_eql_str (k:=?_)
      | refine op_extract (k:=?_)
      | refine wl_nil ?_
      | refine at_then_normal ?_
      | refine wc_seq ?_
      | refine wc_region ?_
      | refine wc_skip ?_
      | refine wc_ret ?_
      | refine at_ret1 (h:=?_)
      | (refine wq_nil_tail ?_; intro _ hkq; replace hm := hm.kept0 hkq; clear hkq)
      | refine wc_cond_true (ht:=?_)
      | (refine wc_cond_dec (ht:=fun _ => ?_) (hf:=fun _ => ?_)<;> (try first | contradiction | (exfalso; omega)))
      | refine q_move (k:=?_)
      | refine q_nilCheck (k:=?_)
      | refine q_add (k:=?_)
      | refine q_fieldAddr (k:=?_))
      all_goals try (exfalso; first | omega | contradiction)
      obtain ⟨J, hJ, hmJ, hmap⟩ := (hm.front 3 rfl).freezeM (mput_nodup hnd)
      exact ⟨J, _, ⟨bm, _, rfl, ⟨hmap, hfin⟩, _, _, _, _, rfl⟩, hmJ⟩
    | none =>
      rw [hf] at hg
      rw [Sp.mkN_none hn hf]
      repeat' (first
      | (refine op_lookup2 (d := 31) (by rfl) (by rfl) (by rfl) (by rfl) (hm.mapI hE.map) zero_num ?_; rw [hg]; dsimp only [Option.map_none, Option.getD_none, Option.isSome_none])
      | (refine wc_quiet_tail (id:=11) 16 (h:=?_))
      | (refine iq_indexAddr (d:=50) (hr:=hri) (k:=?_); intro bt ot hpt; rw [show ((i : Int).toNat * 10) = i * 10 from rfl, hci] at hpt)
      | (refine wl_mapUpdate ?_; refine m_put hm (by rfl) (by rfl) (by rfl) (by rfl) (by rfl) (by first | exact gt0 | exact gt1 | exact gt2 | exact gt3 | exact gt4 | exact gt5 | exact gt6) hnd ?_; clear hm; intro _ hm; try simp only [setn] at hm)
      | refine mq_load1 hm (k:=?_)
      | refine iq_load1 hm (k:=?_)
      | refine op_move (k:=?_)
      | refine op_assign (k:=?_)
      | refine op_eql_str (k:=?_)
      | refine op_extract (k:=?_)
      | refine wl_nil ?_
      | refine at_then_normal ?_
      | refine wc_seq ?_
      | refine wc_region ?_
      | refine wc_skip ?_
      | refine wc_ret ?_
      | refine at_ret1 (h:=?_)
      | (refine wq_nil_tail ?_; intro _ hkq; replace hm := hm.kept0 hkq; clear hkq)
      | refine wc_cond_false (hf:=?_)
      | (refine wc_cond_dec (ht:=fun _ => ?_) (hf:=fun _ => ?_)<;> (try first | contradiction | (exfalso; omega)))
      | refine q_move (k:=?_)
      | refine q_nilCheck (k:=?_)
      | refine q_add (k:=?_)
      | refine q_fieldAddr (k:=?_))
      all_goals try (exfalso; first | omega | contradiction)
      obtain ⟨J, hJ, hmJ, hmap⟩ := hm.freezeM (mput_nodup hnd)
      exact ⟨J, _, ⟨bm, _, rfl, ⟨hmap, hfin⟩, _, _, _, _, rfl⟩, hmJ⟩
end
end Go.Proofs.YtkbiakajlfmakaaGreatDoor
end
section
namespace Go.Proofs.YtkbiakajlfmakaaGreatDoor
open Go.Fw
structure RX where
  k : Nat
  I : Imm
  da : Option Addr
  dp : Nat
  ua : Option Addr
  up : Nat
/-- what is shown of an expression's names. -/
def RExOk (src : List UInt8) (p : Nat) (q : List UInt8) (its : List Sp.Itm) (i : Nat) (it : Sp.Itm) (bc : Nat) (a : Option Addr) (cp : Nat) (xs : List Value) (sc : List Sp.Lc) (be : Nat) (es : Ents) (e : Sp.Ex) : Prop :=
  ∀ (I : Imm) (ea : Option Addr) (ec : Nat) (ys : List Value) (s : Sp.NW) (da : Option Addr) (dp : Nat) (ua : Option Addr) (up : Nat), s.n + 2 * e.cnt ≤ 900000000 → RC I src p q its i it a cp xs → EnvI I p sc be es →
    RowI I 100 6 (.slice ea e.args.length ec) e.args.length ys → ExsAt I e.args ys →
    CalM Tryz.prog 45 #[ptr bc, .map (some be), .agg (exCells e ea ec).toArray] I (WSt bc a its.length cp i s da dp ua up) (ToW bc a its.length cp i (Sp.exN its p sc e s) (.tuple #[]))
section
variable {src : List UInt8} {p : Nat} {q : List UInt8} {its : List Sp.Itm} {i : Nat} {it : Sp.Itm} {bc : Nat} {a : Option Addr} {cp : Nat} {xs : List Value} {sc : List Sp.Lc} {be : Nat} {es : Ents}
set_option maxHeartbeats 16000000 in
theorem r_expr : ∀ (n : Nat) (e : Sp.Ex), SizeOf.sizeOf e ≤ n → e.small → e.all (Sp.stE q) → RExOk src p q its i it bc a cp xs sc be es e := by
  intro n
  induction n with
  | zero => intro e h; cases e; simp at h
  | succ n ih =>
  intro e hsz hsm hall I ea ec ys s da dp ua up hn hC hE hr hx
  obtain ⟨hal, hasm⟩ := Sp.small_args hsm
  obtain ⟨hst, haall⟩ := Sp.Ex.all_node hall
  have hcnt := Sp.cnt_args e
  refine CalM.of fun w E hm => enter (N := 64) Tryz.func45 rfl [(0, ptr bc), (1, .map (some be)), (2, .agg (exCells e ea ec).toArray)] args3 rfl ?_
  have hhd := Sp.headN_n its p sc e s
  rw [Sp.exN_eq]
  have hhr : Sp.headN its p sc e s = if e.kind = 2 then Sp.locN p sc e.fr e.name s else if e.kind = 4 then Sp.callN its p e.fr e.name e.args.length s else s := rfl
  generalize Sp.headN its p sc e s = r at hhr hhd ⊢
  obtain ⟨r1, hr1⟩ : ∃ r1, r1 = if e.kind = 2 then Sp.locN p sc e.fr e.name s else s := ⟨_, rfl⟩
  have hr1n : s.n ≤ r1.n ∧ r1.n ≤ s.n + 1 := by
    have := Sp.locN_n p sc e.fr e.name s
    rw [hr1]; split <;> omega
  repeat' (first
  | (refine wc_cut_regN 1 (fun _ : RX => [(0, ptr bc), (1, .map (some be)), (5, ptr b5)]) (fun x w' => Mem E x.I (WSt bc a its.length cp i r1 x.da x.dp x.ua x.up) w' ∧ Le I x.I ∧ PtrI x.I b5 0 100 (exCells e ea ec)) ?_ ?_)
  | (refine m_box (d:=5) hm (k:=?_); clear hm; intro b5 _ hm)
  | refine wl_nil ?_
  | refine at_then_normal ?_
  | refine wc_seq ?_
  | refine wc_region ?_)
  · clear hhr hhd
    obtain ⟨I0, hle0, hm0, hp⟩ := hm.freezeO
    clear hm
    have hm := hm0
    clear hm0
    replace hC := hC.le hle0
    replace hE := hE.le hle0
    replace hr := hr.le hle0
    replace hx := ExsAt.le hle0 _ _ hx
    refine ⟨?_⟩
    by_cases k2 : e.kind = 2
    · rw [if_pos k2] at hr1
      subst hr1
      have hc := fun (J : Imm) (m : Le I0 J) => r_local (I := J) (bc := bc) (s := s) (da := da) (dp := dp) (ua := ua) (up := up) (hC.le m) (hE.le m) e.fr e.name (hst (.inl k2)) (by omega)
      repeat' (first
      | (refine m_call (d:=18) hm (hc:=(hc I0 (Le.refl _))) (k:=?_); clear hm; rintro _ I2 _ _ ⟨rfl, da2, dp2, ua2, up2, rfl⟩ hle hm; have hleI2 := hle; try simp only [setn] at hm)
      | refine i_load1 hm (k:=?_)
      | refine op_move (k:=?_)
      | refine op_eql (k:=?_)
      | refine op_fieldAddr (k:=?_)
      | refine wl_nil ?_
      | refine at_then_normal ?_
      | refine wc_seq ?_
      | refine wc_region ?_
      | (refine wc_cond_dec (ht:=fun _ => ?_) (hf:=fun _ => ?_)<;> (try first | contradiction | (exfalso; omega))))
      all_goals try (exfalso; omega)
      exact at_cut (⟨0, I2, da2, dp2, ua2, up2⟩ : RX) (by exact ⟨rfl, rfl, rfl, trivial⟩) ⟨hm, hle0.trans hleI2, hp.le hleI2⟩
    · rw [if_neg k2] at hr1
      subst hr1
      repeat' (first
      | refine i_load1 hm (k:=?_)
      | refine op_eql (k:=?_)
      | refine op_fieldAddr (k:=?_)
      | refine wl_nil ?_
      | refine at_then_normal ?_
      | refine wc_seq ?_
      | refine wc_region ?_
      | refine wc_skip ?_
      | (refine wc_cond_dec (ht:=fun _ => ?_) (hf:=fun _ => ?_)<;> (try first | contradiction | (exfalso; omega))))
      all_goals try (exfalso; omega)
      exact at_cut (⟨0, I0, da, dp, ua, up⟩ : RX) (by exact ⟨rfl, rfl, rfl, trivial⟩) ⟨hm, hle0, hp⟩
  clear hm
  rintro ⟨_, I1, da1, dp1, ua1, up1⟩ w1 ⟨hm, hle1, hp⟩
  dsimp only at hm hle1 hp ⊢
  replace hC := hC.le hle1
  replace hE := hE.le hle1
  replace hr := hr.le hle1
  replace hx := ExsAt.le hle1 _ _ hx
  replace hhr : r = if e.kind = 4 then Sp.callN its p e.fr e.name e.args.length r1 else r1 := by
    rw [hhr, hr1]
    by_cases k2 : e.kind = 2
    · rw [if_pos k2, if_neg (by omega), if_pos k2]
    · rw [if_neg k2, if_neg k2]
  clear hr1
  repeat' (first
  | (refine wc_cut_regN 3 (fun _ : RX => [(0, ptr bc), (1, .map (some be)), (5, ptr b5)]) (fun x w' => Mem E x.I (WSt bc a its.length cp i r x.da x.dp x.ua x.up) w' ∧ Le I1 x.I) ?_ ?_))
  · refine ⟨?_⟩
    by_cases k4 : e.kind = 4
    · rw [if_pos k4] at hhr
      have hin := Sp.itmN_n its p 2 e.fr e.name r1
      have hbd := (hC.st.sub _ _ (hst (.inr k4))).1
      have hlen := hC.len
      have hri := hC.fe.row
      have hfew := hC.fe.few
      have hc := fun (J : Imm) (m : Le I1 J) => r_glob (I := J) (bc := bc) (s := r1) (da := da1) (dp := dp1) (ua := ua1) (up := up1) (hC.le m) 2 e.fr e.name (hst (.inr k4)) (by omega)
      cases hf : Sp.findIt its 2 e.name with
      | none =>
        rw [Sp.callN_none hf] at hhr
        subst hhr
        rw [Sp.findV, hf] at hc
        dsimp only at hc
        repeat' (first
        | (refine m_call (d:=27) hm (hc:=(hc I1 (Le.refl _))) (k:=?_); clear hm; rintro _ I2 _ _ ⟨rfl, da2, dp2, ua2, up2, rfl⟩ hle hm; have hleI2 := hle; try simp only [setn] at hm)
        | refine i_load1 hm (k:=?_)
        | refine op_move (k:=?_)
        | refine op_assign (k:=?_)
        | refine op_eql (k:=?_)
        | refine op_fieldAddr (k:=?_)
        | refine wl_nil ?_
        | refine at_then_normal ?_
        | refine wc_seq ?_
        | refine wc_region ?_
        | refine wc_skip ?_
        | refine wc_quiet (h:=?_)
        | (refine wq_nil ?_; intro _ hkq; replace hm := hm.kept0 hkq; clear hkq)
        | refine wc_cond_false (hf:=?_)
        | (refine wc_cond_dec (ht:=fun _ => ?_) (hf:=fun _ => ?_)<;> (try first | contradiction | (exfalso; omega)))
        | refine q_move (k:=?_)
        | refine q_pick_false (k:=?_)
        | refine q_geq (k:=?_)
        | refine wq_skip (k:=?_))
        all_goals try (exfalso; omega)
        exact at_cut (⟨0, I2, da2, dp2, ua2, up2⟩ : RX) (by exact ⟨rfl, rfl, rfl, trivial⟩) ⟨hm, hleI2⟩
      | some j =>
        rw [Sp.callN_some hf] at hhr
        rw [Sp.findV, hf] at hc
        dsimp only at hc
        obtain ⟨hj, _, _, _, hmemj⟩ := Sp.findIt_lt hf
        obtain ⟨ci, hci, hat, hlc⟩ := hC.fe.get (Sp.itNo_get hj)
        obtain ⟨pa, pc, sa9, sc9, ba, bc9, da9, dc9, xb, rfl, _⟩ := hat
        generalize Sp.itmN its p 2 e.fr e.name r1 = s1 at hc hhr hin
        by_cases hpl : (Sp.itNo its j).params.length ≠ e.args.length
        · rw [if_pos hpl] at hhr
          subst hhr
          have hT := fun (J : Imm) (da : Option Addr) (dp : Nat) (ua : Option Addr) (up : Nat) => r_tell (I := J) (bc := bc) (a := a) (n := its.length) (cp := cp) (i := i) (s := s1) (da := da) (dp := dp) (ua := ua) (up := up) e.name e.fr 5 (by omega) (by omega)
          repeat' (first
          | (refine m_call (d:=27) hm (hc:=(hc I1 (Le.refl _))) (k:=?_); clear hm; rintro _ I2 _ _ ⟨rfl, da2, dp2, ua2, up2, rfl⟩ hle hm; have hleI2 := hle; try simp only [setn] at hm; have hp2 := hp.le hleI2; have hri2 := hri.le hleI2)
          | (refine iq_indexAddr (d:=37) (hr:=hri2) (k:=?_); intro bt ot hpt; rw [show ((j : Int).toNat * 10) = j * 10 from rfl, hci] at hpt)
          | (refine m_call (d:=51) hm (hc:=(hT I2 da2 dp2 ua2 up2)) (k:=?_); clear hm; rintro _ I3 _ _ ⟨rfl, da3, dp3, ua3, up3, rfl⟩ hle hm; have hleI3 := hle; try simp only [setn] at hm)
          | refine i_load1 hm (k:=?_)
          | refine mq_load1 hm (k:=?_)
          | refine iq_load1 hm (k:=?_)
          | refine op_move (k:=?_)
          | refine op_assign (k:=?_)
          | refine op_eql (k:=?_)
          | refine op_fieldAddr (k:=?_)
          | refine wl_nil ?_
          | refine at_then_normal ?_
          | refine wc_seq ?_
          | refine wc_region ?_
          | refine wc_quiet (h:=?_)
          | (refine wq_nil ?_; intro _ hkq; replace hm := hm.kept0 hkq; clear hkq)
          | (refine wc_cond_dec (ht:=fun _ => ?_) (hf:=fun _ => ?_)<;> (try first | contradiction | (exfalso; omega)))
          | refine q_move (k:=?_)
          | refine q_pick_true (k:=?_)
          | refine q_geq (k:=?_)
          | refine q_neq (k:=?_)
          | refine q_len_slice (k:=?_)
          | refine q_nilCheck (k:=?_)
          | refine q_fieldAddr (k:=?_))
          all_goals try (exfalso; omega)
          exact at_cut (⟨0, I3, da3, dp3, ua3, up3⟩ : RX) (by exact ⟨rfl, rfl, rfl, trivial⟩) ⟨hm, hleI2.trans hleI3⟩
        · rw [if_neg hpl] at hhr
          subst hhr
          repeat' (first
          | (refine m_call (d:=27) hm (hc:=(hc I1 (Le.refl _))) (k:=?_); clear hm; rintro _ I2 _ _ ⟨rfl, da2, dp2, ua2, up2, rfl⟩ hle hm; have hleI2 := hle; try simp only [setn] at hm; have hp2 := hp.le hleI2; have hri2 := hri.le hleI2)
          | (refine iq_indexAddr (d:=37) (hr:=hri2) (k:=?_); intro bt ot hpt; rw [show ((j : Int).toNat * 10) = j * 10 from rfl, hci] at hpt)
          | refine i_load1 hm (k:=?_)
          | refine mq_load1 hm (k:=?_)
          | refine iq_load1 hm (k:=?_)
          | refine op_move (k:=?_)
          | refine op_assign (k:=?_)
          | refine op_eql (k:=?_)
          | refine op_fieldAddr (k:=?_)
          | refine wl_nil ?_
          | refine at_then_normal ?_
          | refine wc_seq ?_
          | refine wc_region ?_
          | refine wc_skip ?_
          | refine wc_quiet (h:=?_)
          | (refine wq_nil ?_; intro _ hkq; replace hm := hm.kept0 hkq; clear hkq)
          | (refine wc_cond_dec (ht:=fun _ => ?_) (hf:=fun _ => ?_)<;> (try first | contradiction | (exfalso; omega)))
          | refine q_move (k:=?_)
          | refine q_pick_true (k:=?_)
          | refine q_geq (k:=?_)
          | refine q_neq (k:=?_)
          | refine q_len_slice (k:=?_)
          | refine q_nilCheck (k:=?_)
          | refine q_fieldAddr (k:=?_))
          all_goals try (exfalso; omega)
          exact at_cut (⟨0, I2, da2, dp2, ua2, up2⟩ : RX) (by exact ⟨rfl, rfl, rfl, trivial⟩) ⟨hm, hleI2⟩
    · rw [if_neg k4] at hhr
      subst hhr
      repeat' (first
      | refine i_load1 hm (k:=?_)
      | refine op_eql (k:=?_)
      | refine op_fieldAddr (k:=?_)
      | refine wl_nil ?_
      | refine at_then_normal ?_
      | refine wc_seq ?_
      | refine wc_region ?_
      | refine wc_skip ?_
      | (refine wc_cond_dec (ht:=fun _ => ?_) (hf:=fun _ => ?_)<;> (try first | contradiction | (exfalso; omega))))
      all_goals try (exfalso; omega)
      exact at_cut (⟨0, I1, da1, dp1, ua1, up1⟩ : RX) (by exact ⟨rfl, rfl, rfl, trivial⟩) ⟨hm, Le.refl _⟩
  · clear hm hhr
    rintro ⟨_, I2, da2, dp2, ua2, up2⟩ w2 ⟨hm, hle2⟩
    dsimp only at hm hle2 ⊢
    replace hC := hC.le hle2
    replace hE := hE.le hle2
    replace hr := hr.le hle2
    replace hx := ExsAt.le hle2 _ _ hx
    replace hp := hp.le hle2
    repeat' (first
    | refine i_load1 hm (k:=?_)
    | refine op_move (k:=?_)
    | refine op_len_slice (k:=?_)
    | refine op_fieldAddr (k:=?_)
    | refine wl_nil ?_
    | refine at_then_normal ?_
    | refine wc_seq ?_
    | refine wc_region ?_
    | refine wc_block ?_)
    all_goals try (exfalso; omega)
    refine wc_loop (fun x : RX => [(0, ptr bc), (1, .map (some be)), (53, .slice ea e.args.length ec), (54, nt e.args.length), (55, nt x.k)])
      (fun x w' => Mem E x.I (WSt bc a its.length cp i (Sp.exsN its p sc (e.args.take x.k) r) x.da x.dp x.ua x.up) w' ∧ Le I2 x.I ∧ x.k ≤ e.args.length) (fun x => e.args.length - x.k) ⟨0, I2, da2, dp2, ua2, up2⟩
      (by exact ⟨rfl, rfl, rfl, rfl, rfl, trivial⟩) ⟨by dsimp only; rw [List.take_zero, Sp.exsN]; exact hm, Le.refl _, Nat.zero_le _⟩ ?_
    clear hm
    rintro ⟨k, I3, da3, dp3, ua3, up3⟩ w3 ⟨hm, hle3, hk⟩
    dsimp only at hm hle3 hk ⊢
    have hC3 := hC.le hle3
    have hE3 := hE.le hle3
    have hrow := hr.le hle3
    by_cases hlt : k < e.args.length
    · have hg : e.args[k]? = some e.args[k] := List.getElem?_eq_getElem hlt
      have hsz2 := Sp.size_args (List.getElem_mem hlt)
      have hsm2 := Sp.exsSmall_get hasm hg
      have hal2 := Sp.exsAll_get haall hg
      obtain ⟨ea2, ec2, ys2, hc2, hr2, hx2⟩ := (hx.get hg).out
      generalize e.args[k] = y at hg hsz2 hsm2 hal2 hc2 hr2 hx2
      have hstp := Sp.exsN_step its p sc hg r
      have hcy := Sp.exsCnt_take hg
      have hnn := Sp.exsN_n its p sc (e.args.take k) r
      generalize Sp.exsN its p sc (e.args.take k) r = s1 at hm hstp hnn
      have hcl := ih y (by omega) hsm2 hal2 I3 ea2 ec2 ys2 s1 da3 dp3 ua3 up3 (by omega) hC3 hE3 (hr2.le hle3) (ExsAt.le hle3 _ _ hx2)
      generalize Sp.exN its p sc y s1 = s2 at hcl hstp
      repeat' (first
      | (refine i_indexAddr (d:=57) (hr:=hrow) (k:=?_); intro bt ot hpt; rw [show ((k : Int).toNat * 6) = k * 6 from rfl, hc2] at hpt)
      | (refine i_loadN (d:=58) hm (hp:=hpt) (k:=?_))
      | (refine m_call (d:=62) hm (hp:=pm3_1) (hc:=hcl) (k:=?_); clear hm; rintro _ I4 _ _ ⟨rfl, da4, dp4, ua4, up4, rfl⟩ hleI4 hm; try simp only [setn] at hm)
      | (refine m_varS (d:=8) hm (k:=?_); clear hm; intro b8 _ hm)
      | refine m_loadAll hm (k:=?_)
      | refine op_move (k:=?_)
      | refine op_lss (k:=?_)
      | refine op_add (k:=?_)
      | refine wl_nil ?_
      | refine at_then_normal ?_
      | refine at_block_normal ?_
      | refine wc_seq ?_
      | refine wc_region ?_
      | refine wc_block ?_
      | refine wc_skip ?_
      | (refine wc_cond_dec (ht:=fun _ => ?_) (hf:=fun _ => ?_)<;> (try first | contradiction | (exfalso; omega))))
      all_goals try (exfalso; omega)
      exact at_round (⟨k + 1, I4, da4, dp4, ua4, up4⟩ : RX) (by exact ⟨rfl, rfl, rfl, rfl, rfl, trivial⟩) ⟨by dsimp only; rw [hstp]; exact hm.left, hle3.trans hleI4, by dsimp only; omega⟩ (by dsimp only; omega)
    · obtain rfl : k = e.args.length := by omega
      rw [List.take_length] at hm
      repeat' (first
      | refine op_lss (k:=?_)
      | refine wl_nil ?_
      | refine at_then_normal ?_
      | refine at_then_exit ?_
      | refine at_block_exit ?_
      | refine wc_seq ?_
      | refine wc_region ?_
      | refine wc_exit ?_
      | refine at_end0 (h:=?_)
      | (refine wc_cond_dec (ht:=fun _ => ?_) (hf:=fun _ => ?_)<;> (try first | contradiction | (exfalso; omega))))
      all_goals try (exfalso; omega)
      exact ⟨I3, _, ⟨rfl, _, _, _, _, rfl⟩, hm⟩
end
end Go.Proofs.YtkbiakajlfmakaaGreatDoor
end
section
namespace Go.Proofs.YtkbiakajlfmakaaGreatDoor
open Go.Fw
structure RY where
  k : Nat
  I : Imm
  be : Nat
  es : Ents
  da : Option Addr
  dp : Nat
  ua : Option Addr
  up : Nat
def RBlkOk (src : List UInt8) (p : Nat) (q : List UInt8) (its : List Sp.Itm) (i : Nat) (it : Sp.Itm) (bc : Nat) (a : Option Addr) (cp : Nat) (xs : List Value) (l : List Sp.Stm) : Prop :=
  ∀ (I : Imm) (ab : Option Addr) (cb : Nat) (xb : List Value) (sc : List Sp.Lc) (s : Sp.NW) (be : Nat) (es : Ents) (da : Option Addr) (dp : Nat) (ua : Option Addr) (up : Nat), s.n + 2 * Sp.stmsCnt l ≤ 900000000 → RC I src p q its i it a cp xs → EnvI I p sc be es →
    RowI I 102 15 (.slice ab l.length cb) l.length xb → StsAt I l xb →
    CalM Tryz.prog 31 #[ptr bc, .map (some be), .slice ab l.length cb] I (WSt bc a its.length cp i s da dp ua up) (ToW bc a its.length cp i (Sp.stmsN its p l sc s).2 (.tuple #[]))
section
variable {src : List UInt8} {p : Nat} {q : List UInt8} {its : List Sp.Itm} {i : Nat} {it : Sp.Itm} {bc : Nat} {a : Option Addr} {cp : Nat} {xs : List Value}
set_option maxHeartbeats 32000000 in
theorem r_block (l : List Sp.Stm) (hl : l.length ≤ 64) (hsml : Sp.stmsSmall l) (hall : Sp.stmsAll (Sp.stE q) (Sp.stS q) l) (hS : ∀ y ∈ l, RBlkOk src p q its i it bc a cp xs y.thn ∧ RBlkOk src p q its i it bc a cp xs y.els) : RBlkOk src p q its i it bc a cp xs l := by
  intro I ab cb xb sc s be es da dp ua up hn2 hC hE hr hx
  refine CalM.of fun w E hm => enter (N := 61) Tryz.func31 rfl [(0, ptr bc), (1, .map (some be)), (2, .slice ab l.length cb)] args3 rfl ?_
  repeat' (first
  | refine op_move (k:=?_)
  | refine op_len_slice (k:=?_)
  | refine wl_nil ?_
  | refine at_then_normal ?_
  | refine wc_seq ?_
  | refine wc_region ?_
  | refine wc_block ?_)
  refine wc_loop (fun x : RY => [(0, ptr bc), (1, .map (some x.be)), (8, .slice ab l.length cb), (9, nt l.length), (10, nt x.k)])
    (fun x w' => Mem E x.I (WSt bc a its.length cp i (Sp.stmsN its p (l.take x.k) sc s).2 x.da x.dp x.ua x.up) w' ∧ EnvI x.I p (Sp.stmsN its p (l.take x.k) sc s).1 x.be x.es ∧ Le I x.I ∧ x.k ≤ l.length) (fun x => l.length - x.k) ⟨0, I, be, es, da, dp, ua, up⟩
    (by exact ⟨rfl, rfl, rfl, rfl, rfl, trivial⟩) ⟨by dsimp only; rw [List.take_zero, Sp.stmsN]; exact hm, by dsimp only; rw [List.take_zero, Sp.stmsN]; exact hE, Le.refl _, Nat.zero_le _⟩ ?_
  clear hm hE
  rintro ⟨k, I1, be1, es1, da1, dp1, ua1, up1⟩ w1 ⟨hm, hE1, hle1, hk⟩
  dsimp only at hm hE1 hle1 hk ⊢
  have hC1 := hC.le hle1
  have hrow := hr.le hle1
  have hlen := hC.len
  by_cases hlt : k < l.length
  · have hg : l[k]? = some l[k] := List.getElem?_eq_getElem hlt
    have hmem := List.getElem_mem hlt
    obtain ⟨cs, hcs⟩ : ∃ cs, (xb.drop (k * 15)).take 15 = cs := ⟨_, rfl⟩
    have hat := hx.get hg
    rw [hcs] at hat
    have hSk := hS _ hmem
    have hsmy := Sp.stmsSmall_get hsml hg
    have haly := Sp.stmsAll_get hall hg
    generalize l[k] = y at hg hmem hat hSk hsmy haly
    have hst := Sp.stmsN_step its p hg sc s
    have hcy := Sp.stmsCnt_take hg
    have hnn := Sp.stmsN_n its p (l.take k) sc s
    have htl : (l.take k).length = k := by rw [List.length_take]; omega
    have hkc := Sp.len_cnt (l.take k)
    generalize Sp.stmsN its p (l.take k) sc s = r at hm hE1 hst hnn
    obtain ⟨s1, s2, s3, s4, s5⟩ := Sp.small_parts hsmy
    obtain ⟨a1, a2, a3, a4⟩ := Sp.Stm.all_node haly
    have hcnt := Sp.cnt_stm y
    obtain ⟨ea, ec, ex, a1', c1, xs1, a2', c2, xs2, rfl, hr3, hx3, hr4, hx4, hr5, hx5⟩ := hat.out
    have hEx := r_expr (bc := bc) _ y.e (Nat.le_refl _) s1 a2 I1 ea ec ex r.2 da1 dp1 ua1 up1 (by omega) hC1 hE1 (hr3.le hle1) (ExsAt.le hle1 _ _ hx3)
    rw [Sp.stmN_eq] at hst
    have hnx := Sp.exN_n its p r.1 y.e r.2
    generalize Sp.exN its p r.1 y.e r.2 = r2 at hEx hnx hst
    rw [Sp.coreN] at hst
    by_cases k1 : y.kind = 1
    · rw [if_pos k1] at hst
      have hb := (hC.st.sub _ _ (a1 (.inl k1))).1
      have hc := fun (J : Imm) (m : Le I1 J) (da : Option Addr) (dp : Nat) (ua : Option Addr) (up : Nat) => r_with (I := J) (bc := bc) (s := r2) (da := da) (dp := dp) (ua := ua) (up := up) (hC1.le m) (hE1.le m) y.name y.at_ (a1 (.inl k1)) (by omega)
      generalize Sp.mkN y.name y.at_ r.1 r2 = z at hc hst
      repeat' (first
      | (refine i_indexAddr (d:=12) (hr:=hrow) (k:=?_); intro bt ot hpt; rw [show ((k : Int).toNat * 15) = k * 15 from rfl, hcs] at hpt)
      | (refine i_loadN (d:=13) hm (hp:=hpt) (k:=?_))
      | (refine m_loadN (n := 6) (d := 17) (vs := exCells y.e ea ec) hm (by rfl) (by rfl) (by rfl) (by first | exact gt0 | exact gt1 | exact gt2 | exact gt3 | exact gt4 | exact gt5 | exact gt6) (by rfl) (by rfl) ?_)
      | (refine m_call (d:=18) hm (hp:=pm3_1) (hc:=hEx) (k:=?_); clear hm; rintro _ I2 _ _ ⟨rfl, da2, dp2, ua2, up2, rfl⟩ hleI2 hm; try simp only [setn] at hm)
      | (refine m_call (d:=29) hm (hp:=pm3_0) (hc:=hc I2 hleI2 da2 dp2 ua2 up2) (k:=?_); clear hm; rintro _ I3 _ _ ⟨be3, es3, rfl, hE3, da3, dp3, ua3, up3, rfl⟩ hleI3 hm; try simp only [setn] at hm)
      | (refine m_varS (d:=7) hm (k:=?_); clear hm; intro b7 _ hm)
      | refine m_load1 hm (k:=?_)
      | refine op_move (k:=?_)
      | refine op_assign (k:=?_)
      | refine op_lss (k:=?_)
      | refine op_eql (k:=?_)
      | refine op_add (k:=?_)
      | refine op_fieldAddr (k:=?_)
      | refine wl_nil ?_
      | refine at_then_normal ?_
      | refine at_block_normal ?_
      | refine wc_seq ?_
      | refine wc_region ?_
      | refine wc_block ?_
      | refine wc_skip ?_
      | (refine wc_cond_dec (ht:=fun _ => ?_) (hf:=fun _ => ?_)<;> (try first | contradiction | (exfalso; omega))))
      all_goals try (exfalso; omega)
      exact at_round (⟨k + 1, I3, be3, es3, da3, dp3, ua3, up3⟩ : RY) (by exact ⟨rfl, rfl, rfl, rfl, rfl, trivial⟩) ⟨by dsimp only; rw [hst]; exact hm.left, by dsimp only; rw [hst]; exact hE3, (hle1.trans hleI2).trans hleI3, by dsimp only; omega⟩ (by dsimp only; omega)
    rw [if_neg k1] at hst
    by_cases k2 : y.kind = 2
    · rw [if_pos k2] at hst
      have hc := fun (J : Imm) (m : Le I1 J) (da : Option Addr) (dp : Nat) (ua : Option Addr) (up : Nat) => r_local (I := J) (bc := bc) (s := r2) (da := da) (dp := dp) (ua := ua) (up := up) (hC1.le m) (hE1.le m) y.at_ y.name (a1 (.inr (.inl k2))) (by omega)
      generalize Sp.locN p r.1 y.at_ y.name r2 = z at hc hst
      repeat' (first
      | (refine i_indexAddr (d:=12) (hr:=hrow) (k:=?_); intro bt ot hpt; rw [show ((k : Int).toNat * 15) = k * 15 from rfl, hcs] at hpt)
      | (refine i_loadN (d:=13) hm (hp:=hpt) (k:=?_))
      | (refine m_loadN (n := 6) (d := 17) (vs := exCells y.e ea ec) hm (by rfl) (by rfl) (by rfl) (by first | exact gt0 | exact gt1 | exact gt2 | exact gt3 | exact gt4 | exact gt5 | exact gt6) (by rfl) (by rfl) ?_)
      | (refine m_call (d:=18) hm (hp:=pm3_1) (hc:=hEx) (k:=?_); clear hm; rintro _ I2 _ _ ⟨rfl, da2, dp2, ua2, up2, rfl⟩ hleI2 hm; try simp only [setn] at hm)
      | (refine m_call (d:=38) hm (hp:=pm3_0) (hc:=hc I2 hleI2 da2 dp2 ua2 up2) (k:=?_); clear hm; rintro _ I3 _ _ ⟨rfl, da3, dp3, ua3, up3, rfl⟩ hleI3 hm; try simp only [setn] at hm)
      | (refine m_varS (d:=7) hm (k:=?_); clear hm; intro b7 _ hm)
      | refine m_load1 hm (k:=?_)
      | refine op_move (k:=?_)
      | refine op_assign (k:=?_)
      | refine op_lss (k:=?_)
      | refine op_eql (k:=?_)
      | refine op_add (k:=?_)
      | refine op_fieldAddr (k:=?_)
      | refine wl_nil ?_
      | refine at_then_normal ?_
      | refine at_block_normal ?_
      | refine wc_seq ?_
      | refine wc_region ?_
      | refine wc_block ?_
      | refine wc_skip ?_
      | (refine wc_cond_dec (ht:=fun _ => ?_) (hf:=fun _ => ?_)<;> (try first | contradiction | (exfalso; omega))))
      all_goals try (exfalso; omega)
      exact at_round (⟨k + 1, I3, be1, es1, da3, dp3, ua3, up3⟩ : RY) (by exact ⟨rfl, rfl, rfl, rfl, rfl, trivial⟩) ⟨by dsimp only; rw [hst]; exact hm.left, by dsimp only; rw [hst]; exact (hE1.le hleI2).le hleI3, (hle1.trans hleI2).trans hleI3, by dsimp only; omega⟩ (by dsimp only; omega)
    rw [if_neg k2] at hst
    by_cases k5 : y.kind = 5
    · rw [if_pos k5] at hst
      have hc := fun (J : Imm) (m : Le I1 J) (da : Option Addr) (dp : Nat) (ua : Option Addr) (up : Nat) => r_glob (I := J) (bc := bc) (s := r2) (da := da) (dp := dp) (ua := ua) (up := up) (hC1.le m) 1 y.at_ y.name (a1 (.inr (.inr k5))) (by omega)
      generalize Sp.itmN its p 1 y.at_ y.name r2 = z at hc hst
      generalize Sp.findV its 1 y.name = zz at hc
      repeat' (first
      | (refine i_indexAddr (d:=12) (hr:=hrow) (k:=?_); intro bt ot hpt; rw [show ((k : Int).toNat * 15) = k * 15 from rfl, hcs] at hpt)
      | (refine i_loadN (d:=13) hm (hp:=hpt) (k:=?_))
      | (refine m_loadN (n := 6) (d := 17) (vs := exCells y.e ea ec) hm (by rfl) (by rfl) (by rfl) (by first | exact gt0 | exact gt1 | exact gt2 | exact gt3 | exact gt4 | exact gt5 | exact gt6) (by rfl) (by rfl) ?_)
      | (refine m_call (d:=18) hm (hp:=pm3_1) (hc:=hEx) (k:=?_); clear hm; rintro _ I2 _ _ ⟨rfl, da2, dp2, ua2, up2, rfl⟩ hleI2 hm; try simp only [setn] at hm)
      | (refine m_call (d:=46) hm (hp:=pm3_0) (hc:=hc I2 hleI2 da2 dp2 ua2 up2) (k:=?_); clear hm; rintro _ I3 _ _ ⟨rfl, da3, dp3, ua3, up3, rfl⟩ hleI3 hm; try simp only [setn] at hm)
      | (refine m_varS (d:=7) hm (k:=?_); clear hm; intro b7 _ hm)
      | refine m_load1 hm (k:=?_)
      | refine op_move (k:=?_)
      | refine op_assign (k:=?_)
      | refine op_lss (k:=?_)
      | refine op_eql (k:=?_)
      | refine op_add (k:=?_)
      | refine op_fieldAddr (k:=?_)
      | refine wl_nil ?_
      | refine at_then_normal ?_
      | refine at_block_normal ?_
      | refine wc_seq ?_
      | refine wc_region ?_
      | refine wc_block ?_
      | refine wc_skip ?_
      | (refine wc_cond_dec (ht:=fun _ => ?_) (hf:=fun _ => ?_)<;> (try first | contradiction | (exfalso; omega))))
      all_goals try (exfalso; omega)
      exact at_round (⟨k + 1, I3, be1, es1, da3, dp3, ua3, up3⟩ : RY) (by exact ⟨rfl, rfl, rfl, rfl, rfl, trivial⟩) ⟨by dsimp only; rw [hst]; exact hm.left, by dsimp only; rw [hst]; exact (hE1.le hleI2).le hleI3, (hle1.trans hleI2).trans hleI3, by dsimp only; omega⟩ (by dsimp only; omega)
    rw [if_neg k5] at hst
    by_cases k34 : y.kind = 3 ∨ y.kind = 4
    · rw [if_pos k34] at hst
      have hb1 := fun (J : Imm) (m : Le I1 J) (da : Option Addr) (dp : Nat) (ua : Option Addr) (up : Nat) => hSk.1 J a1' c1 xs1 r.1 r2 be1 es1 da dp ua up (by omega) (hC1.le m) (hE1.le m) ((hr4.le hle1).le m) (StsAt.le m _ _ (StsAt.le hle1 _ _ hx4))
      have hnn3 := Sp.stmsN_n its p y.thn r.1 r2
      generalize Sp.stmsN its p y.thn r.1 r2 = r7 at hb1 hnn3 hst
      have hb2 := fun (J : Imm) (m : Le I1 J) (da : Option Addr) (dp : Nat) (ua : Option Addr) (up : Nat) => hSk.2 J a2' c2 xs2 r.1 r7.2 be1 es1 da dp ua up (by omega) (hC1.le m) (hE1.le m) ((hr5.le hle1).le m) (StsAt.le m _ _ (StsAt.le hle1 _ _ hx5))
      generalize Sp.stmsN its p y.els r.1 r7.2 = r8 at hb2 hst
      repeat' (first
      | (refine i_indexAddr (d:=12) (hr:=hrow) (k:=?_); intro bt ot hpt; rw [show ((k : Int).toNat * 15) = k * 15 from rfl, hcs] at hpt)
      | (refine i_loadN (d:=13) hm (hp:=hpt) (k:=?_))
      | (refine m_loadN (n := 6) (d := 17) (vs := exCells y.e ea ec) hm (by rfl) (by rfl) (by rfl) (by first | exact gt0 | exact gt1 | exact gt2 | exact gt3 | exact gt4 | exact gt5 | exact gt6) (by rfl) (by rfl) ?_)
      | (refine m_call (d:=18) hm (hp:=pm3_1) (hc:=hEx) (k:=?_); clear hm; rintro _ I2 _ _ ⟨rfl, da2, dp2, ua2, up2, rfl⟩ hleI2 hm; try simp only [setn] at hm)
      | (refine m_call (d:=54) hm (hp:=pm3_0) (hc:=hb1 I2 hleI2 da2 dp2 ua2 up2) (k:=?_); clear hm; rintro _ I3 _ _ ⟨rfl, da3, dp3, ua3, up3, rfl⟩ hleI3 hm; try simp only [setn] at hm)
      | (refine m_call (d:=59) hm (hp:=pm3_0) (hc:=hb2 I3 (hleI2.trans hleI3) da3 dp3 ua3 up3) (k:=?_); clear hm; rintro _ I4 _ _ ⟨rfl, da4, dp4, ua4, up4, rfl⟩ hleI4 hm; try simp only [setn] at hm)
      | (refine m_varS (d:=7) hm (k:=?_); clear hm; intro b7 _ hm)
      | refine m_load1 hm (k:=?_)
      | refine op_move (k:=?_)
      | refine op_assign (k:=?_)
      | refine op_lss (k:=?_)
      | refine op_eql (k:=?_)
      | refine op_add (k:=?_)
      | refine op_fieldAddr (k:=?_)
      | refine wl_nil ?_
      | refine at_then_normal ?_
      | refine at_block_normal ?_
      | refine wc_seq ?_
      | refine wc_region ?_
      | refine wc_block ?_
      | refine wc_skip ?_
      | (refine wc_cond_dec (ht:=fun _ => ?_) (hf:=fun _ => ?_)<;> (try first | contradiction | (exfalso; omega))))
      all_goals try (exfalso; omega)
      all_goals exact at_round (⟨k + 1, I4, be1, es1, da4, dp4, ua4, up4⟩ : RY) (by exact ⟨rfl, rfl, rfl, rfl, rfl, trivial⟩) ⟨by dsimp only; rw [hst]; exact hm.left, by dsimp only; rw [hst]; exact ((hE1.le hleI2).le hleI3).le hleI4, ((hle1.trans hleI2).trans hleI3).trans hleI4, by dsimp only; omega⟩ (by dsimp only; omega)
    · rw [if_neg k34] at hst
      repeat' (first
      | (refine i_indexAddr (d:=12) (hr:=hrow) (k:=?_); intro bt ot hpt; rw [show ((k : Int).toNat * 15) = k * 15 from rfl, hcs] at hpt)
      | (refine i_loadN (d:=13) hm (hp:=hpt) (k:=?_))
      | (refine m_loadN (n := 6) (d := 17) (vs := exCells y.e ea ec) hm (by rfl) (by rfl) (by rfl) (by first | exact gt0 | exact gt1 | exact gt2 | exact gt3 | exact gt4 | exact gt5 | exact gt6) (by rfl) (by rfl) ?_)
      | (refine m_call (d:=18) hm (hp:=pm3_1) (hc:=hEx) (k:=?_); clear hm; rintro _ I2 _ _ ⟨rfl, da2, dp2, ua2, up2, rfl⟩ hleI2 hm; try simp only [setn] at hm)
      | (refine m_varS (d:=7) hm (k:=?_); clear hm; intro b7 _ hm)
      | refine m_load1 hm (k:=?_)
      | refine op_move (k:=?_)
      | refine op_assign (k:=?_)
      | refine op_lss (k:=?_)
      | refine op_eql (k:=?_)
      | refine op_add (k:=?_)
      | refine op_fieldAddr (k:=?_)
      | refine wl_nil ?_
      | refine at_then_normal ?_
      | refine at_block_normal ?_
      | refine wc_seq ?_
      | refine wc_region ?_
      | refine wc_block ?_
      | refine wc_skip ?_
      | (refine wc_cond_dec (ht:=fun _ => ?_) (hf:=fun _ => ?_)<;> (try first | contradiction | (exfalso; omega))))
      all_goals try (exfalso; omega)
      exact at_round (⟨k + 1, I2, be1, es1, da2, dp2, ua2, up2⟩ : RY) (by exact ⟨rfl, rfl, rfl, rfl, rfl, trivial⟩) ⟨by dsimp only; rw [hst]; exact hm.left, by dsimp only; rw [hst]; exact hE1.le hleI2, hle1.trans hleI2, by dsimp only; omega⟩ (by dsimp only; omega)
  · obtain rfl : k = l.length := by omega
    rw [List.take_length] at hm
    repeat' (first
    | refine op_lss (k:=?_)
    | refine wl_nil ?_
    | refine at_then_normal ?_
    | refine at_then_exit ?_
    | refine at_block_exit ?_
    | refine wc_seq ?_
    | refine wc_region ?_
    | refine wc_exit ?_
    | refine at_end0 (h:=?_)
    | (refine wc_cond_dec (ht:=fun _ => ?_) (hf:=fun _ => ?_)<;> (try first | contradiction | (exfalso; omega))))
    all_goals try (exfalso; omega)
    exact ⟨I1, _, ⟨rfl, _, _, _, _, rfl⟩, hm⟩
theorem r_blk : ∀ (n : Nat) (l : List Sp.Stm), SizeOf.sizeOf l ≤ n → l.length ≤ 64 → Sp.stmsSmall l → Sp.stmsAll (Sp.stE q) (Sp.stS q) l → RBlkOk src p q its i it bc a cp xs l := by
  intro n
  induction n with
  | zero => intro l h; cases l <;> simp at h
  | succ n ih =>
  intro l hsz hll hsm hal
  refine r_block l hll hsm hal (fun y hy => ?_)
  obtain ⟨j, hj, rfl⟩ := List.getElem_of_mem hy
  have hg := List.getElem?_eq_getElem hj
  have h1 := Sp.stmsSmall_get hsm hg
  have h0 := Sp.stmsAll_get hal hg
  have h2 := Sp.Stm.all_node h0
  have h3 := Sp.sizeL_mem (List.getElem_mem hj)
  generalize l[j] = y at h0 h1 h2 h3
  obtain ⟨s1, s2, s3, s4, s5⟩ := Sp.small_parts h1
  obtain ⟨z1, z2⟩ := Sp.size_thn (s := y)
  exact ⟨ih y.thn (by omega) s2 s3 h2.2.2.1, ih y.els (by omega) s4 s5 h2.2.2.2⟩
end
end Go.Proofs.YtkbiakajlfmakaaGreatDoor
end
section
namespace Go.Proofs.YtkbiakajlfmakaaGreatDoor
open Go.Fw
section
variable {src : List UInt8} {p : Nat} {q : List UInt8} {its : List Sp.Itm} {it : Sp.Itm} {bc bf : Nat} {a : Option Addr} {cp : Nat} {xs : List Value} {pi : Value}
end
end Go.Proofs.YtkbiakajlfmakaaGreatDoor
end
section
namespace Go.Sp
/-- what is asked of an item. -/
structure ItN (src : List UInt8) (it : Itm) : Prop where
  small : it.small
  cnt : stmsCnt it.body ≤ 400000000
  st : ItS0 src it
def same (it x : Itm) : Bool := decide (x.kind = it.kind) && decide (x.name = it.name)
theorem any_take_none {its : List Itm} {i : Nat} {F : Itm → Bool} (hi : i ≤ its.length) (h : ∀ j x, j < i → its[j]? = some x → F x = false) : (its.take i).any F = false := by
  rw [List.any_eq_false]
  intro x hx
  obtain ⟨j, hj, rfl⟩ := List.getElem_of_mem hx
  rw [List.length_take] at hj
  rw [List.getElem_take, h j _ (by omega) (List.getElem?_eq_getElem (by omega))]
  simp
theorem any_take_some {its : List Itm} {i k : Nat} {F : Itm → Bool} {x : Itm} (hk : k < i) (hg : its[k]? = some x) (h : F x = true) : (its.take i).any F = true := by
  rw [List.any_eq_true]
  refine ⟨x, ?_, h⟩
  refine List.mem_of_getElem? (i := k) ?_
  rw [List.getElem?_take, if_pos hk, hg]
end Go.Sp
namespace Go.Proofs.YtkbiakajlfmakaaGreatDoor
open Go.Fw
section
variable {src : List UInt8} {its : List Sp.Itm} {a : Option Addr} {cp : Nat} {xs : List Value}
end
end Go.Proofs.YtkbiakajlfmakaaGreatDoor
end
section
namespace Go.Fw
open Go
section
variable {P : Program} {N : Nat} {ds : List Deferred} {Q : Exit → Act → World → Prop} {l : Log} {w : World} {ops : Array Oper} {os : List Oper}
variable {d : Nat} {ty : TypeId} {pos : String} {af : Array Edge} {g : Option (Nat × Bool)} {t : TypeId} {x y : Operand} {E : Ent} {I : Imm} {H : List HItem}
end
end Go.Fw
end
section
namespace Go.Sp
end Go.Sp
namespace Go.Proofs.YtkbiakajlfmakaaGreatDoor
open Go.Fw
section
variable {src : List UInt8} {its : List Sp.Itm} {a : Option Addr} {cp : Nat} {xs : List Value}
end
end Go.Proofs.YtkbiakajlfmakaaGreatDoor
end
