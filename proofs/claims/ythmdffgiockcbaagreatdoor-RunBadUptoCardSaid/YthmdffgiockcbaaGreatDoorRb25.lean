/- Own work: texts NsB, FwNil, NsC, one behind the other. -/
import Derived.Test.YthmdffgiockcbaaGreatDoorRb24
section
namespace Go.Sp
theorem locN_some {b : Int} {sc : List Lc} {a : Nat} {n : List UInt8} {s : NW} {l : Lc} (h : findLc sc n = some l) : locN b sc a n s = s.use b a n (b + l.at_) := by rw [locN, h]
theorem locN_none {b : Int} {sc : List Lc} {a : Nat} {n : List UInt8} {s : NW} (h : findLc sc n = none) : locN b sc a n s = if n = [] then s else s.tell a 6 n := by rw [locN, h]
theorem itmN_some {its : List Itm} {b k : Int} {a : Nat} {n : List UInt8} {s : NW} {j : Nat} (h : findIt its k n = some j) : itmN its b k a n s = s.use b a n ((itNo its j).at_ + (itNo its j).mark) := by rw [itmN, h]
theorem itmN_none {its : List Itm} {b k : Int} {a : Nat} {n : List UInt8} {s : NW} (h : findIt its k n = none) : itmN its b k a n s = if n = [] then s else s.tell a 6 n := by rw [itmN, h]
theorem mkN_some {n : List UInt8} {a : Nat} {sc : List Lc} {s : NW} {l : Lc} (hn : n ≠ []) (h : findLc sc n = some l) : mkN n a sc s = (sc ++ [⟨n, a⟩], s.tell a 7 n) := by rw [mkN, if_neg hn, h]
theorem mkN_none {n : List UInt8} {a : Nat} {sc : List Lc} {s : NW} (hn : n ≠ []) (h : findLc sc n = none) : mkN n a sc s = (sc ++ [⟨n, a⟩], s) := by rw [mkN, if_neg hn, h]
end Go.Sp
namespace Go.Proofs.YthmdffgiockcbaaGreatDoor
open Go.Fw
theorem NSt_snoc (bc bf : Nat) (pi : Value) (sc : List Sp.Lc) (sa : Option Addr) (sp : Nat) (s : Sp.NW) (n : List UInt8) (x : Nat) (da : Option Addr) (dp : Nat) (ua : Option Addr) (up : Nat) :
    [.obj bc (.cells [ptr bf, pi, .slice sa (sc.length + 1) sp, .slice da s.ds.length dp, .slice ua s.us.length up].toArray 119 (0, 0)), usRow s.us ua up, .row (.slice sa (sc.length + 1) sp) 211 2 (sc.length + 1) (sc.flatMap encLn ++ encLn ⟨n, x⟩), dgRow s.ds da dp] = NSt bc bf pi (sc ++ [⟨n, x⟩]) sa sp s da dp ua up := by
  simp [List.flatMap_append]
section
variable {I : Imm} {bc bf sp dp up : Nat} {pi : Value} {sc : List Sp.Lc} {sa da ua : Option Addr} {s : Sp.NW}
set_option maxHeartbeats 8000000 in
theorem n_make (n : List UInt8) (a : Nat) (ha : a + n.length ≤ 1099511627776) (hs : sc.length ≤ 1000000000) (hd : s.n ≤ 1000000000) :
    CalM Tryz.prog 107 #[ptr bc, str n, nt a] I (NSt bc bf pi sc sa sp s da dp ua up) (ToN bc bf pi (Sp.mkN n a sc s).1 (Sp.mkN n a sc s).2 (.tuple #[])) := by
  refine CalM.of fun w E hm => enter (N := 33) Tryz.func107 rfl [(0, ptr bc), (1, str n), (2, nt a)] args3 rfl ?_
  by_cases hn : n = []
  · subst hn
    repeat' (first|refine op_move (k:=?_)|refine op_eql_str (k:=?_)|refine wl_nil ?_|refine at_then_normal ?_|refine at_then_ret ?_|refine wc_seq ?_|refine wc_region ?_|refine wc_ret ?_|refine at_ret0 (h:=?_)|refine wc_cond_true (ht:=?_))
    all_goals try (exfalso; first | omega | contradiction)
    exact ⟨I, _, ⟨rfl, _, _, _, _, _, _, rfl⟩, hm⟩
  have hg := CalR.walker (I := I) (bc := bc) (bf := bf) (pi := pi) (sc := sc) (sa := sa) (sp := sp) (s := s) (da := da) (dp := dp) (ua := ua) (up := up) (fun J m h => (n_lfind n (by omega) h).read)
  cases hf : Sp.findLc sc n with
  | some l =>
    rw [hf] at hg
    dsimp only [lcV] at hg
    rw [Sp.mkN_some hn hf]
    have hT := fun (J : Imm) => n_tell (I := J) (bc := bc) (bf := bf) (pi := pi) (sc := sc) (sa := sa) (sp := sp) (s := s) (da := da) (dp := dp) (ua := ua) (up := up) n a 7 ha hd
    repeat' (first|(refine m_readC (d:=13) hm (hs:=sub4_0) (hc:=by exact hg) (k:=?_); clear hm; intro _ hm)|(refine m_call (d:=20) hm (hp:=pm4_1) (hc:=hT I) (k:=?_); clear hm; rintro _ I2 _ _ ⟨rfl, sa2, sp2, da2, dp2, ua2, up2, rfl⟩ hleI2 hm; try simp only [setn] at hm)|(refine m_varS (d:=6) hm (k:=?_); clear hm; intro b6 _ hm)|(refine m_push (d:=30) hm (k:=?_); clear hm; intro a30 cp30 _ _ hm; try simp only [setn] at hm)|refine m_load1 hm (k:=?_)|(refine m_store1 hm (k:=?_); clear hm; intro _ hm; try simp only [setn] at hm)|refine op_move (k:=?_)|refine op_assign (k:=?_)|refine op_eql_str (k:=?_)|refine op_extract (k:=?_)|refine op_nilCheck (k:=?_)|refine op_fieldAddr (k:=?_)|refine op_struct (k:=?_)|refine wl_nil ?_|refine at_then_normal ?_|refine wc_seq ?_|refine wc_region ?_|refine wc_skip ?_|refine at_end0 (h:=?_)|refine wc_cond_true (ht:=?_)|(refine wc_cond_dec (ht:=fun _ => ?_) (hf:=fun _ => ?_)<;> (try first | contradiction | (exfalso; omega))))
    all_goals try (exfalso; first | omega | contradiction)
    exact ⟨I2, _, ⟨rfl, _, _, _, _, _, _, NSt_snoc _ _ _ _ _ _ (s.tell a 7 n) n a _ _ _ _⟩, hm.left⟩
  | none =>
    rw [hf] at hg
    dsimp only [lcV] at hg
    rw [Sp.mkN_none hn hf]
    repeat' (first|(refine m_readC (d:=13) hm (hs:=sub4_0) (hc:=by exact hg) (k:=?_); clear hm; intro _ hm)|(refine m_varS (d:=6) hm (k:=?_); clear hm; intro b6 _ hm)|(refine m_push (d:=30) hm (k:=?_); clear hm; intro a30 cp30 _ _ hm; try simp only [setn] at hm)|refine m_load1 hm (k:=?_)|(refine m_store1 hm (k:=?_); clear hm; intro _ hm; try simp only [setn] at hm)|refine op_move (k:=?_)|refine op_assign (k:=?_)|refine op_eql_str (k:=?_)|refine op_extract (k:=?_)|refine op_nilCheck (k:=?_)|refine op_fieldAddr (k:=?_)|refine op_struct (k:=?_)|refine wl_nil ?_|refine at_then_normal ?_|refine wc_seq ?_|refine wc_region ?_|refine wc_skip ?_|refine at_end0 (h:=?_)|refine wc_cond_false (hf:=?_)|(refine wc_cond_dec (ht:=fun _ => ?_) (hf:=fun _ => ?_)<;> (try first | contradiction | (exfalso; omega))))
    all_goals try (exfalso; first | omega | contradiction)
    exact ⟨I, _, ⟨rfl, _, _, _, _, _, _, NSt_snoc _ _ _ _ _ _ s n a _ _ _ _⟩, hm.tl⟩
variable {src : List UInt8} {p : Nat} {q : List UInt8} {its : List Sp.Itm} {it : Sp.Itm} {a : Option Addr} {cp : Nat} {xs : List Value}
set_option maxHeartbeats 8000000 in
theorem n_local (hC : NC I src p q its it bf a cp xs pi) (f : Nat) (n : List UInt8) (hst : Sp.stands q f n) (hsc : Sp.scOk q sc) (hs : sc.length ≤ 1000000000) (hd : s.n ≤ 1000000000) :
    CalM Tryz.prog 167 #[ptr bc, nt f, str n] I (NSt bc bf pi sc sa sp s da dp ua up) (ToN bc bf pi sc (Sp.locN p sc f n s) (.tuple #[])) := by
  have hb := (hC.st.sub _ _ hst).1
  have hlen := hC.len
  have hat := hC.st.at_
  refine CalM.of fun w E hm => enter (N := 35) Tryz.func167 rfl [(0, ptr bc), (1, nt f), (2, str n)] args3 rfl ?_
  have hg := CalR.walker (I := I) (bc := bc) (bf := bf) (pi := pi) (sc := sc) (sa := sa) (sp := sp) (s := s) (da := da) (dp := dp) (ua := ua) (up := up) (fun J m h => (n_lfind n (by omega) h).read)
  cases hf : Sp.findLc sc n with
  | some l =>
    rw [hf] at hg
    dsimp only [lcV] at hg
    rw [Sp.locN_some hf]
    have hl := (hC.st.sub _ _ (hsc _ (Sp.findLc_mem hf).1).2).1
    have hU := fun (J : Imm) (m : Le I J) => n_use (I := J) (bc := bc) (sc := sc) (sa := sa) (sp := sp) (s := s) (da := da) (dp := dp) (ua := ua) (up := up) (hC.le m) f n ((p : Int) + l.at_) hst hd
    obtain ⟨bi, oi, tci, ci, rfl, hpi, hati⟩ := hC.item
    obtain ⟨pa, pc, sa9, sc9, ba, bc9, da9, dc9, xb, rfl, _⟩ := hati
    rw [hat] at hpi
    repeat' (first|(refine m_readC (d:=11) hm (hs:=sub4_0) (hc:=by exact hg) (k:=?_); clear hm; intro _ hm)|(refine wc_quiet_tail (id:=2) 13 (h:=?_))|(refine m_call (d:=28) hm (hp:=pm4_1) (hc:=hU I (Le.refl _)) (k:=?_); clear hm; rintro _ I2 _ _ ⟨rfl, sa2, sp2, da2, dp2, ua2, up2, rfl⟩ hleI2 hm; try simp only [setn] at hm)|(refine m_varS (d:=6) hm (k:=?_); clear hm; intro b6 _ hm)|refine mq_load1 hm (k:=?_)|refine iq_load1 hm (k:=?_)|refine op_move (k:=?_)|refine op_assign (k:=?_)|refine op_extract (k:=?_)|refine wl_nil ?_|refine at_then_normal ?_|refine wc_seq ?_|refine wc_region ?_|refine at_end0 (h:=?_)|(refine wq_nil_tail ?_; intro _ hkq; replace hm := hm.kept0 hkq; clear hkq)|refine wc_cond_true (ht:=?_)|refine q_move (k:=?_)|refine q_nilCheck (k:=?_)|refine q_add (k:=?_)|refine q_fieldAddr (k:=?_))
    all_goals try (exfalso; first | omega | contradiction)
    exact ⟨I2, _, ⟨rfl, _, _, _, _, _, _, rfl⟩, hm.left⟩
  | none =>
    rw [hf] at hg
    dsimp only [lcV] at hg
    rw [Sp.locN_none hf]
    by_cases hn : n = []
    · rw [if_pos hn]
      subst hn
      repeat' (first|(refine m_readC (d:=11) hm (hs:=sub4_0) (hc:=by exact hg) (k:=?_); clear hm; intro _ hm)|(refine m_varS (d:=6) hm (k:=?_); clear hm; intro b6 _ hm)|refine op_move (k:=?_)|refine op_assign (k:=?_)|refine op_neq_str (k:=?_)|refine op_extract (k:=?_)|refine wl_nil ?_|refine at_then_normal ?_|refine wc_seq ?_|refine wc_region ?_|refine wc_skip ?_|refine at_end0 (h:=?_)|refine wc_cond_false (hf:=?_))
      all_goals try (exfalso; first | omega | contradiction)
      exact ⟨I, _, ⟨rfl, _, _, _, _, _, _, rfl⟩, hm.tl⟩
    · rw [if_neg hn]
      have hT := fun (J : Imm) => n_tell (I := J) (bc := bc) (bf := bf) (pi := pi) (sc := sc) (sa := sa) (sp := sp) (s := s) (da := da) (dp := dp) (ua := ua) (up := up) n f 6 (by omega) hd
      repeat' (first|(refine m_readC (d:=11) hm (hs:=sub4_0) (hc:=by exact hg) (k:=?_); clear hm; intro _ hm)|(refine m_call (d:=34) hm (hp:=pm4_1) (hc:=hT I) (k:=?_); clear hm; rintro _ I2 _ _ ⟨rfl, sa2, sp2, da2, dp2, ua2, up2, rfl⟩ hleI2 hm; try simp only [setn] at hm)|(refine m_varS (d:=6) hm (k:=?_); clear hm; intro b6 _ hm)|refine op_move (k:=?_)|refine op_assign (k:=?_)|refine op_neq_str (k:=?_)|refine op_extract (k:=?_)|refine wl_nil ?_|refine at_then_normal ?_|refine wc_seq ?_|refine wc_region ?_|refine at_end0 (h:=?_)|refine wc_cond_false (hf:=?_)|(refine wc_cond_dec (ht:=fun _ => ?_) (hf:=fun _ => ?_)<;> (try first | contradiction | (exfalso; omega))))
      all_goals try (exfalso; first | omega | contradiction)
      exact ⟨I2, _, ⟨rfl, _, _, _, _, _, _, rfl⟩, hm.left⟩
set_option maxHeartbeats 8000000 in
theorem n_item0 (hC : NC I src p q its it bf a cp xs pi) (k : Int) (f : Nat) (n : List UInt8) (hst : Sp.stands q f n) (hd : s.n ≤ 1000000000) (hf : Sp.findIt its k n = none) :
    CalM Tryz.prog 108 #[ptr bc, .int .i64 k, nt f, str n] I (NSt bc bf pi sc sa sp s da dp ua up) (ToN bc bf pi sc (Sp.itmN its p k f n s) (.pointer none)) := by
  have hb := (hC.st.sub _ _ hst).1
  have hlen := hC.len
  refine CalM.of fun w E hm => enter (N := 51) Tryz.func108 rfl [(0, ptr bc), (1, .int .i64 k), (2, nt f), (3, str n)] args4 rfl ?_
  have hCf := hC.file
  have hfind := (n_find k n its I a cp xs hC.fe).read
  rw [Sp.findV, hf] at hfind
  dsimp only at hfind
  rw [Sp.itmN_none hf]
  by_cases hn : n = []
  · rw [if_pos hn]
    subst hn
    repeat' (first|(refine m_readC (d:=19) hm (hc:=hfind) (k:=?_); clear hm; intro _ hm)|refine m_load1 hm (k:=?_)|refine i_loadN hm (k:=?_)|refine op_move (k:=?_)|refine op_assign (k:=?_)|refine op_lss (k:=?_)|refine op_neq_str (k:=?_)|refine op_nilCheck (k:=?_)|refine op_fieldAddr (k:=?_)|refine wl_nil ?_|refine at_then_normal ?_|refine at_then_ret ?_|refine wc_seq ?_|refine wc_region ?_|refine wc_skip ?_|refine wc_ret ?_|refine at_ret1 (h:=?_)|refine wc_cond_true (ht:=?_)|refine wc_cond_false (hf:=?_))
    all_goals try (exfalso; first | omega | contradiction)
    exact ⟨I, _, ⟨rfl, _, _, _, _, _, _, rfl⟩, hm⟩
  · rw [if_neg hn]
    have hT := fun (J : Imm) => n_tell (I := J) (bc := bc) (bf := bf) (pi := pi) (sc := sc) (sa := sa) (sp := sp) (s := s) (da := da) (dp := dp) (ua := ua) (up := up) n f 6 (by omega) hd
    repeat' (first|(refine m_readC (d:=19) hm (hc:=hfind) (k:=?_); clear hm; intro _ hm)|(refine m_call (d:=27) hm (hp:=pm4_0) (hc:=hT I) (k:=?_); clear hm; rintro _ I2 _ _ ⟨rfl, sa2, sp2, da2, dp2, ua2, up2, rfl⟩ hleI2 hm; try simp only [setn] at hm)|refine m_load1 hm (k:=?_)|refine i_loadN hm (k:=?_)|refine op_move (k:=?_)|refine op_assign (k:=?_)|refine op_lss (k:=?_)|refine op_neq_str (k:=?_)|refine op_nilCheck (k:=?_)|refine op_fieldAddr (k:=?_)|refine wl_nil ?_|refine at_then_normal ?_|refine at_then_ret ?_|refine wc_seq ?_|refine wc_region ?_|refine wc_ret ?_|refine at_ret1 (h:=?_)|refine wc_cond_true (ht:=?_)|(refine wc_cond_dec (ht:=fun _ => ?_) (hf:=fun _ => ?_)<;> (try first | contradiction | (exfalso; omega))))
    all_goals try (exfalso; first | omega | contradiction)
    exact ⟨I2, _, ⟨rfl, _, _, _, _, _, _, rfl⟩, hm⟩
set_option maxHeartbeats 8000000 in
theorem n_item1 (hC : NC I src p q its it bf a cp xs pi) (k : Int) (f : Nat) (n : List UInt8) (hst : Sp.stands q f n) (hd : s.n ≤ 1000000000) {j : Nat} (hf : Sp.findIt its k n = some j) :
    CalM Tryz.prog 108 #[ptr bc, .int .i64 k, nt f, str n] I (NSt bc bf pi sc sa sp s da dp ua up)
      (fun v I' H' => (∃ bj oj cj, v = .pointer (some ⟨bj, oj, none⟩) ∧ PtrI I' bj oj 47 cj ∧ ItAt I' (Sp.itNo its j) cj) ∧ ∃ sa sp da dp ua up, H' = NSt bc bf pi sc sa sp (Sp.itmN its p k f n s) da dp ua up) := by
  refine CalM.of fun w E hm => enter (N := 51) Tryz.func108 rfl [(0, ptr bc), (1, .int .i64 k), (2, nt f), (3, str n)] args4 rfl ?_
  have hCf := hC.file
  have hlen := hC.len
  have hri := hC.fe.row
  have hfew := hC.fe.few
  have hfind := (n_find k n its I a cp xs hC.fe).read
  rw [Sp.findV, hf] at hfind
  dsimp only at hfind
  rw [Sp.itmN_some hf]
  obtain ⟨hj, _, _, _, hmemj⟩ := Sp.findIt_lt hf
  obtain ⟨_, dd, hdd, hds⟩ := Sp.findIt_ok hC.sts hf
  have hd0 := hds.1
  have hU := fun (J : Imm) (m : Le I J) => n_use (I := J) (bc := bc) (sc := sc) (sa := sa) (sp := sp) (s := s) (da := da) (dp := dp) (ua := ua) (up := up) (hC.le m) f n ((Sp.itNo its j).at_ + (Sp.itNo its j).mark) hst hd
  obtain ⟨ci, hci, hat, hlc⟩ := hC.fe.get (Sp.itNo_get hj)
  have hat0 := hat
  obtain ⟨pa, pc, sa9, sc9, ba, bc9, da9, dc9, xb, rfl, _⟩ := hat
  repeat' (first|(refine m_readC (d:=19) hm (hc:=hfind) (k:=?_); clear hm; intro _ hm)|(refine i_indexAddr (d:=36) (hr:=hri) (k:=?_); intro bu ou hpu; rw [show ((j : Int).toNat * 10) = j * 10 from rfl, hci] at hpu)|(refine wc_quiet_tail (id:=7) 12 (h:=?_))|(refine m_call (d:=49) hm (hp:=pm4_0) (hc:=hU I (Le.refl _)) (k:=?_); clear hm; rintro _ I2 _ _ ⟨rfl, sa2, sp2, da2, dp2, ua2, up2, rfl⟩ hleI2 hm; try simp only [setn] at hm)|refine m_load1 hm (k:=?_)|refine i_load1 hm (k:=?_)|refine i_loadN hm (k:=?_)|refine iq_load1 hm (k:=?_)|refine op_move (k:=?_)|refine op_assign (k:=?_)|refine op_lss (k:=?_)|refine op_nilCheck (k:=?_)|refine op_fieldAddr (k:=?_)|refine wl_nil ?_|refine at_then_normal ?_|refine wc_seq ?_|refine wc_region ?_|refine wc_skip ?_|refine wc_ret ?_|refine at_ret1 (h:=?_)|(refine wq_nil_tail ?_; intro _ hkq; replace hm := hm.kept0 hkq; clear hkq)|refine wc_cond_false (hf:=?_)|refine q_move (k:=?_)|refine q_nilCheck (k:=?_)|refine q_add (k:=?_)|refine q_fieldAddr (k:=?_))
  all_goals try (exfalso; first | omega | contradiction)
  exact ⟨I2, _, And.intro ⟨_, _, _, rfl, hpu.le hleI2, hat0.le hleI2⟩ ⟨_, _, _, _, _, _, rfl⟩, hm⟩
end
end Go.Proofs.YthmdffgiockcbaaGreatDoor
end
section
namespace Go.Fw
open Go
section
variable {P : Program} {N : Nat} {ds : List Deferred} {Q : Exit → Act → World → Prop} {K : Act → World → Prop} {l l' : Log} {w w' : World} {ops : Array Oper} {os : List Oper}
variable {d : Nat} {ty : TypeId} {pos : String} {af : Array Edge} {g : Option (Nat × Bool)} {t t' : TypeId} {x y z : Operand}
theorem q_neq_nilptr {e : TypeId} (hT : P.underlying t = some (.pointer e) := by kernel_rfl) {a : Option Addr} {k0 : Value} (hw : want ops l ⟨some d, .binOp .neq t x (.const k0) t', ty, pos, af, g⟩ = some true := by rfl) (hN : Nat.blt d N = true := by rfl)
    (hx : ev l x = some (.pointer a) := by rfl) (hk : k0 = .pointer none := by rfl) (k : WQ P N ds ops w K os ((d, .bool a.isSome) :: l)) : WQ P N ds ops w K (⟨some d, .binOp .neq t x (.const k0) t', ty, pos, af, g⟩ :: os) l :=
  wq_value rfl hw hN (fun w' hkq c hc => by
    subst hk
    have h1 := run_underlying (P := P) (w := w') hT
    have e2 : c.eval (.const (.pointer none)) = .pointer none := rfl
    have h2 : (Op.equal t (.pointer a) (.pointer none)).run P w' = .ok a.isNone w' := by
      show (Op.equalIn (9999 + 1) t (.pointer a) (.pointer none)).run P w' = _
      rw [Op.equalIn]
      cases a <;> simp [h1]
    cases a <;> simp [execOp, hc.ev hx, e2, eqGuard, binOp, h2]) k
end
end Go.Fw
end
section
namespace Go.Sp
def headN (its : List Itm) (b : Int) (sc : List Lc) (e : Ex) (s : NW) : NW := if e.kind = 2 then locN b sc e.fr e.name s else if e.kind = 4 then callN its b e.fr e.name e.args.length s else s
theorem exN_eq (its : List Itm) (b : Int) (sc : List Lc) (e : Ex) (s : NW) : exN its b sc e s = exsN its b sc e.args (headN its b sc e s) := by cases e; rw [exN, headN]; rfl
theorem headN_n (its : List Itm) (b : Int) (sc : List Lc) (e : Ex) (s : NW) : s.n ≤ (headN its b sc e s).n ∧ (headN its b sc e s).n ≤ s.n + 2 := by
  have h1 := locN_n b sc e.fr e.name s
  have h2 := callN_n its b e.fr e.name e.args.length s
  rw [headN]
  split
  · omega
  · split <;> omega
theorem cnt_args (e : Ex) : e.cnt = exsCnt e.args + 1 := by cases e; rw [Ex.cnt]; rfl
theorem exsCnt_take {l : List Ex} {k : Nat} {y : Ex} (h : l[k]? = some y) : exsCnt (l.take k) + y.cnt ≤ exsCnt l := by
  have e : l = l.take (k + 1) ++ l.drop (k + 1) := (List.take_append_drop _ _).symm
  have h2 := congrArg exsCnt e
  rw [exsCnt_app, take_succ_get h, exsCnt_app, exsCnt_one] at h2
  omega
theorem callN_none {its : List Itm} {b : Int} {a : Nat} {n : List UInt8} {m : Nat} {s : NW} (h : findIt its 2 n = none) : callN its b a n m s = itmN its b 2 a n s := by rw [callN, h]
theorem callN_some {its : List Itm} {b : Int} {a : Nat} {n : List UInt8} {m : Nat} {s : NW} {j : Nat} (h : findIt its 2 n = some j) : callN its b a n m s = if (itNo its j).params.length ≠ m then (itmN its b 2 a n s).tell a 5 n else itmN its b 2 a n s := by rw [callN, h]
end Go.Sp
namespace Go.Proofs.YthmdffgiockcbaaGreatDoor
open Go.Fw
structure NX where
  k : Nat
  I : Imm
  sa : Option Addr
  sp : Nat
  da : Option Addr
  dp : Nat
  ua : Option Addr
  up : Nat
def NExOk (src : List UInt8) (p : Nat) (q : List UInt8) (its : List Sp.Itm) (it : Sp.Itm) (bc bf : Nat) (a : Option Addr) (cp : Nat) (xs : List Value) (pi : Value) (sc : List Sp.Lc) (e : Sp.Ex) : Prop :=
  ∀ (I : Imm) (b o tc : Nat) (ea : Option Addr) (ec : Nat) (ys : List Value) (s : Sp.NW) (sa : Option Addr) (sp : Nat) (da : Option Addr) (dp : Nat) (ua : Option Addr) (up : Nat), s.n + 2 * e.cnt ≤ 900000000 → NC I src p q its it bf a cp xs pi →
    PtrI I b o tc (exCells e ea ec) → RowI I 102 6 (.slice ea e.args.length ec) e.args.length ys → ExsAt I e.args ys →
    CalM Tryz.prog 166 #[ptr bc, .pointer (some ⟨b, o, none⟩)] I (NSt bc bf pi sc sa sp s da dp ua up) (ToN bc bf pi sc (Sp.exN its p sc e s) (.tuple #[]))
section
variable {src : List UInt8} {p : Nat} {q : List UInt8} {its : List Sp.Itm} {it : Sp.Itm} {bc bf : Nat} {a : Option Addr} {cp : Nat} {xs : List Value} {pi : Value} {sc : List Sp.Lc}
set_option maxHeartbeats 16000000 in
theorem n_expr (hs : sc.length ≤ 1000000000) (hsc : Sp.scOk q sc) : ∀ (n : Nat) (e : Sp.Ex), SizeOf.sizeOf e ≤ n → e.small → e.all (Sp.stE q) → NExOk src p q its it bc bf a cp xs pi sc e := by
  intro n
  induction n with
  | zero => intro e h; cases e; simp at h
  | succ n ih =>
  intro e hsz hsm hall I b o tc ea ec ys s sa sp da dp ua up hn hC hp hr hx
  obtain ⟨hal, hasm⟩ := Sp.small_args hsm
  obtain ⟨hst, haall⟩ := Sp.Ex.all_node hall
  have hcnt := Sp.cnt_args e
  refine CalM.of fun w E hm => enter (N := 76) Tryz.func166 rfl [(0, ptr bc), (1, .pointer (some ⟨b, o, none⟩))] args2 rfl ?_
  have hhd := Sp.headN_n its p sc e s
  rw [Sp.exN_eq]
  have hhr : Sp.headN its p sc e s = if e.kind = 2 then Sp.locN p sc e.fr e.name s else if e.kind = 4 then Sp.callN its p e.fr e.name e.args.length s else s := rfl
  generalize Sp.headN its p sc e s = r at hhr hhd ⊢
  repeat' (first|(refine wc_cut_regN 0 (fun _ : NX => [(0, ptr bc), (1, .pointer (some ⟨b, o, none⟩))]) (fun x w' => Mem E x.I (NSt bc bf pi sc x.sa x.sp r x.da x.dp x.ua x.up) w' ∧ Le I x.I) ?_ ?_))
  · refine ⟨?_⟩
    by_cases k2 : e.kind = 2
    · rw [if_pos k2] at hhr
      subst hhr
      have hc := fun (J : Imm) (m : Le I J) => n_local (I := J) (bc := bc) (sc := sc) (sa := sa) (sp := sp) (s := s) (da := da) (dp := dp) (ua := ua) (up := up) (hC.le m) e.fr e.name (hst (.inl k2)) hsc hs (by omega)
      repeat' (first|(refine wc_quiet_tail (id:=2) 9 (h:=?_))|(refine m_call (d:=21) hm (hp:=pm4_0) (hc:=hc I (Le.refl _)) (k:=?_); clear hm; rintro _ I2 _ _ ⟨rfl, sa2, sp2, da2, dp2, ua2, up2, rfl⟩ hleI2 hm; try simp only [setn] at hm)|refine i_load1 hm (k:=?_)|refine iq_load1 hm (k:=?_)|refine op_move (k:=?_)|refine op_assign (k:=?_)|refine op_eql (k:=?_)|refine op_nilCheck (k:=?_)|refine op_fieldAddr (k:=?_)|refine wl_nil ?_|refine at_then_normal ?_|refine at_block_normal ?_|refine wc_seq ?_|refine wc_region ?_|refine wc_block ?_|(refine wq_nil_tail ?_; intro _ hkq; replace hm := hm.kept0 hkq; clear hkq)|(refine wc_cond_dec (ht:=fun _ => ?_) (hf:=fun _ => ?_)<;> (try first | contradiction | (exfalso; omega)))|refine q_move (k:=?_)|refine q_nilCheck (k:=?_)|refine q_fieldAddr (k:=?_))
      all_goals try (exfalso; omega)
      exact at_cut (⟨0, I2, sa2, sp2, da2, dp2, ua2, up2⟩ : NX) (by exact ⟨rfl, rfl, trivial⟩) ⟨hm, hleI2⟩
    rw [if_neg k2] at hhr
    by_cases k4 : e.kind = 4
    · rw [if_pos k4] at hhr
      have hin := Sp.itmN_n its p 2 e.fr e.name s
      have hbd := (hC.st.sub _ _ (hst (.inr k4))).1
      have hlen := hC.len
      cases hf : Sp.findIt its 2 e.name with
      | none =>
        rw [Sp.callN_none hf] at hhr
        subst hhr
        have hc := fun (J : Imm) (m : Le I J) => n_item0 (I := J) (bc := bc) (sc := sc) (sa := sa) (sp := sp) (s := s) (da := da) (dp := dp) (ua := ua) (up := up) (hC.le m) 2 e.fr e.name (hst (.inr k4)) (by omega) hf
        repeat' (first|(refine wc_quiet_tail (id:=4) 9 (h:=?_))|(refine m_call (d:=33) hm (hp:=pm4_0) (hc:=hc I (Le.refl _)) (k:=?_); clear hm; rintro _ I2 _ _ ⟨rfl, sa2, sp2, da2, dp2, ua2, up2, rfl⟩ hleI2 hm; try simp only [setn] at hm)|(refine q_neq_nilptr (e:=47) (k:=?_))|refine i_load1 hm (k:=?_)|refine iq_load1 hm (k:=?_)|refine op_move (k:=?_)|refine op_assign (k:=?_)|refine op_eql (k:=?_)|refine op_nilCheck (k:=?_)|refine op_fieldAddr (k:=?_)|refine wl_nil ?_|refine at_then_normal ?_|refine at_block_normal ?_|refine wc_seq ?_|refine wc_region ?_|refine wc_block ?_|refine wc_skip ?_|refine wc_quiet (h:=?_)|(refine wq_nil ?_; intro _ hkq; replace hm := hm.kept0 hkq; clear hkq)|(refine wq_nil_tail ?_; intro _ hkq; replace hm := hm.kept0 hkq; clear hkq)|refine wc_cond_false (hf:=?_)|(refine wc_cond_dec (ht:=fun _ => ?_) (hf:=fun _ => ?_)<;> (try first | contradiction | (exfalso; omega)))|refine q_move (k:=?_)|refine q_pick_false (k:=?_)|refine q_nilCheck (k:=?_)|refine q_fieldAddr (k:=?_)|refine wq_skip (k:=?_))
        all_goals try (exfalso; omega)
        exact at_cut (⟨0, I2, sa2, sp2, da2, dp2, ua2, up2⟩ : NX) (by exact ⟨rfl, rfl, trivial⟩) ⟨hm, hleI2⟩
      | some j =>
        rw [Sp.callN_some hf] at hhr
        have hc := fun (J : Imm) (m : Le I J) => n_item1 (I := J) (bc := bc) (sc := sc) (sa := sa) (sp := sp) (s := s) (da := da) (dp := dp) (ua := ua) (up := up) (hC.le m) 2 e.fr e.name (hst (.inr k4)) (by omega) hf
        generalize Sp.itmN its p 2 e.fr e.name s = s1 at hc hhr hin
        by_cases hpl : (Sp.itNo its j).params.length ≠ e.args.length
        · rw [if_pos hpl] at hhr
          subst hhr
          have hT := fun (J : Imm) (sa : Option Addr) (sp : Nat) (da : Option Addr) (dp : Nat) (ua : Option Addr) (up : Nat) => n_tell (I := J) (bc := bc) (bf := bf) (pi := pi) (sc := sc) (sa := sa) (sp := sp) (s := s1) (da := da) (dp := dp) (ua := ua) (up := up) e.name e.fr 5 (by omega) (by omega)
          repeat' (first|(refine wc_quiet_tail (id:=4) 9 (h:=?_))|(refine m_call (d:=33) hm (hp:=pm4_0) (hc:=hc I (Le.refl _)) (k:=?_); clear hm; rintro _ I2 _ _ ⟨⟨bj, oj, cj, rfl, hpj, hatj⟩, sa2, sp2, da2, dp2, ua2, up2, rfl⟩ hleI2 hm; try simp only [setn] at hm; have hp2 := hp.le hleI2; obtain ⟨pa, pc, sa9, sc9, ba, bc9, da9, dc9, xb, rfl, _⟩ := hatj)|(refine q_neq_nilptr (e:=47) (k:=?_))|(refine wc_quiet_tail (id:=6) 9 (h:=?_))|(refine m_call (d:=58) hm (hp:=pm4_0) (hc:=hT I2 sa2 sp2 da2 dp2 ua2 up2) (k:=?_); clear hm; rintro _ I3 _ _ ⟨rfl, sa3, sp3, da3, dp3, ua3, up3, rfl⟩ hleI3 hm; try simp only [setn] at hm)|refine i_load1 hm (k:=?_)|refine iq_load1 hm (k:=?_)|refine op_move (k:=?_)|refine op_assign (k:=?_)|refine op_eql (k:=?_)|refine op_nilCheck (k:=?_)|refine op_fieldAddr (k:=?_)|refine wl_nil ?_|refine at_then_normal ?_|refine at_block_normal ?_|refine wc_seq ?_|refine wc_region ?_|refine wc_block ?_|refine wc_quiet (h:=?_)|(refine wq_nil ?_; intro _ hkq; replace hm := hm.kept0 hkq; clear hkq)|(refine wq_nil_tail ?_; intro _ hkq; replace hm := hm.kept0 hkq; clear hkq)|(refine wc_cond_dec (ht:=fun _ => ?_) (hf:=fun _ => ?_)<;> (try first | contradiction | (exfalso; omega)))|refine q_move (k:=?_)|refine q_pick_true (k:=?_)|refine q_neq (k:=?_)|refine q_len_slice (k:=?_)|refine q_nilCheck (k:=?_)|refine q_fieldAddr (k:=?_))
          all_goals try (exfalso; omega)
          exact at_cut (⟨0, I3, sa3, sp3, da3, dp3, ua3, up3⟩ : NX) (by exact ⟨rfl, rfl, trivial⟩) ⟨hm, hleI2.trans hleI3⟩
        · rw [if_neg hpl] at hhr
          subst hhr
          repeat' (first|(refine wc_quiet_tail (id:=4) 9 (h:=?_))|(refine m_call (d:=33) hm (hp:=pm4_0) (hc:=hc I (Le.refl _)) (k:=?_); clear hm; rintro _ I2 _ _ ⟨⟨bj, oj, cj, rfl, hpj, hatj⟩, sa2, sp2, da2, dp2, ua2, up2, rfl⟩ hleI2 hm; try simp only [setn] at hm; have hp2 := hp.le hleI2; obtain ⟨pa, pc, sa9, sc9, ba, bc9, da9, dc9, xb, rfl, _⟩ := hatj)|(refine q_neq_nilptr (e:=47) (k:=?_))|refine i_load1 hm (k:=?_)|refine iq_load1 hm (k:=?_)|refine op_move (k:=?_)|refine op_assign (k:=?_)|refine op_eql (k:=?_)|refine op_nilCheck (k:=?_)|refine op_fieldAddr (k:=?_)|refine wl_nil ?_|refine at_then_normal ?_|refine at_block_normal ?_|refine wc_seq ?_|refine wc_region ?_|refine wc_block ?_|refine wc_skip ?_|refine wc_quiet (h:=?_)|(refine wq_nil ?_; intro _ hkq; replace hm := hm.kept0 hkq; clear hkq)|(refine wq_nil_tail ?_; intro _ hkq; replace hm := hm.kept0 hkq; clear hkq)|(refine wc_cond_dec (ht:=fun _ => ?_) (hf:=fun _ => ?_)<;> (try first | contradiction | (exfalso; omega)))|refine q_move (k:=?_)|refine q_pick_true (k:=?_)|refine q_neq (k:=?_)|refine q_len_slice (k:=?_)|refine q_nilCheck (k:=?_)|refine q_fieldAddr (k:=?_))
          all_goals try (exfalso; omega)
          exact at_cut (⟨0, I2, sa2, sp2, da2, dp2, ua2, up2⟩ : NX) (by exact ⟨rfl, rfl, trivial⟩) ⟨hm, hleI2⟩
    · rw [if_neg k4] at hhr
      subst hhr
      repeat' (first|refine i_load1 hm (k:=?_)|refine op_move (k:=?_)|refine op_assign (k:=?_)|refine op_eql (k:=?_)|refine op_nilCheck (k:=?_)|refine op_fieldAddr (k:=?_)|refine wl_nil ?_|refine at_then_normal ?_|refine at_block_normal ?_|refine wc_seq ?_|refine wc_region ?_|refine wc_block ?_|refine wc_skip ?_|(refine wc_cond_dec (ht:=fun _ => ?_) (hf:=fun _ => ?_)<;> (try first | contradiction | (exfalso; omega))))
      all_goals try (exfalso; omega)
      exact at_cut (⟨0, I, sa, sp, da, dp, ua, up⟩ : NX) (by exact ⟨rfl, rfl, trivial⟩) ⟨hm, Le.refl _⟩
  · clear hm hhr
    rintro ⟨_, I1, sa1, sp1, da1, dp1, ua1, up1⟩ w1 ⟨hm, hle1⟩
    dsimp only at hm hle1 ⊢
    have hp1 := hp.le hle1
    repeat' (first|refine i_load1 hm (k:=?_)|refine op_move (k:=?_)|refine op_len_slice (k:=?_)|refine op_nilCheck (k:=?_)|refine op_fieldAddr (k:=?_)|refine wl_nil ?_|refine at_then_normal ?_|refine wc_seq ?_|refine wc_region ?_|refine wc_block ?_)
    all_goals try (exfalso; omega)
    refine wc_loop (fun x : NX => [(0, ptr bc), (1, .pointer (some ⟨b, o, none⟩)), (63, nt e.args.length), (64, nt x.k)])
      (fun x w' => Mem E x.I (NSt bc bf pi sc x.sa x.sp (Sp.exsN its p sc (e.args.take x.k) r) x.da x.dp x.ua x.up) w' ∧ Le I x.I ∧ x.k ≤ e.args.length) (fun x => e.args.length - x.k) ⟨0, I1, sa1, sp1, da1, dp1, ua1, up1⟩
      (by exact ⟨rfl, rfl, rfl, rfl, trivial⟩) ⟨by dsimp only; rw [List.take_zero, Sp.exsN]; exact hm, hle1, Nat.zero_le _⟩ ?_
    clear hm hp1
    rintro ⟨k, I2, sa2, sp2, da2, dp2, ua2, up2⟩ w2 ⟨hm, hle2, hk⟩
    dsimp only at hm hle2 hk ⊢
    have hC2 := hC.le hle2
    have hp2 := hp.le hle2
    have hrow := hr.le hle2
    by_cases hlt : k < e.args.length
    · have hg : e.args[k]? = some e.args[k] := List.getElem?_eq_getElem hlt
      have hsz2 := Sp.size_args (List.getElem_mem hlt)
      have hsm2 := Sp.exsSmall_get hasm hg
      have hal2 := Sp.exsAll_get haall hg
      obtain ⟨ea2, ec2, ys2, hc2, hr2, hx2⟩ := (hx.get hg).out
      generalize e.args[k] = y at hg hsz2 hsm2 hal2 hc2 hr2 hx2
      have hstp := Sp.exsN_step its p sc hg r
      have hcy := Sp.exsCnt_take hg
      have hnn := Sp.exsN_n its p sc (e.args.take k) r
      generalize Sp.exsN its p sc (e.args.take k) r = s1 at hm hstp hnn
      have hcl := fun b o tc (hpt : PtrI I2 b o tc (exCells y ea2 ec2)) => ih y (by omega) hsm2 hal2 I2 b o tc ea2 ec2 ys2 s1 sa2 sp2 da2 dp2 ua2 up2 (by omega) hC2 hpt (hr2.le hle2) (ExsAt.le hle2 _ _ hx2)
      generalize Sp.exN its p sc y s1 = s2 at hcl hstp
      repeat' (first|(refine i_indexAddr (d:=73) (hr:=hrow) (k:=?_); intro bt ot hpt; rw [show ((k : Int).toNat * 6) = k * 6 from rfl, hc2] at hpt)|(refine m_call (d:=74) hm (hp:=pm4_0) (hc:=hcl _ _ _ hpt) (k:=?_); clear hm; rintro _ I3 _ _ ⟨rfl, sa3, sp3, da3, dp3, ua3, up3, rfl⟩ hleI3 hm; try simp only [setn] at hm)|refine i_load1 hm (k:=?_)|refine op_move (k:=?_)|refine op_assign (k:=?_)|refine op_lss (k:=?_)|refine op_nilCheck (k:=?_)|refine op_add (k:=?_)|refine op_fieldAddr (k:=?_)|refine wl_nil ?_|refine at_then_normal ?_|refine at_block_normal ?_|refine wc_seq ?_|refine wc_region ?_|refine wc_block ?_|refine wc_skip ?_|(refine wc_cond_dec (ht:=fun _ => ?_) (hf:=fun _ => ?_)<;> (try first | contradiction | (exfalso; omega))))
      all_goals try (exfalso; omega)
      exact at_round (⟨k + 1, I3, sa3, sp3, da3, dp3, ua3, up3⟩ : NX) (by exact ⟨rfl, rfl, rfl, rfl, trivial⟩) ⟨by dsimp only; rw [hstp]; exact hm, hle2.trans hleI3, by dsimp only; omega⟩ (by dsimp only; omega)
    · obtain rfl : k = e.args.length := by omega
      rw [List.take_length] at hm
      repeat' (first|refine op_lss (k:=?_)|refine wl_nil ?_|refine at_then_normal ?_|refine at_then_exit ?_|refine at_block_exit ?_|refine wc_seq ?_|refine wc_region ?_|refine wc_exit ?_|refine at_end0 (h:=?_)|(refine wc_cond_dec (ht:=fun _ => ?_) (hf:=fun _ => ?_)<;> (try first | contradiction | (exfalso; omega))))
      all_goals try (exfalso; omega)
      exact ⟨I2, _, ⟨rfl, _, _, _, _, _, _, rfl⟩, hm⟩
end
end Go.Proofs.YthmdffgiockcbaaGreatDoor
end
