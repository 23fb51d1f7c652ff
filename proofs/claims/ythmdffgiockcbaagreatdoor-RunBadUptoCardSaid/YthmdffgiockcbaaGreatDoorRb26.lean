/- Own work: texts NsD, FwCut2, NsR, NsE, NsF, one behind the other. -/
import Derived.Test.YthmdffgiockcbaaGreatDoorRb25
section
namespace Go.Sp
def coreN (its : List Itm) (b : Int) (x : Stm) (sc : List Lc) (s : NW) : List Lc × NW :=
  if x.kind = 1 then mkN x.name x.at_ sc s else
  if x.kind = 2 then (sc, locN b sc x.at_ x.name s) else
  if x.kind = 5 then (sc, itmN its b 1 x.at_ x.name s) else
  if x.kind = 3 ∨ x.kind = 4 then (sc, (stmsN its b x.els sc (stmsN its b x.thn sc s).2).2) else (sc, s)
theorem stmN_eq (its : List Itm) (b : Int) (x : Stm) (sc : List Lc) (s : NW) : stmN its b x sc s = coreN its b x sc (exN its b sc x.e s) := by cases x; rw [stmN, coreN]; rfl
theorem cnt_stm (x : Stm) : x.cnt = x.e.cnt + stmsCnt x.thn + stmsCnt x.els + 1 := by cases x; rw [Stm.cnt]; rfl
theorem stmsCnt_take {l : List Stm} {k : Nat} {y : Stm} (h : l[k]? = some y) : stmsCnt (l.take k) + y.cnt ≤ stmsCnt l := by
  have e : l = l.take (k + 1) ++ l.drop (k + 1) := (List.take_append_drop _ _).symm
  have h2 := congrArg stmsCnt e
  rw [stmsCnt_app, take_succ_get h, stmsCnt_app, stmsCnt_one] at h2
  omega
theorem len_cnt : ∀ (l : List Stm), l.length ≤ stmsCnt l
  | [] => by simp
  | x :: l => by rw [stmsCnt, List.length_cons]; have := cnt_stm x; have := len_cnt l; omega
theorem stmN_sc {q : List UInt8} (its : List Itm) (b : Int) {x : Stm} (hx : stS q x.kind x.name x.at_ x.label x.opn x.fr x.to) {sc : List Lc} (hsc : scOk q sc) (s : NW) : scOk q (stmN its b x sc s).1 := by
  rw [stmN_eq, coreN]
  split
  · rename_i hk
    rw [mkN]
    split
    · exact hsc
    · rename_i hn; exact scOk_snoc hsc hn (hx (.inl hk))
  · split
    · exact hsc
    · split
      · exact hsc
      · split
        · exact hsc
        · exact hsc
theorem stmsN_sc {q : List UInt8} (its : List Itm) (b : Int) : ∀ (l : List Stm), stmsAll (stE q) (stS q) l → ∀ {sc : List Lc}, scOk q sc → ∀ (s : NW), scOk q (stmsN its b l sc s).1
  | [], _, sc, hsc, s => by rw [stmsN]; exact hsc
  | x :: l, h, sc, hsc, s => by
    rw [stmsAll] at h
    rw [stmsN]
    exact stmsN_sc its b l h.2 (stmN_sc its b (Stm.all_node h.1).1 hsc s) _
theorem stmsAll_pre {p : PE} {q : PS} : ∀ {l : List Stm} (k : Nat), stmsAll p q l → stmsAll p q (l.take k)
  | [], k, h => by rw [List.take_nil]; exact h
  | x :: l, 0, h => by rw [List.take_zero]; exact stmsAll_nil
  | x :: l, k + 1, h => by
    rw [stmsAll] at h
    rw [List.take_succ_cons, stmsAll]
    exact ⟨h.1, stmsAll_pre k h.2⟩
end Go.Sp
namespace Go.Proofs.YthmdffgiockcbaaGreatDoor
open Go.Fw
section
variable (src : List UInt8) (p : Nat) (q : List UInt8) (its : List Sp.Itm) (it : Sp.Itm) (bc bf : Nat) (a : Option Addr) (cp : Nat) (xs : List Value) (pi : Value)
def NStmOk (x : Sp.Stm) : Prop :=
  ∀ (I : Imm) (b o tc : Nat) (cs : List Value) (sc : List Sp.Lc) (s : Sp.NW) (sa : Option Addr) (sp : Nat) (da : Option Addr) (dp : Nat) (ua : Option Addr) (up : Nat), Sp.scOk q sc → sc.length + x.cnt ≤ 900000000 → s.n + 2 * x.cnt ≤ 900000000 → NC I src p q its it bf a cp xs pi →
    PtrI I b o tc cs → StAt I x cs →
    CalM Tryz.prog 134 #[ptr bc, .pointer (some ⟨b, o, none⟩)] I (NSt bc bf pi sc sa sp s da dp ua up) (ToN bc bf pi (Sp.stmN its p x sc s).1 (Sp.stmN its p x sc s).2 (.tuple #[]))
def NBlkOk (l : List Sp.Stm) : Prop :=
  ∀ (I : Imm) (ab : Option Addr) (cb : Nat) (xb : List Value) (sc : List Sp.Lc) (s : Sp.NW) (sa : Option Addr) (sp : Nat) (da : Option Addr) (dp : Nat) (ua : Option Addr) (up : Nat), Sp.scOk q sc → sc.length + Sp.stmsCnt l ≤ 900000000 → s.n + 2 * Sp.stmsCnt l ≤ 900000000 → NC I src p q its it bf a cp xs pi →
    RowI I 104 15 (.slice ab l.length cb) l.length xb → StsAt I l xb →
    CalM Tryz.prog 111 #[ptr bc, .slice ab l.length cb] I (NSt bc bf pi sc sa sp s da dp ua up) (ToN bc bf pi sc (Sp.stmsN its p l sc s).2 (.tuple #[]))
end
section
variable {src : List UInt8} {p : Nat} {q : List UInt8} {its : List Sp.Itm} {it : Sp.Itm} {bc bf : Nat} {a : Option Addr} {cp : Nat} {xs : List Value} {pi : Value}
theorem lnRow_take (sc : List Sp.Lc) (n : Nat) : (sc.flatMap encLn).take (n * 2) = (sc.take n).flatMap encLn := by
  induction sc generalizing n with
  | nil => simp
  | cons x l ih =>
    cases n with
    | zero => simp
    | succ n =>
      rw [List.flatMap_cons, List.take_succ_cons, List.flatMap_cons, show (n + 1) * 2 = 2 + n * 2 by omega, List.take_append, List.take_of_length_le (by show 2 ≤ 2 + n * 2; omega), show 2 + n * 2 - (encLn x).length = n * 2 by (show 2 + n * 2 - 2 = n * 2; omega), ih]
set_option maxHeartbeats 16000000 in
theorem n_block (l : List Sp.Stm) (hl : l.length ≤ 64) (hall : Sp.stmsAll (Sp.stE q) (Sp.stS q) l) (hS : ∀ y ∈ l, NStmOk src p q its it bc bf a cp xs pi y) : NBlkOk src p q its it bc bf a cp xs pi l := by
  intro I ab cb xb sc s sa sp da dp ua up hsc hn1 hn2 hC hr hx
  refine CalM.of fun w E hm => enter (N := 31) Tryz.func111 rfl [(0, ptr bc), (1, .slice ab l.length cb)] args2 rfl ?_
  repeat' (first|refine m_load1 hm (k:=?_)|refine op_move (k:=?_)|refine op_assign (k:=?_)|refine op_len_slice (k:=?_)|refine op_nilCheck (k:=?_)|refine op_fieldAddr (k:=?_)|refine wl_nil ?_|refine at_then_normal ?_|refine wc_seq ?_|refine wc_region ?_|refine wc_block ?_)
  refine wc_loop (fun x : NX => [(0, ptr bc), (1, .slice ab l.length cb), (4, nt sc.length), (12, nt l.length), (13, nt x.k)])
    (fun x w' => Mem E x.I (NSt bc bf pi (Sp.stmsN its p (l.take x.k) sc s).1 x.sa x.sp (Sp.stmsN its p (l.take x.k) sc s).2 x.da x.dp x.ua x.up) w' ∧ Le I x.I ∧ x.k ≤ l.length) (fun x => l.length - x.k) ⟨0, I, sa, sp, da, dp, ua, up⟩
    (by exact ⟨rfl, rfl, rfl, rfl, rfl, trivial⟩) ⟨by dsimp only; rw [List.take_zero, Sp.stmsN]; exact hm, Le.refl _, Nat.zero_le _⟩ ?_
  clear hm
  rintro ⟨k, I1, sa1, sp1, da1, dp1, ua1, up1⟩ w1 ⟨hm, hle1, hk⟩
  dsimp only at hm hle1 hk ⊢
  have hC1 := hC.le hle1
  have hrow := hr.le hle1
  by_cases hlt : k < l.length
  · have hg : l[k]? = some l[k] := List.getElem?_eq_getElem hlt
    have hmem := List.getElem_mem hlt
    obtain ⟨cs, hcs⟩ : ∃ cs, cs = (xb.drop (k * 15)).take 15 := ⟨_, rfl⟩
    have hat := hx.get hg
    rw [← hcs] at hat
    have hSk := hS _ hmem
    generalize l[k] = y at hg hmem hat hSk
    have hst := Sp.stmsN_step its p hg sc s
    have hcy := Sp.stmsCnt_take hg
    have hnn := Sp.stmsN_n its p (l.take k) sc s
    have hsc1 := Sp.stmsN_sc its p (l.take k) (Sp.stmsAll_pre k hall) hsc s
    have htl : (l.take k).length = k := by rw [List.length_take]; omega
    have hkc := Sp.len_cnt (l.take k)
    generalize Sp.stmsN its p (l.take k) sc s = r at hm hst hnn hsc1
    have hcl := fun b o (hpt : PtrI I1 b o 104 cs) => hSk I1 b o 104 cs r.1 r.2 sa1 sp1 da1 dp1 ua1 up1 hsc1 (by omega) (by omega) hC1 hpt (StAt.le hle1 _ _ hat)
    generalize Sp.stmN its p y r.1 r.2 = z at hcl hst
    repeat' (first|(refine i_indexAddr (d:=19) (hr:=hrow) (k:=?_); intro bt ot hpt; rw [show ((k : Int).toNat * 15) = k * 15 from rfl, ← hcs] at hpt)|(refine m_call (d:=20) hm (hp:=pm4_0) (hc:=hcl _ _ hpt) (k:=?_); clear hm; rintro _ I2 _ _ ⟨rfl, sa2, sp2, da2, dp2, ua2, up2, rfl⟩ hleI2 hm; try simp only [setn] at hm)|refine op_move (k:=?_)|refine op_assign (k:=?_)|refine op_lss (k:=?_)|refine op_add (k:=?_)|refine wl_nil ?_|refine at_then_normal ?_|refine at_block_normal ?_|refine wc_seq ?_|refine wc_region ?_|refine wc_block ?_|refine wc_skip ?_|(refine wc_cond_dec (ht:=fun _ => ?_) (hf:=fun _ => ?_)<;> (try first | contradiction | (exfalso; omega))))
    all_goals try (exfalso; omega)
    exact at_round (⟨k + 1, I2, sa2, sp2, da2, dp2, ua2, up2⟩ : NX) (by exact ⟨rfl, rfl, rfl, rfl, rfl, trivial⟩) ⟨by dsimp only; rw [hst]; exact hm, hle1.trans hleI2, by dsimp only; omega⟩ (by dsimp only; omega)
  · obtain rfl : k = l.length := by omega
    have hback := Sp.stmsN_back its p l sc s
    have hpl := (Sp.stmsN_n its p l sc s).2.2.1
    rw [List.take_length] at hm
    generalize Sp.stmsN its p l sc s = r at hm hback hpl ⊢
    repeat' (first|(refine m_sliceTo (d:=28) hm (hmn:=hpl) (k:=?_); clear hm; intro hm; try simp only [setn] at hm)|refine m_load1 hm (k:=?_)|(refine m_store1 hm (k:=?_); clear hm; intro _ hm; try simp only [setn] at hm)|refine op_move (k:=?_)|refine op_lss (k:=?_)|refine op_nilCheck (k:=?_)|refine op_fieldAddr (k:=?_)|refine wl_nil ?_|refine at_then_normal ?_|refine at_then_exit ?_|refine at_block_exit ?_|refine wc_seq ?_|refine wc_region ?_|refine wc_exit ?_|refine at_end0 (h:=?_)|(refine wc_cond_dec (ht:=fun _ => ?_) (hf:=fun _ => ?_)<;> (try first | contradiction | (exfalso; omega))))
    all_goals try (exfalso; omega)
    refine ⟨I1, _, ⟨rfl, sa1, sp1, da1, dp1, ua1, up1, ?_⟩, hm⟩
    rw [lnRow_take, hback]
set_option maxHeartbeats 32000000 in
theorem n_stmt (x : Sp.Stm) (hsm : x.small) (hall : x.all (Sp.stE q) (Sp.stS q)) (hT : NBlkOk src p q its it bc bf a cp xs pi x.thn) (hL : NBlkOk src p q its it bc bf a cp xs pi x.els) : NStmOk src p q its it bc bf a cp xs pi x := by
  intro I b o tc cs sc s sa sp da dp ua up hsc hn1 hn2 hC hp hx
  obtain ⟨s1, s2, s3, s4, s5⟩ := Sp.small_parts hsm
  obtain ⟨a1, a2, a3, a4⟩ := Sp.Stm.all_node hall
  have hcnt := Sp.cnt_stm x
  refine CalM.of fun w E hm => enter (N := 64) Tryz.func134 rfl [(0, ptr bc), (1, .pointer (some ⟨b, o, none⟩))] args2 rfl ?_
  obtain ⟨ea, ec, ex, a1', c1, xs1, a2', c2, xs2, rfl, hr3, hx3, hr4, hx4, hr5, hx5⟩ := hx.out
  have hpe := hp.sub (cs' := exCells x.e ea ec) 5 (fun j u hj => by
    match j, hj with
    | 0, hj => exact hj
    | 1, hj => exact hj
    | 2, hj => exact hj
    | 3, hj => exact hj
    | 4, hj => exact hj
    | 5, hj => exact hj
    | j + 6, hj => cases hj)
  rw [Sp.stmN_eq]
  have hE := n_expr (its := its) (it := it) (bc := bc) (bf := bf) (a := a) (cp := cp) (xs := xs) (pi := pi) (src := src) (p := p) (by omega) hsc _ x.e (Nat.le_refl _) s1 a2 I b (o + 5) tc ea ec ex s sa sp da dp ua up (by omega) hC hpe hr3 hx3
  have hnx := Sp.exN_n its p sc x.e s
  generalize Sp.exN its p sc x.e s = r at hE hnx ⊢
  have hlen := hC.len
  rw [Sp.coreN]
  by_cases k1 : x.kind = 1
  · rw [if_pos k1]
    have hb := (hC.st.sub _ _ (a1 (.inl k1))).1
    have hc := fun (J : Imm) (sa : Option Addr) (sp : Nat) (da : Option Addr) (dp : Nat) (ua : Option Addr) (up : Nat) => n_make (I := J) (bc := bc) (bf := bf) (pi := pi) (sc := sc) (sa := sa) (sp := sp) (s := r) (da := da) (dp := dp) (ua := ua) (up := up) x.name x.at_ (by omega) (by omega) (by omega)
    repeat' (first|(refine m_call (d:=8) hm (hp:=pm4_0) (hc:=hE) (k:=?_); clear hm; rintro _ I2 _ _ ⟨rfl, sa2, sp2, da2, dp2, ua2, up2, rfl⟩ hleI2 hm; try simp only [setn] at hm; have hp2 := hp.le hleI2)|(refine wc_quiet_tail (id:=3) 9 (h:=?_))|(refine m_call (d:=24) hm (hp:=pm4_0) (hc:=hc I2 sa2 sp2 da2 dp2 ua2 up2) (k:=?_); clear hm; rintro _ I3 _ _ ⟨rfl, sa3, sp3, da3, dp3, ua3, up3, rfl⟩ hleI3 hm; try simp only [setn] at hm)|refine i_load1 hm (k:=?_)|refine iq_load1 hm (k:=?_)|refine op_move (k:=?_)|refine op_assign (k:=?_)|refine op_eql (k:=?_)|refine op_nilCheck (k:=?_)|refine op_fieldAddr (k:=?_)|refine wl_nil ?_|refine at_then_normal ?_|refine at_block_normal ?_|refine wc_seq ?_|refine wc_region ?_|refine wc_block ?_|refine at_end0 (h:=?_)|(refine wq_nil_tail ?_; intro _ hkq; replace hm := hm.kept0 hkq; clear hkq)|(refine wc_cond_dec (ht:=fun _ => ?_) (hf:=fun _ => ?_)<;> (try first | contradiction | (exfalso; omega)))|refine q_move (k:=?_)|refine q_nilCheck (k:=?_)|refine q_fieldAddr (k:=?_))
    all_goals try (exfalso; omega)
    exact ⟨I3, _, ⟨rfl, _, _, _, _, _, _, rfl⟩, hm⟩
  rw [if_neg k1]
  by_cases k2 : x.kind = 2
  · rw [if_pos k2]
    have hc := fun (J : Imm) (m : Le I J) (sa : Option Addr) (sp : Nat) (da : Option Addr) (dp : Nat) (ua : Option Addr) (up : Nat) => n_local (I := J) (bc := bc) (sc := sc) (sa := sa) (sp := sp) (s := r) (da := da) (dp := dp) (ua := ua) (up := up) (hC.le m) x.at_ x.name (a1 (.inr (.inl k2))) hsc (by omega) (by omega)
    repeat' (first|(refine m_call (d:=8) hm (hp:=pm4_0) (hc:=hE) (k:=?_); clear hm; rintro _ I2 _ _ ⟨rfl, sa2, sp2, da2, dp2, ua2, up2, rfl⟩ hleI2 hm; try simp only [setn] at hm; have hp2 := hp.le hleI2)|(refine wc_quiet_tail (id:=5) 9 (h:=?_))|(refine m_call (d:=36) hm (hp:=pm4_0) (hc:=hc I2 hleI2 sa2 sp2 da2 dp2 ua2 up2) (k:=?_); clear hm; rintro _ I3 _ _ ⟨rfl, sa3, sp3, da3, dp3, ua3, up3, rfl⟩ hleI3 hm; try simp only [setn] at hm)|refine i_load1 hm (k:=?_)|refine iq_load1 hm (k:=?_)|refine op_move (k:=?_)|refine op_assign (k:=?_)|refine op_eql (k:=?_)|refine op_nilCheck (k:=?_)|refine op_fieldAddr (k:=?_)|refine wl_nil ?_|refine at_then_normal ?_|refine at_block_normal ?_|refine wc_seq ?_|refine wc_region ?_|refine wc_block ?_|refine at_end0 (h:=?_)|(refine wq_nil_tail ?_; intro _ hkq; replace hm := hm.kept0 hkq; clear hkq)|(refine wc_cond_dec (ht:=fun _ => ?_) (hf:=fun _ => ?_)<;> (try first | contradiction | (exfalso; omega)))|refine q_move (k:=?_)|refine q_nilCheck (k:=?_)|refine q_fieldAddr (k:=?_))
    all_goals try (exfalso; omega)
    exact ⟨I3, _, ⟨rfl, _, _, _, _, _, _, rfl⟩, hm⟩
  rw [if_neg k2]
  by_cases k5 : x.kind = 5
  · rw [if_pos k5]
    cases hf : Sp.findIt its 1 x.name with
    | none =>
      have hc := fun (J : Imm) (m : Le I J) (sa : Option Addr) (sp : Nat) (da : Option Addr) (dp : Nat) (ua : Option Addr) (up : Nat) => n_item0 (I := J) (bc := bc) (sc := sc) (sa := sa) (sp := sp) (s := r) (da := da) (dp := dp) (ua := ua) (up := up) (hC.le m) 1 x.at_ x.name (a1 (.inr (.inr k5))) (by omega) hf
      repeat' (first|(refine m_call (d:=8) hm (hp:=pm4_0) (hc:=hE) (k:=?_); clear hm; rintro _ I2 _ _ ⟨rfl, sa2, sp2, da2, dp2, ua2, up2, rfl⟩ hleI2 hm; try simp only [setn] at hm; have hp2 := hp.le hleI2)|(refine wc_quiet_tail (id:=7) 9 (h:=?_))|(refine m_call (d:=48) hm (hp:=pm4_0) (hc:=hc I2 hleI2 sa2 sp2 da2 dp2 ua2 up2) (k:=?_); clear hm; rintro _ I3 _ _ ⟨rfl, sa3, sp3, da3, dp3, ua3, up3, rfl⟩ hleI3 hm; try simp only [setn] at hm)|refine i_load1 hm (k:=?_)|refine iq_load1 hm (k:=?_)|refine op_move (k:=?_)|refine op_assign (k:=?_)|refine op_eql (k:=?_)|refine op_nilCheck (k:=?_)|refine op_fieldAddr (k:=?_)|refine wl_nil ?_|refine at_then_normal ?_|refine at_block_normal ?_|refine wc_seq ?_|refine wc_region ?_|refine wc_block ?_|refine at_end0 (h:=?_)|(refine wq_nil_tail ?_; intro _ hkq; replace hm := hm.kept0 hkq; clear hkq)|(refine wc_cond_dec (ht:=fun _ => ?_) (hf:=fun _ => ?_)<;> (try first | contradiction | (exfalso; omega)))|refine q_move (k:=?_)|refine q_nilCheck (k:=?_)|refine q_fieldAddr (k:=?_))
      all_goals try (exfalso; omega)
      exact ⟨I3, _, ⟨rfl, _, _, _, _, _, _, rfl⟩, hm⟩
    | some j =>
      have hc := fun (J : Imm) (m : Le I J) (sa : Option Addr) (sp : Nat) (da : Option Addr) (dp : Nat) (ua : Option Addr) (up : Nat) => n_item1 (I := J) (bc := bc) (sc := sc) (sa := sa) (sp := sp) (s := r) (da := da) (dp := dp) (ua := ua) (up := up) (hC.le m) 1 x.at_ x.name (a1 (.inr (.inr k5))) (by omega) hf
      repeat' (first|(refine m_call (d:=8) hm (hp:=pm4_0) (hc:=hE) (k:=?_); clear hm; rintro _ I2 _ _ ⟨rfl, sa2, sp2, da2, dp2, ua2, up2, rfl⟩ hleI2 hm; try simp only [setn] at hm; have hp2 := hp.le hleI2)|(refine wc_quiet_tail (id:=7) 9 (h:=?_))|(refine m_call (d:=48) hm (hp:=pm4_0) (hc:=hc I2 hleI2 sa2 sp2 da2 dp2 ua2 up2) (k:=?_); clear hm; rintro _ I3 _ _ ⟨⟨_, _, _, rfl, _, _⟩, sa3, sp3, da3, dp3, ua3, up3, rfl⟩ hleI3 hm; try simp only [setn] at hm)|refine i_load1 hm (k:=?_)|refine iq_load1 hm (k:=?_)|refine op_move (k:=?_)|refine op_assign (k:=?_)|refine op_eql (k:=?_)|refine op_nilCheck (k:=?_)|refine op_fieldAddr (k:=?_)|refine wl_nil ?_|refine at_then_normal ?_|refine at_block_normal ?_|refine wc_seq ?_|refine wc_region ?_|refine wc_block ?_|refine at_end0 (h:=?_)|(refine wq_nil_tail ?_; intro _ hkq; replace hm := hm.kept0 hkq; clear hkq)|(refine wc_cond_dec (ht:=fun _ => ?_) (hf:=fun _ => ?_)<;> (try first | contradiction | (exfalso; omega)))|refine q_move (k:=?_)|refine q_nilCheck (k:=?_)|refine q_fieldAddr (k:=?_))
      all_goals try (exfalso; omega)
      exact ⟨I3, _, ⟨rfl, _, _, _, _, _, _, rfl⟩, hm⟩
  rw [if_neg k5]
  by_cases k34 : x.kind = 3 ∨ x.kind = 4
  · rw [if_pos k34]
    have hb1 := fun (J : Imm) (m : Le I J) (sa : Option Addr) (sp : Nat) (da : Option Addr) (dp : Nat) (ua : Option Addr) (up : Nat) => hT J a1' c1 xs1 sc r sa sp da dp ua up hsc (by omega) (by omega) (hC.le m) (hr4.le m) (StsAt.le m _ _ hx4)
    have hnn := Sp.stmsN_n its p x.thn sc r
    generalize Sp.stmsN its p x.thn sc r = r7 at hb1 hnn ⊢
    have hb2 := fun (J : Imm) (m : Le I J) (sa : Option Addr) (sp : Nat) (da : Option Addr) (dp : Nat) (ua : Option Addr) (up : Nat) => hL J a2' c2 xs2 sc r7.2 sa sp da dp ua up hsc (by omega) (by omega) (hC.le m) (hr5.le m) (StsAt.le m _ _ hx5)
    repeat' (first|(refine m_call (d:=8) hm (hp:=pm4_0) (hc:=hE) (k:=?_); clear hm; rintro _ I2 _ _ ⟨rfl, sa2, sp2, da2, dp2, ua2, up2, rfl⟩ hleI2 hm; try simp only [setn] at hm; have hp2 := hp.le hleI2)|(refine m_call (d:=57) hm (hp:=pm4_0) (hc:=hb1 I2 hleI2 sa2 sp2 da2 dp2 ua2 up2) (k:=?_); clear hm; rintro _ I3 _ _ ⟨rfl, sa3, sp3, da3, dp3, ua3, up3, rfl⟩ hleI3 hm; try simp only [setn] at hm; have hp3 := hp2.le hleI3)|(refine m_call (d:=63) hm (hp:=pm4_0) (hc:=hb2 I3 (hleI2.trans hleI3) sa3 sp3 da3 dp3 ua3 up3) (k:=?_); clear hm; rintro _ I4 _ _ ⟨rfl, sa4, sp4, da4, dp4, ua4, up4, rfl⟩ hleI4 hm; try simp only [setn] at hm)|refine i_load1 hm (k:=?_)|refine op_move (k:=?_)|refine op_assign (k:=?_)|refine op_eql (k:=?_)|refine op_nilCheck (k:=?_)|refine op_fieldAddr (k:=?_)|refine wl_nil ?_|refine at_then_normal ?_|refine at_block_normal ?_|refine wc_seq ?_|refine wc_region ?_|refine wc_block ?_|refine wc_skip ?_|refine at_end0 (h:=?_)|(refine wc_cond_dec (ht:=fun _ => ?_) (hf:=fun _ => ?_)<;> (try first | contradiction | (exfalso; omega))))
    all_goals try (exfalso; omega)
    all_goals exact ⟨I4, _, ⟨rfl, _, _, _, _, _, _, rfl⟩, hm⟩
  · rw [if_neg k34]
    repeat' (first|(refine m_call (d:=8) hm (hp:=pm4_0) (hc:=hE) (k:=?_); clear hm; rintro _ I2 _ _ ⟨rfl, sa2, sp2, da2, dp2, ua2, up2, rfl⟩ hleI2 hm; try simp only [setn] at hm; have hp2 := hp.le hleI2)|refine i_load1 hm (k:=?_)|refine op_move (k:=?_)|refine op_assign (k:=?_)|refine op_eql (k:=?_)|refine op_nilCheck (k:=?_)|refine op_fieldAddr (k:=?_)|refine wl_nil ?_|refine at_then_normal ?_|refine at_block_normal ?_|refine wc_seq ?_|refine wc_region ?_|refine wc_block ?_|refine wc_skip ?_|refine at_end0 (h:=?_)|(refine wc_cond_dec (ht:=fun _ => ?_) (hf:=fun _ => ?_)<;> (try first | contradiction | (exfalso; omega))))
    all_goals try (exfalso; omega)
    exact ⟨I2, _, ⟨rfl, _, _, _, _, _, _, rfl⟩, hm⟩
theorem n_blk : ∀ (n : Nat) (l : List Sp.Stm), SizeOf.sizeOf l ≤ n → l.length ≤ 64 → Sp.stmsSmall l → Sp.stmsAll (Sp.stE q) (Sp.stS q) l → NBlkOk src p q its it bc bf a cp xs pi l := by
  intro n
  induction n with
  | zero => intro l h; cases l <;> simp at h
  | succ n ih =>
  intro l hsz hll hsm hal
  refine n_block l hll hal (fun y hy => ?_)
  obtain ⟨j, hj, rfl⟩ := List.getElem_of_mem hy
  have hg := List.getElem?_eq_getElem hj
  have h1 := Sp.stmsSmall_get hsm hg
  have h0 := Sp.stmsAll_get hal hg
  have h2 := Sp.Stm.all_node h0
  have h3 := Sp.sizeL_mem (List.getElem_mem hj)
  generalize l[j] = y at h0 h1 h2 h3
  obtain ⟨s1, s2, s3, s4, s5⟩ := Sp.small_parts h1
  obtain ⟨z1, z2⟩ := Sp.size_thn (s := y)
  exact n_stmt y h1 h0 (ih y.thn (by omega) s2 s3 h2.2.2.1) (ih y.els (by omega) s4 s5 h2.2.2.2)
end
end Go.Proofs.YthmdffgiockcbaaGreatDoor
end
section
namespace Go.Fw
open Go
theorem RowI.take {I : Imm} {e sz n m cp : Nat} {a : Option Addr} {xs : List Value} (h : RowI I e sz (.slice a n cp) n xs) (hmn : m ≤ n) : RowI I e sz (.slice a m cp) m (xs.take (m * sz)) := by
  obtain ⟨h0, a', cap, h1, h2, h3⟩ := h
  obtain ⟨rfl, _, rfl⟩ := Value.slice.inj h1
  have hle : m * sz ≤ n * sz := Nat.mul_le_mul_right _ hmn
  refine ⟨by rw [List.length_take]; omega, a, cp, rfl, by omega, fun hm => ?_⟩
  obtain ⟨b, off, c, fr, e1, e2, e3⟩ := h3 (by omega)
  refine ⟨b, off, c, fr, e1, e2, fun j u hj => e3 j u ?_⟩
  rw [List.getElem?_take] at hj
  split at hj
  · exact hj
  · cases hj
section
variable {P : Program} {N : Nat} {ds : List Deferred} {Q : Exit → Act → World → Prop} {l : Log} {w : World} {ops : Array Oper} {os : List Oper}
variable {d : Nat} {ty : TypeId} {pos : String} {af : Array Edge} {g : Option (Nat × Bool)} {t : TypeId} {x y : Operand} {E : Ent} {I : Imm} {H : List HItem}
theorem i_sliceTo {e : TypeId} {sz by_ : Nat} [TySlice P t e] [Elem P e sz by_] {n m cp : Nat} {a : Option Addr} {xs : List Value} (hr : RowI I e sz (.slice a n cp) n xs)
    (hw : want ops l ⟨some d, .slice t x none (some y) none, ty, pos, af, g⟩ = some true := by rfl) (hN : Nat.blt d N = true := by rfl)
    (hx : ev l x = some (.slice a n cp) := by rfl) (hy : ev l y = some (.int .i64 (m : Int)) := by rfl) (hmn : m ≤ n := by omega)
    (k : RowI I e sz (.slice a m cp) m (xs.take (m * sz)) → WL P N ds ops Q os ((d, .slice a m cp) :: l) w) :
    WL P N ds ops Q (⟨some d, .slice t x none (some y) none, ty, pos, af, g⟩ :: os) l w := by
  have h2 : n ≤ cp := by
    obtain ⟨_, a', cap, h1, h2, _⟩ := hr
    obtain ⟨_, _, rfl⟩ := Value.slice.inj h1
    exact h2
  refine wl_value (w' := w) (v := .slice a m cp) rfl hw hN (fun c hc => ?_) (k (hr.take hmn))
  obtain ⟨inf, z, hinf, _, hs, _, _, _⟩ := Elem.out (P := P) (e := e)
  have h6 := run_underlying (P := P) (w := w) (TySlice.out (P := P) (t := t))
  have h7 : m ≤ cp := by omega
  rcases a with _ | ⟨b, off, o⟩
  · simp [execOp, Instr.sliceAt, Instr.slice, Instr.sliceBounds, Instr.sliceBound, hc.ev hx, hc.ev hy, h6, asIntOf, h7, sizeOf, typeInfo, hinf, hs]
  · simp [execOp, Instr.sliceAt, Instr.slice, Instr.sliceBounds, Instr.sliceBound, hc.ev hx, hc.ev hy, h6, asIntOf, h7, sizeOf, typeInfo, hinf, hs, Addr.add]
end
end Go.Fw
end
section
namespace Go.Proofs.YthmdffgiockcbaaGreatDoor
open Go.Fw
theorem n_idxRef (fi : FuncId) [Own Tryz.prog fi] (ca : List Value) (F : Sp.Rf → Bool) (l : List Sp.Rf) (hl : l.length ≤ 1000000000) (I : Imm) (a : Option Addr) (cp : Nat) (hr : RowI I 61 2 (.slice a l.length cp) l.length (l.flatMap encRf))
    (hF : ∀ I', Le I I' → ∀ x, CalM Tryz.prog fi (.agg (encRf x).toArray :: ca).toArray I' [] (fun v _ H' => v = .bool (F x) ∧ H' = [])) :
    CalM Tryz.prog 133 #[.slice a l.length cp, .func (.func fi) #[] ca.toArray] I [] (fun v _ H' => v = .int .i64 (match l.findIdx? F with | some j => (j : Int) | none => -1) ∧ H' = []) := by
  refine CalM.of fun w E hm => enter (N := 19) Tryz.func133 rfl [(0, .slice a l.length cp), (1, .func (.func fi) #[] ca.toArray)] args2 rfl ?_
  repeat' (first|refine op_move (k:=?_)|refine op_assign (k:=?_)|refine op_len_slice (k:=?_)|refine wl_nil ?_|refine at_then_normal ?_|refine wc_seq ?_|refine wc_region ?_|refine wc_block ?_)
  refine wc_loop (fun x : NI => [(0, .slice a l.length cp), (1, .func (.func fi) #[] ca.toArray), (7, nt l.length), (8, nt x.k)])
    (fun x w' => Mem E x.I [] w' ∧ Le I x.I ∧ x.k ≤ l.length ∧ ∀ j it', j < x.k → l[j]? = some it' → F it' = false) (fun x => l.length - x.k) ⟨0, I⟩ (by exact ⟨rfl, rfl, rfl, rfl, trivial⟩) ⟨hm, Le.refl _, Nat.zero_le _, fun j _ hj => absurd hj (Nat.not_lt_zero j)⟩ ?_
  clear hm
  rintro ⟨k, I1⟩ w1 ⟨hm, hle1, hk, hno⟩
  dsimp only at hm hle1 hk hno ⊢
  by_cases hlt : k < l.length
  · have hg : l[k]? = some l[k] := List.getElem?_eq_getElem hlt
    have hri := hr.le hle1
    have hc := hF I1 hle1 l[k]
    have hgk : l[((k : Nat) : Int).toNat]? = some l[k] := hg
    generalize l[k] = x at hg hc hgk
    cases hb : F x with
    | true =>
      rw [hb] at hc
      repeat' (first|(refine i_indexFlat (d:=14) (enc:=encRf) (z:=x) (hr:=hri) (he:=fun _ => rfl) (hz:=hgk) (k:=?_); intro bt ot hpt)|(refine i_loadN (d:=15) hm (hp:=hpt) (k:=?_))|(refine m_callv (d:=16) hm (hp:=pm0) (hc:=by exact hc) (k:=?_); clear hm; rintro _ I2 _ _ ⟨rfl, rfl⟩ hle hm)|refine op_move (k:=?_)|refine op_assign (k:=?_)|refine op_lss (k:=?_)|refine wl_nil ?_|refine at_then_normal ?_|refine at_then_ret ?_|refine at_block_ret ?_|refine wc_seq ?_|refine wc_region ?_|refine wc_block ?_|refine wc_skip ?_|refine wc_ret ?_|refine at_ret1 (h:=?_)|refine wc_cond_true (ht:=?_)|(refine wc_cond_dec (ht:=fun _ => ?_) (hf:=fun _ => ?_)<;> (try first | contradiction | (exfalso; omega))))
      all_goals try (exfalso; omega)
      refine ⟨I2, [], ⟨?_, rfl⟩, hm.left (H := [])⟩
      have : l.findIdx? F = some k := by
        rw [List.findIdx?_eq_some_iff_getElem]
        obtain ⟨hk, e⟩ := List.getElem?_eq_some_iff.1 hg
        refine ⟨hk, by rw [e]; exact hb, fun j hj => ?_⟩
        have := hno j l[j] hj (List.getElem?_eq_getElem (by omega))
        rw [this]; simp
      rw [this]
    | false =>
      rw [hb] at hc
      repeat' (first|(refine i_indexFlat (d:=14) (enc:=encRf) (z:=x) (hr:=hri) (he:=fun _ => rfl) (hz:=hgk) (k:=?_); intro bt ot hpt)|(refine i_loadN (d:=15) hm (hp:=hpt) (k:=?_))|(refine m_callv (d:=16) hm (hp:=pm0) (hc:=by exact hc) (k:=?_); clear hm; rintro _ I2 _ _ ⟨rfl, rfl⟩ hle hm)|refine op_move (k:=?_)|refine op_assign (k:=?_)|refine op_lss (k:=?_)|refine op_add (k:=?_)|refine wl_nil ?_|refine at_then_normal ?_|refine at_block_normal ?_|refine wc_seq ?_|refine wc_region ?_|refine wc_block ?_|refine wc_skip ?_|refine wc_cond_false (hf:=?_)|(refine wc_cond_dec (ht:=fun _ => ?_) (hf:=fun _ => ?_)<;> (try first | contradiction | (exfalso; omega))))
      all_goals try (exfalso; omega)
      refine at_round (⟨k + 1, I2⟩ : NI) (by exact ⟨rfl, rfl, rfl, rfl, trivial⟩) ⟨hm.left (H := []), hle1.trans hle, by dsimp only; omega, fun j it' hj hg' => ?_⟩ (by dsimp only; omega)
      rcases Nat.lt_or_ge j k with hjk | hjk
      · exact hno j it' hjk hg'
      · obtain rfl : j = k := by dsimp only at hj; omega
        rw [hg] at hg'
        obtain rfl := Option.some.inj hg'
        exact hb
  · obtain rfl : k = l.length := by omega
    repeat' (first|refine op_assign (k:=?_)|refine op_lss (k:=?_)|refine wl_nil ?_|refine at_then_normal ?_|refine at_then_exit ?_|refine at_block_exit ?_|refine wc_seq ?_|refine wc_region ?_|refine wc_exit ?_|refine wc_ret ?_|refine at_ret1 (h:=?_)|(refine wc_cond_dec (ht:=fun _ => ?_) (hf:=fun _ => ?_)<;> (try first | contradiction | (exfalso; omega))))
    all_goals try (exfalso; omega)
    refine ⟨I1, [], ⟨?_, rfl⟩, hm.left (H := [])⟩
    have : l.findIdx? F = none := by
      rw [List.findIdx?_eq_none_iff]
      intro x hx
      obtain ⟨j, hj, rfl⟩ := List.getElem_of_mem hx
      exact hno j _ hj (List.getElem?_eq_getElem hj)
    rw [this]
theorem n_contains (fi : FuncId) [Own Tryz.prog fi] (ca : List Value) (F : Sp.Rf → Bool) (l : List Sp.Rf) (hl : l.length ≤ 1000000000) (I : Imm) (a : Option Addr) (cp : Nat) (hr : RowI I 61 2 (.slice a l.length cp) l.length (l.flatMap encRf))
    (hF : ∀ I', Le I I' → ∀ x, CalM Tryz.prog fi (.agg (encRf x).toArray :: ca).toArray I' [] (fun v _ H' => v = .bool (F x) ∧ H' = [])) :
    CalM Tryz.prog 109 #[.slice a l.length cp, .func (.func fi) #[] ca.toArray] I [] (fun v _ H' => v = .bool (l.any F) ∧ H' = []) := by
  refine CalM.of fun w E hm => enter (N := 9) Tryz.func109 rfl [(0, .slice a l.length cp), (1, .func (.func fi) #[] ca.toArray)] args2 rfl ?_
  have hc := n_idxRef fi ca F l hl I a cp hr hF
  have hany : l.any F = decide (0 ≤ (match l.findIdx? F with | some j => (j : Int) | none => -1)) := by
    cases h : l.findIdx? F with
    | some j =>
      obtain ⟨hj, e, _⟩ := List.findIdx?_eq_some_iff_getElem.1 h
      rw [List.any_eq_true.2 ⟨l[j], List.getElem_mem hj, e⟩]
      exact (decide_eq_true (show (0 : Int) ≤ (j : Int) by omega)).symm
    | none =>
      rw [List.findIdx?_eq_none_iff] at h
      rw [List.any_eq_false.2 (fun x hx => by rw [h x hx]; simp)]
      rfl
  rw [hany]
  generalize (match l.findIdx? F with | some j => (j : Int) | none => -1) = z at hc
  repeat' (first|(refine m_call (d:=7) hm (hc:=hc) (k:=?_); clear hm; rintro _ I4 _ _ ⟨rfl, rfl⟩ hle hm; have hleI4 := hle; try simp only [setn] at hm)|refine op_move (k:=?_)|refine op_assign (k:=?_)|refine op_geq (k:=?_)|refine wl_nil ?_|refine at_then_normal ?_|refine wc_seq ?_|refine wc_region ?_|refine wc_ret ?_|refine at_ret1 (h:=?_))
  exact ⟨I4, [], ⟨rfl, rfl⟩, hm.left (H := [])⟩
end Go.Proofs.YthmdffgiockcbaaGreatDoor
end
section
namespace Go.Sp
theorem parN_n : ∀ (l : List Par) (sc : List Lc) (s : NW), s.n ≤ (parN l sc s).2.n ∧ (parN l sc s).2.n ≤ s.n + l.length ∧ sc.length ≤ (parN l sc s).1.length ∧ (parN l sc s).1.length ≤ sc.length + l.length
  | [], sc, s => by rw [parN]; exact ⟨Nat.le_refl _, by simp, Nat.le_refl _, by simp⟩
  | x :: l, sc, s => by
    rw [parN, List.length_cons]
    have h1 := mkN_n x.name x.at_ sc s
    have h2 := parN_n l (mkN x.name x.at_ sc s).1 (mkN x.name x.at_ sc s).2
    omega
theorem sndStep_n (its : List Itm) (b : Int) (dn : List Rf) (c : Rf) (s : NW) : s.n ≤ (sndStep its b dn c s).n ∧ (sndStep its b dn c s).n ≤ s.n + 2 := by
  have h1 := itmN_n its b 1 c.at_ c.name s
  rw [sndStep]
  split
  · rw [tell_n]; omega
  · omega
theorem sndN_n (its : List Itm) (b : Int) : ∀ (l dn : List Rf) (s : NW), s.n ≤ (sndN its b dn l s).n ∧ (sndN its b dn l s).n ≤ s.n + 2 * l.length
  | [], dn, s => by rw [sndN]; simp
  | x :: l, dn, s => by
    rw [sndN, List.length_cons]
    have h1 := sndStep_n its b dn x s
    have h2 := sndN_n its b l (dn ++ [x]) (sndStep its b dn x s)
    omega
theorem parN_sc {q : List UInt8} : ∀ (l : List Par), (∀ x ∈ l, stands q x.at_ x.name) → ∀ {sc : List Lc}, scOk q sc → ∀ (s : NW), scOk q (parN l sc s).1
  | [], _, sc, hsc, s => by rw [parN]; exact hsc
  | x :: l, h, sc, hsc, s => by
    rw [parN]
    refine parN_sc l (fun y hy => h y (List.mem_cons_of_mem _ hy)) ?_ _
    rw [mkN]
    split
    · exact hsc
    · rename_i hn; exact scOk_snoc hsc hn (h x List.mem_cons_self)
end Go.Sp
namespace Go.Proofs.YthmdffgiockcbaaGreatDoor
open Go.Fw
theorem n_refC (I : Imm) (b : Nat) (c : Sp.Rf) (hb : PtrI I b 0 61 (encRf c)) (x : Sp.Rf) :
    CalM Tryz.prog 110 #[.agg (encRf x).toArray, ptr b] I [] (fun v _ H' => v = .bool (decide (x.name = c.name)) ∧ H' = []) := by
  refine CalM.of fun w E hm => enter (N := 9) Tryz.func110 rfl [(0, .agg (encRf x).toArray), (1, ptr b)] args2 rfl ?_
  repeat' (first|(refine m_box (d:=2) hm (k:=?_); clear hm; intro b2 _ hm)|refine m_load1 hm (k:=?_)|refine i_load1 hm (k:=?_)|refine op_assign (k:=?_)|refine op_eql_str (k:=?_)|refine op_fieldAddr (k:=?_)|refine wl_nil ?_|refine at_then_normal ?_|refine wc_seq ?_|refine wc_region ?_|refine wc_ret ?_|refine at_ret1 (h:=?_))
  exact ⟨I, [], ⟨rfl, rfl⟩, hm.left (H := [])⟩
end Go.Proofs.YthmdffgiockcbaaGreatDoor
end
section
namespace Go.Proofs.YthmdffgiockcbaaGreatDoor
open Go.Fw
section
variable {src : List UInt8} {p : Nat} {q : List UInt8} {its : List Sp.Itm} {it : Sp.Itm} {bc bf : Nat} {a : Option Addr} {cp : Nat} {xs : List Value} {pi : Value}
theorem rfRow_take (l : List Sp.Rf) (n : Nat) : (l.flatMap encRf).take (n * 2) = (l.take n).flatMap encRf := by
  induction l generalizing n with
  | nil => simp
  | cons x l ih =>
    cases n with
    | zero => simp
    | succ n =>
      rw [List.flatMap_cons, List.take_succ_cons, List.flatMap_cons, show (n + 1) * 2 = 2 + n * 2 by omega, List.take_append, List.take_of_length_le (by show 2 ≤ 2 + n * 2; omega), show 2 + n * 2 - (encRf x).length = n * 2 by (show 2 + n * 2 - 2 = n * 2; omega), ih]
theorem n_itemA {I : Imm} {sc : List Sp.Lc} {s : Sp.NW} {sa : Option Addr} {sp : Nat} {da : Option Addr} {dp : Nat} {ua : Option Addr} {up : Nat} (hC : NC I src p q its it bf a cp xs pi) (k : Int) (f : Nat) (n : List UInt8) (hst : Sp.stands q f n) (hd : s.n ≤ 1000000000) :
    CalM Tryz.prog 108 #[ptr bc, .int .i64 k, nt f, str n] I (NSt bc bf pi sc sa sp s da dp ua up)
      (fun _ _ H' => ∃ sa sp da dp ua up, H' = NSt bc bf pi sc sa sp (Sp.itmN its p k f n s) da dp ua up) := by
  cases hf : Sp.findIt its k n with
  | none => exact (n_item0 hC k f n hst hd hf).mono (fun _ _ _ _ h => h.2)
  | some j => exact (n_item1 hC k f n hst hd hf).mono (fun _ _ _ _ h => h.2)
set_option maxHeartbeats 32000000 in
theorem n_fn {I : Imm} {s : Sp.NW} {sa : Option Addr} {sp : Nat} {da : Option Addr} {dp : Nat} {ua : Option Addr} {up : Nat} (hC : NC I src p q its it bf a cp xs pi) (hsm : it.small) (hcn : Sp.stmsCnt it.body ≤ 400000000) (hd : s.n ≤ 1000) :
    CalM Tryz.prog 83 #[ptr bc] I (NSt bc bf pi [] sa sp s da dp ua up) (ToN bc bf pi (Sp.parN it.params [] s).1 (Sp.fnN its it s) (.tuple #[])) := by
  refine CalM.of fun w E hm => enter (N := 76) Tryz.func83 rfl [(0, ptr bc)] args1 rfl ?_
  have hlen := hC.len
  have hst := hC.st
  rw [Sp.fnN, hst.at_]
  obtain ⟨bi, oi, tci, ci, rfl, hpi, hati⟩ := hC.item
  obtain ⟨pa, pc, sa9, sc9, ba, bc9, da9, dc9, xb, rfl, hpar, hsnd, hrb, hbs, _⟩ := hati
  have hsp := hsm.params
  have hss := hsm.sends
  have hsb := hsm.body
  repeat' (first|refine m_load1 hm (k:=?_)|refine i_load1 hm (k:=?_)|refine op_move (k:=?_)|refine op_len_slice (k:=?_)|refine op_nilCheck (k:=?_)|refine op_fieldAddr (k:=?_)|refine wl_nil ?_|refine at_then_normal ?_|refine wc_seq ?_|refine wc_region ?_|refine wc_block ?_)
  refine wc_loop (fun x : NX => [(0, ptr bc), (12, .slice pa it.params.length pc), (13, nt it.params.length), (14, nt x.k)])
    (fun x w' => Mem E x.I (NSt bc bf (.pointer (some ⟨bi, oi, none⟩)) (Sp.parN (it.params.take x.k) [] s).1 x.sa x.sp (Sp.parN (it.params.take x.k) [] s).2 x.da x.dp x.ua x.up) w' ∧ Le I x.I ∧ x.k ≤ it.params.length) (fun x => it.params.length - x.k) ⟨0, I, sa, sp, da, dp, ua, up⟩
    (by exact ⟨rfl, rfl, rfl, rfl, trivial⟩) ⟨by dsimp only; rw [List.take_zero, Sp.parN]; exact hm, Le.refl _, Nat.zero_le _⟩ ?_
  clear hm
  rintro ⟨k, I1, sa1, sp1, da1, dp1, ua1, up1⟩ w1 ⟨hm, hle1, hk⟩
  dsimp only at hm hle1 hk ⊢
  by_cases hlt : k < it.params.length
  · have hg : it.params[k]? = some it.params[k] := List.getElem?_eq_getElem hlt
    have hpst := (hst.sub _ _ (hst.params _ (List.getElem_mem hlt))).1
    have hstp := Sp.parN_step hg [] s
    have hpr := hpar.le hle1
    have hgk : it.params[((k : Nat) : Int).toNat]? = some it.params[k] := hg
    generalize it.params[k] = y at hg hpst hstp hgk
    have hnn := Sp.parN_n (it.params.take k) [] s
    rw [List.length_take] at hnn
    generalize Sp.parN (it.params.take k) [] s = r at hm hstp hnn
    have hc := fun (J : Imm) => n_make (I := J) (bc := bc) (bf := bf) (pi := .pointer (some ⟨bi, oi, none⟩)) (sc := r.1) (sa := sa1) (sp := sp1) (s := r.2) (da := da1) (dp := dp1) (ua := ua1) (up := up1) y.name y.at_ (by omega) (by dsimp only [List.length_nil] at hnn; omega) (by omega)
    generalize Sp.mkN y.name y.at_ r.1 r.2 = z at hc hstp
    repeat' (first|(refine i_indexFlat (d:=16) (enc:=encPar) (z:=y) (hr:=hpr) (he:=fun _ => rfl) (hz:=hgk) (k:=?_); intro bt ot hpt)|(refine m_call (d:=23) hm (hp:=pm4_1) (hc:=hc I1) (k:=?_); clear hm; rintro _ I2 _ _ ⟨rfl, sa2, sp2, da2, dp2, ua2, up2, rfl⟩ hleI2 hm; try simp only [setn] at hm)|(refine m_varS (d:=3) hm (k:=?_); clear hm; intro b3 _ hm)|refine m_load1 hm (k:=?_)|refine i_loadN hm (k:=?_)|refine op_move (k:=?_)|refine op_lss (k:=?_)|refine op_add (k:=?_)|refine op_fieldAddr (k:=?_)|refine wl_nil ?_|refine at_then_normal ?_|refine at_block_normal ?_|refine wc_seq ?_|refine wc_region ?_|refine wc_block ?_|refine wc_skip ?_|(refine wc_cond_dec (ht:=fun _ => ?_) (hf:=fun _ => ?_)<;> (try first | contradiction | (exfalso; omega))))
    all_goals try (exfalso; omega)
    exact at_round (⟨k + 1, I2, sa2, sp2, da2, dp2, ua2, up2⟩ : NX) (by exact ⟨rfl, rfl, rfl, rfl, trivial⟩) ⟨by dsimp only; rw [hstp]; exact hm.left, hle1.trans hleI2, by dsimp only; omega⟩ (by dsimp only; omega)
  obtain rfl : k = it.params.length := by omega
  rw [List.take_length] at hm
  have hnp := Sp.parN_n it.params [] s
  have hsc1 := Sp.parN_sc it.params hst.params Sp.scOk_nil s
  generalize Sp.parN it.params [] s = r at hm hnp hsc1 ⊢
  have hpi1 := hpi.le hle1
  repeat' (first|refine m_load1 hm (k:=?_)|refine i_load1 hm (k:=?_)|refine op_move (k:=?_)|refine op_lss (k:=?_)|refine op_len_slice (k:=?_)|refine op_nilCheck (k:=?_)|refine op_fieldAddr (k:=?_)|refine wl_nil ?_|refine at_then_normal ?_|refine at_then_exit ?_|refine at_block_exit ?_|refine wc_seq ?_|refine wc_region ?_|refine wc_block ?_|refine wc_exit ?_|(refine wc_cond_dec (ht:=fun _ => ?_) (hf:=fun _ => ?_)<;> (try first | contradiction | (exfalso; omega))))
  all_goals try (exfalso; omega)
  refine wc_loop (fun x : NX => [(0, ptr bc), (31, .slice sa9 it.sends.length sc9), (32, nt it.sends.length), (33, nt x.k)])
    (fun x w' => Mem E x.I (NSt bc bf (.pointer (some ⟨bi, oi, none⟩)) r.1 x.sa x.sp (Sp.sndN its p [] (it.sends.take x.k) r.2) x.da x.dp x.ua x.up) w' ∧ Le I x.I ∧ x.k ≤ it.sends.length) (fun x => it.sends.length - x.k) ⟨0, I1, sa1, sp1, da1, dp1, ua1, up1⟩
    (by exact ⟨rfl, rfl, rfl, rfl, trivial⟩) ⟨by dsimp only; rw [List.take_zero, Sp.sndN]; exact hm, hle1, Nat.zero_le _⟩ ?_
  clear hm hpi1 hle1 hlt hk
  rintro ⟨k, I2, sa2, sp2, da2, dp2, ua2, up2⟩ w2 ⟨hm, hle2, hk⟩
  dsimp only at hm hle2 hk ⊢
  have hC2 := hC.le hle2
  have hpi2 := hpi.le hle2
  by_cases hlt : k < it.sends.length
  · have hg : it.sends[k]? = some it.sends[k] := List.getElem?_eq_getElem hlt
    have hs0 := hst.sends _ (List.getElem_mem hlt)
    have hpst := (hst.sub _ _ hs0).1
    have hstp := Sp.sndN_step its p hg r.2
    have hpr := hsnd.le hle2
    have hgk : it.sends[((k : Nat) : Int).toNat]? = some it.sends[k] := hg
    generalize it.sends[k] = y at hg hpst hstp hgk hs0
    have hnn := Sp.sndN_n its p (it.sends.take k) [] r.2
    rw [List.length_take] at hnn
    generalize Sp.sndN its p [] (it.sends.take k) r.2 = s1 at hm hstp hnn
    have hc := fun (J : Imm) (m : Le I2 J) => n_itemA (I := J) (bc := bc) (sc := r.1) (s := s1) (sa := sa2) (sp := sp2) (da := da2) (dp := dp2) (ua := ua2) (up := up2) (hC2.le m) 1 y.at_ y.name hs0 (by omega)
    have hin := Sp.itmN_n its p 1 y.at_ y.name s1
    rw [Sp.sndStep] at hstp
    generalize Sp.itmN its p 1 y.at_ y.name s1 = s2 at hc hstp hin
    have htl : (it.sends.take k).length = k := by rw [List.length_take]; omega
    repeat' (first|refine wc_hold 9 ?_|(refine i_indexFlat (d:=36) (enc:=encRf) (z:=y) (hr:=hpr) (he:=fun _ => rfl) (hz:=hgk) (k:=?_); intro bt ot hpt)|(refine m_call (d:=43) hm (hp:=pm4_1) (hc:=hc I2 (Le.refl _)) (k:=?_); clear hm; rintro _ I3 _ _ ⟨sa3, sp3, da3, dp3, ua3, up3, rfl⟩ hleI3 hm; try simp only [setn] at hm)|(refine m_allocS (d:=5) hm (k:=?_); clear hm; intro b5 _ hm)|refine m_load1 hm (k:=?_)|refine i_loadN hm (k:=?_)|(refine m_storeAll hm (k:=?_); clear hm; intro _ hm; try simp only [setn] at hm)|refine op_move (k:=?_)|refine op_assign (k:=?_)|refine op_lss (k:=?_)|refine op_fieldAddr (k:=?_)|refine wl_nil ?_|refine at_then_normal ?_|refine wc_seq ?_|refine wc_region ?_|refine wc_block ?_|refine wc_skip ?_|(refine wc_cond_dec (ht:=fun _ => ?_) (hf:=fun _ => ?_)<;> (try first | contradiction | (exfalso; omega))))
    all_goals try (exfalso; omega)
    obtain ⟨I4, hle4, hm4, hpn⟩ := (hm.front 4 rfl).freezeO
    clear hm
    have hm := hm4
    clear hm4
    have hpi4 := (hpi2.le hleI3).le hle4
    have hpr4 := (hpr.le hleI3).le hle4
    have hct := n_contains 110 [ptr b5] (fun x => decide (x.name = y.name)) (it.sends.take k) (by omega) I4 sa9 sc9 (by rw [htl, ← rfRow_take]; exact hpr4.take (by omega)) (fun I' m x => n_refC I' b5 y (hpn.le m) x)
    rw [htl] at hct
    refine ⟨?_⟩
    by_cases hn : y.name ≠ []
    · cases hb : (it.sends.take k).any (fun x => decide (x.name = y.name)) with
      | true =>
        rw [hb] at hct
        rw [if_pos ⟨hn, hb⟩] at hstp
        have hT := fun (J : Imm) => n_tell (I := J) (bc := bc) (bf := bf) (pi := .pointer (some ⟨bi, oi, none⟩)) (sc := r.1) (sa := sa3) (sp := sp3) (s := s2) (da := da3) (dp := dp3) (ua := ua3) (up := up3) y.name y.at_ 7 (by omega) (by omega)
        repeat' (first|(refine i_sliceTo (d:=56) hpr4 (k:=?_); intro _)|(refine m_call (d:=58) hm (hp:=pm0) (hc:=hct) (k:=?_); clear hm; rintro _ I5 _ _ ⟨rfl, rfl⟩ hleI5 hm; try simp only [setn] at hm; have hpn5 := hpn.le hleI5)|(refine m_call (d:=65) hm (hp:=pm4_0) (hc:=hT I5) (k:=?_); clear hm; rintro _ I6 _ _ ⟨rfl, sa4, sp4, da4, dp4, ua4, up4, rfl⟩ hleI6 hm; try simp only [setn] at hm)|refine m_load1 hm (k:=?_)|refine i_load1 hm (k:=?_)|refine op_move (k:=?_)|refine op_pick_true (k:=?_)|refine op_neq_str (k:=?_)|refine op_nilCheck (k:=?_)|refine op_makeFunc (k:=?_)|refine op_add (k:=?_)|refine op_fieldAddr (k:=?_)|(refine wl_split_dec (h1:=fun _ => ?_) (h0:=fun _ => ?_)<;> (try first | contradiction | (exfalso; omega)))|refine wl_nil ?_|refine at_then_normal ?_|refine at_block_normal ?_|refine wc_region ?_|refine wc_cond_true (ht:=?_))
        all_goals try (exfalso; first | omega | contradiction)
        exact at_round (⟨k + 1, I6, sa4, sp4, da4, dp4, ua4, up4⟩ : NX) (by exact ⟨rfl, rfl, rfl, rfl, trivial⟩) ⟨by dsimp only; rw [hstp]; exact hm, (((hle2.trans hleI3).trans hle4).trans hleI5).trans hleI6, by dsimp only; omega⟩ (by dsimp only; omega)
      | false =>
        rw [hb] at hct
        rw [if_neg (fun h => by rw [hb] at h; exact absurd h.2 (by decide))] at hstp
        repeat' (first|(refine i_sliceTo (d:=56) hpr4 (k:=?_); intro _)|(refine m_call (d:=58) hm (hp:=pm0) (hc:=hct) (k:=?_); clear hm; rintro _ I5 _ _ ⟨rfl, rfl⟩ hleI5 hm; try simp only [setn] at hm)|refine m_load1 hm (k:=?_)|refine i_load1 hm (k:=?_)|refine op_move (k:=?_)|refine op_pick_true (k:=?_)|refine op_neq_str (k:=?_)|refine op_nilCheck (k:=?_)|refine op_makeFunc (k:=?_)|refine op_add (k:=?_)|refine op_fieldAddr (k:=?_)|(refine wl_split_dec (h1:=fun _ => ?_) (h0:=fun _ => ?_)<;> (try first | contradiction | (exfalso; omega)))|refine wl_nil ?_|refine at_then_normal ?_|refine at_block_normal ?_|refine wc_region ?_|refine wc_skip ?_|refine wc_cond_false (hf:=?_))
        all_goals try (exfalso; first | omega | contradiction)
        exact at_round (⟨k + 1, I5, sa3, sp3, da3, dp3, ua3, up3⟩ : NX) (by exact ⟨rfl, rfl, rfl, rfl, trivial⟩) ⟨by dsimp only; rw [hstp]; exact hm, ((hle2.trans hleI3).trans hle4).trans hleI5, by dsimp only; omega⟩ (by dsimp only; omega)
    · rw [if_neg (fun h => hn h.1)] at hstp
      repeat' (first|refine i_load1 hm (k:=?_)|refine op_move (k:=?_)|refine op_pick_false (k:=?_)|refine op_neq_str (k:=?_)|refine op_add (k:=?_)|refine op_fieldAddr (k:=?_)|refine wl_skip (k:=?_)|(refine wl_split_dec (h1:=fun _ => ?_) (h0:=fun _ => ?_)<;> (try first | contradiction | (exfalso; omega)))|refine wl_nil ?_|refine at_then_normal ?_|refine at_block_normal ?_|refine wc_region ?_|refine wc_skip ?_|refine wc_cond_false (hf:=?_))
      all_goals try (exfalso; first | omega | contradiction)
      exact at_round (⟨k + 1, I4, sa3, sp3, da3, dp3, ua3, up3⟩ : NX) (by exact ⟨rfl, rfl, rfl, rfl, trivial⟩) ⟨by dsimp only; rw [hstp]; exact hm, (hle2.trans hleI3).trans hle4, by dsimp only; omega⟩ (by dsimp only; omega)
  · obtain rfl : k = it.sends.length := by omega
    rw [List.take_length] at hm
    have hnn := Sp.sndN_n its p it.sends [] r.2
    generalize Sp.sndN its p [] it.sends r.2 = s1 at hm hnn ⊢
    have hblk := n_blk (its := its) (it := it) (bc := bc) (bf := bf) (a := a) (cp := cp) (xs := xs) (src := src) (p := p) (q := q) (pi := .pointer (some ⟨bi, oi, none⟩)) _ it.body (Nat.le_refl _) (by omega) hsm.stms hst.body I2 ba bc9 xb r.1 s1 sa2 sp2 da2 dp2 ua2 up2 hsc1 (by dsimp only [List.length_nil] at hnp; omega) (by omega) hC2 (hrb.le hle2) (StsAt.le hle2 _ _ hbs)
    repeat' (first|(refine m_call (d:=75) hm (hp:=pm4_0) (hc:=hblk) (k:=?_); clear hm; rintro _ I5 _ _ ⟨rfl, sa4, sp4, da4, dp4, ua4, up4, rfl⟩ hleI5 hm; try simp only [setn] at hm)|refine m_load1 hm (k:=?_)|refine i_load1 hm (k:=?_)|refine op_move (k:=?_)|refine op_lss (k:=?_)|refine op_nilCheck (k:=?_)|refine op_fieldAddr (k:=?_)|refine wl_nil ?_|refine at_then_normal ?_|refine at_then_exit ?_|refine at_block_exit ?_|refine wc_seq ?_|refine wc_region ?_|refine wc_exit ?_|refine at_end0 (h:=?_)|(refine wc_cond_dec (ht:=fun _ => ?_) (hf:=fun _ => ?_)<;> (try first | contradiction | (exfalso; omega))))
    all_goals try (exfalso; omega)
    exact ⟨I5, _, ⟨rfl, _, _, _, _, _, _, rfl⟩, hm⟩
end
end Go.Proofs.YthmdffgiockcbaaGreatDoor
end
