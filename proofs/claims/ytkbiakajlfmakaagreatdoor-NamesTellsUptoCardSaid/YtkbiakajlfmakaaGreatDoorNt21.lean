/- Own work: texts NsC, FwCut, NsD, FwCut2, one behind the other. -/
import Derived.Test.YtkbiakajlfmakaaGreatDoorNt20
section
namespace Go.Sp
def headN (its : List Itm) (b : Int) (sc : List Lc) (e : Ex) (s : NW) : NW := if e.kind = 2 then locN b sc e.fr e.name s else if e.kind = 4 then callN its b e.fr e.name e.args.length s else s
theorem exN_eq (its : List Itm) (b : Int) (sc : List Lc) (e : Ex) (s : NW) : exN its b sc e s = exsN its b sc e.args (headN its b sc e s) := by cases e; rw [exN, headN]; rfl
theorem headN_n (its : List Itm) (b : Int) (sc : List Lc) (e : Ex) (s : NW) : s.n ≤ (headN its b sc e s).n ∧ (headN its b sc e s).n ≤ s.n + 2 := by
  have h1 := locN_n b sc e.fr e.name s
  have h2 := callN_n its b e.fr e.name e.args.length s
  rw [headN]
  split
  · omega
  · split <;> omega
theorem cnt_args (e : Ex) : e.cnt = exsCnt e.args + 1 := by cases e; rw [Ex.cnt]; rfl
theorem exsCnt_take {l : List Ex} {k : Nat} {y : Ex} (h : l[k]? = some y) : exsCnt (l.take k) + y.cnt ≤ exsCnt l := by
  have e : l = l.take (k + 1) ++ l.drop (k + 1) := (List.take_append_drop _ _).symm
  have h2 := congrArg exsCnt e
  rw [exsCnt_app, take_succ_get h, exsCnt_app, exsCnt_one] at h2
  omega
theorem callN_none {its : List Itm} {b : Int} {a : Nat} {n : List UInt8} {m : Nat} {s : NW} (h : findIt its 2 n = none) : callN its b a n m s = itmN its b 2 a n s := by rw [callN, h]
theorem callN_some {its : List Itm} {b : Int} {a : Nat} {n : List UInt8} {m : Nat} {s : NW} {j : Nat} (h : findIt its 2 n = some j) : callN its b a n m s = if (itNo its j).params.length ≠ m then (itmN its b 2 a n s).tell a 5 n else itmN its b 2 a n s := by rw [callN, h]
end Go.Sp
namespace Go.Fw
theorem wc_cut_regN {P : Program} {N : Nat} {ds : List Deferred} {Q : Exit → Act → World → Prop} {l : Log} {w : World} (id : Nat) {ops : Array Oper} {dr : Bool} {x y : Code} {α : Type} (L : α → Log) (J : α → World → Prop)
    (h : WHold (WC P N ds (.seq (.region id ops dr) x) (Exit.then (fun a w => ∃ x, Fits N ds (L x) a ∧ J x w) Q) l w))
    (k : ∀ x w, J x w → WC P N ds y Q (L x) w) : WC P N ds (.seq (.seq (.region id ops dr) x) y) Q l w := wc_cut_reg id L J h.out k
end Go.Fw
namespace Go.Proofs.YtkbiakajlfmakaaGreatDoor
open Go.Fw
structure NX where
  k : Nat
  I : Imm
  sa : Option Addr
  sp : Nat
  da : Option Addr
  dp : Nat
  ua : Option Addr
  up : Nat
/-- what is shown of an expression's names. -/
def NExOk (src : List UInt8) (p : Nat) (q : List UInt8) (its : List Sp.Itm) (it : Sp.Itm) (bc bf : Nat) (a : Option Addr) (cp : Nat) (xs : List Value) (pi : Value) (sc : List Sp.Lc) (e : Sp.Ex) : Prop :=
  ∀ (I : Imm) (b o tc : Nat) (ea : Option Addr) (ec : Nat) (ys : List Value) (s : Sp.NW) (sa : Option Addr) (sp : Nat) (da : Option Addr) (dp : Nat) (ua : Option Addr) (up : Nat), s.n + 2 * e.cnt ≤ 900000000 → NC I src p q its it bf a cp xs pi →
    PtrI I b o tc (exCells e ea ec) → RowI I 100 6 (.slice ea e.args.length ec) e.args.length ys → ExsAt I e.args ys →
    CalM Tryz.prog 93 #[ptr bc, .pointer (some ⟨b, o, none⟩)] I (NSt bc bf pi sc sa sp s da dp ua up) (ToN bc bf pi sc (Sp.exN its p sc e s) (.tuple #[]))
section
variable {src : List UInt8} {p : Nat} {q : List UInt8} {its : List Sp.Itm} {it : Sp.Itm} {bc bf : Nat} {a : Option Addr} {cp : Nat} {xs : List Value} {pi : Value} {sc : List Sp.Lc}
set_option maxHeartbeats 16000000 in
theorem n_expr (hs : sc.length ≤ 1000000000) (hsc : Sp.scOk q sc) : ∀ (n : Nat) (e : Sp.Ex), SizeOf.sizeOf e ≤ n → e.small → e.all (Sp.stE q) → NExOk src p q its it bc bf a cp xs pi sc e := by
  intro n
  induction n with
  | zero => intro e h; cases e; simp at h
  | succ n ih =>
  intro e hsz hsm hall I b o tc ea ec ys s sa sp da dp ua up hn hC hp hr hx
  obtain ⟨hal, hasm⟩ := Sp.small_args hsm
  obtain ⟨hst, haall⟩ := Sp.Ex.all_node hall
  have hcnt := Sp.cnt_args e
  refine CalM.of fun w E hm => enter (N := 76) Tryz.func93 rfl [(0, ptr bc), (1, .pointer (some ⟨b, o, none⟩))] args2 rfl ?_
  have hhd := Sp.headN_n its p sc e s
  rw [Sp.exN_eq]
  have hhr : Sp.headN its p sc e s = if e.kind = 2 then Sp.locN p sc e.fr e.name s else if e.kind = 4 then Sp.callN its p e.fr e.name e.args.length s else s := rfl
  generalize Sp.headN its p sc e s = r at hhr hhd ⊢
  repeat' (first
  | (refine wc_cut_regN 0 (fun _ : NX => [(0, ptr bc), (1, .pointer (some ⟨b, o, none⟩))]) (fun x w' => Mem E x.I (NSt bc bf pi sc x.sa x.sp r x.da x.dp x.ua x.up) w' ∧ Le I x.I) ?_ ?_))
  · refine ⟨?_⟩
    by_cases k2 : e.kind = 2
    · rw [if_pos k2] at hhr
      subst hhr
      have hc := fun (J : Imm) (m : Le I J) => n_local (I := J) (bc := bc) (sc := sc) (sa := sa) (sp := sp) (s := s) (da := da) (dp := dp) (ua := ua) (up := up) (hC.le m) e.fr e.name (hst (.inl k2)) hsc hs (by omega)
      repeat' (first
      | (refine wc_quiet_tail (id:=2) 9 (h:=?_))
      | (refine m_call (d:=21) hm (hp:=pm4_0) (hc:=hc I (Le.refl _)) (k:=?_); clear hm; rintro _ I2 _ _ ⟨rfl, sa2, sp2, da2, dp2, ua2, up2, rfl⟩ hleI2 hm; try simp only [setn] at hm)
      | refine i_load1 hm (k:=?_)
      | refine iq_load1 hm (k:=?_)
      | refine op_move (k:=?_)
      | refine op_assign (k:=?_)
      | refine op_eql (k:=?_)
      | refine op_nilCheck (k:=?_)
      | refine op_fieldAddr (k:=?_)
      | refine wl_nil ?_
      | refine at_then_normal ?_
      | refine at_block_normal ?_
      | refine wc_seq ?_
      | refine wc_region ?_
      | refine wc_block ?_
      | (refine wq_nil_tail ?_; intro _ hkq; replace hm := hm.kept0 hkq; clear hkq)
      | (refine wc_cond_dec (ht:=fun _ => ?_) (hf:=fun _ => ?_)<;> (try first | contradiction | (exfalso; omega)))
      | refine q_move (k:=?_)
      | refine q_nilCheck (k:=?_)
      | refine q_fieldAddr (k:=?_))
      all_goals try (exfalso; omega)
      exact at_cut (⟨0, I2, sa2, sp2, da2, dp2, ua2, up2⟩ : NX) (by exact ⟨rfl, rfl, trivial⟩) ⟨hm, hleI2⟩
    rw [if_neg k2] at hhr
    by_cases k4 : e.kind = 4
    · rw [if_pos k4] at hhr
      have hin := Sp.itmN_n its p 2 e.fr e.name s
      have hbd := (hC.st.sub _ _ (hst (.inr k4))).1
      have hlen := hC.len
      cases hf : Sp.findIt its 2 e.name with
      | none =>
        rw [Sp.callN_none hf] at hhr
        subst hhr
        have hc := fun (J : Imm) (m : Le I J) => n_item0 (I := J) (bc := bc) (sc := sc) (sa := sa) (sp := sp) (s := s) (da := da) (dp := dp) (ua := ua) (up := up) (hC.le m) 2 e.fr e.name (hst (.inr k4)) (by omega) hf
        repeat' (first
        | (refine wc_quiet_tail (id:=4) 9 (h:=?_))
        | (refine m_call (d:=33) hm (hp:=pm4_0) (hc:=hc I (Le.refl _)) (k:=?_); clear hm; rintro _ I2 _ _ ⟨rfl, sa2, sp2, da2, dp2, ua2, up2, rfl⟩ hleI2 hm; try simp only [setn] at hm)
        | (refine q_neq_nilptr (e:=59) (k:=?_))
        | refine i_load1 hm (k:=?_)
        | refine iq_load1 hm (k:=?_)
        | refine op_move (k:=?_)
        | refine op_assign (k:=?_)
        | refine op_eql (k:=?_)
        | refine op_nilCheck (k:=?_)
        | refine op_fieldAddr (k:=?_)
        | refine wl_nil ?_
        | refine at_then_normal ?_
        | refine at_block_normal ?_
        | refine wc_seq ?_
        | refine wc_region ?_
        | refine wc_block ?_
        | refine wc_skip ?_
        | refine wc_quiet (h:=?_)
        | (refine wq_nil ?_; intro _ hkq; replace hm := hm.kept0 hkq; clear hkq)
        | (refine wq_nil_tail ?_; intro _ hkq; replace hm := hm.kept0 hkq; clear hkq)
        | refine wc_cond_false (hf:=?_)
        | (refine wc_cond_dec (ht:=fun _ => ?_) (hf:=fun _ => ?_)<;> (try first | contradiction | (exfalso; omega)))
        | refine q_move (k:=?_)
        | refine q_pick_false (k:=?_)
        | refine q_nilCheck (k:=?_)
        | refine q_fieldAddr (k:=?_)
        | refine wq_skip (k:=?_))
        all_goals try (exfalso; omega)
        exact at_cut (⟨0, I2, sa2, sp2, da2, dp2, ua2, up2⟩ : NX) (by exact ⟨rfl, rfl, trivial⟩) ⟨hm, hleI2⟩
      | some j =>
        rw [Sp.callN_some hf] at hhr
        have hc := fun (J : Imm) (m : Le I J) => n_item1 (I := J) (bc := bc) (sc := sc) (sa := sa) (sp := sp) (s := s) (da := da) (dp := dp) (ua := ua) (up := up) (hC.le m) 2 e.fr e.name (hst (.inr k4)) (by omega) hf
        generalize Sp.itmN its p 2 e.fr e.name s = s1 at hc hhr hin
        by_cases hpl : (Sp.itNo its j).params.length ≠ e.args.length
        · rw [if_pos hpl] at hhr
          subst hhr
          have hT := fun (J : Imm) (sa : Option Addr) (sp : Nat) (da : Option Addr) (dp : Nat) (ua : Option Addr) (up : Nat) => n_tell (I := J) (bc := bc) (bf := bf) (pi := pi) (sc := sc) (sa := sa) (sp := sp) (s := s1) (da := da) (dp := dp) (ua := ua) (up := up) e.name e.fr 5 (by omega) (by omega)
          repeat' (first
          | (refine wc_quiet_tail (id:=4) 9 (h:=?_))
          | (refine m_call (d:=33) hm (hp:=pm4_0) (hc:=hc I (Le.refl _)) (k:=?_); clear hm; rintro _ I2 _ _ ⟨⟨bj, oj, cj, rfl, hpj, hatj⟩, sa2, sp2, da2, dp2, ua2, up2, rfl⟩ hleI2 hm; try simp only [setn] at hm; have hp2 := hp.le hleI2; obtain ⟨pa, pc, sa9, sc9, ba, bc9, da9, dc9, xb, rfl, _⟩ := hatj)
          | (refine q_neq_nilptr (e:=59) (k:=?_))
          | (refine wc_quiet_tail (id:=6) 9 (h:=?_))
          | (refine m_call (d:=58) hm (hp:=pm4_0) (hc:=hT I2 sa2 sp2 da2 dp2 ua2 up2) (k:=?_); clear hm; rintro _ I3 _ _ ⟨rfl, sa3, sp3, da3, dp3, ua3, up3, rfl⟩ hleI3 hm; try simp only [setn] at hm)
          | refine i_load1 hm (k:=?_)
          | refine iq_load1 hm (k:=?_)
          | refine op_move (k:=?_)
          | refine op_assign (k:=?_)
          | refine op_eql (k:=?_)
          | refine op_nilCheck (k:=?_)
          | refine op_fieldAddr (k:=?_)
          | refine wl_nil ?_
          | refine at_then_normal ?_
          | refine at_block_normal ?_
          | refine wc_seq ?_
          | refine wc_region ?_
          | refine wc_block ?_
          | refine wc_quiet (h:=?_)
          | (refine wq_nil ?_; intro _ hkq; replace hm := hm.kept0 hkq; clear hkq)
          | (refine wq_nil_tail ?_; intro _ hkq; replace hm := hm.kept0 hkq; clear hkq)
          | (refine wc_cond_dec (ht:=fun _ => ?_) (hf:=fun _ => ?_)<;> (try first | contradiction | (exfalso; omega)))
          | refine q_move (k:=?_)
          | refine q_pick_true (k:=?_)
          | refine q_neq (k:=?_)
          | refine q_len_slice (k:=?_)
          | refine q_nilCheck (k:=?_)
          | refine q_fieldAddr (k:=?_))
          all_goals try (exfalso; omega)
          exact at_cut (⟨0, I3, sa3, sp3, da3, dp3, ua3, up3⟩ : NX) (by exact ⟨rfl, rfl, trivial⟩) ⟨hm, hleI2.trans hleI3⟩
        · rw [if_neg hpl] at hhr
          subst hhr
          repeat' (first
          | (refine wc_quiet_tail (id:=4) 9 (h:=?_))
          | (refine m_call (d:=33) hm (hp:=pm4_0) (hc:=hc I (Le.refl _)) (k:=?_); clear hm; rintro _ I2 _ _ ⟨⟨bj, oj, cj, rfl, hpj, hatj⟩, sa2, sp2, da2, dp2, ua2, up2, rfl⟩ hleI2 hm; try simp only [setn] at hm; have hp2 := hp.le hleI2; obtain ⟨pa, pc, sa9, sc9, ba, bc9, da9, dc9, xb, rfl, _⟩ := hatj)
          | (refine q_neq_nilptr (e:=59) (k:=?_))
          | refine i_load1 hm (k:=?_)
          | refine iq_load1 hm (k:=?_)
          | refine op_move (k:=?_)
          | refine op_assign (k:=?_)
          | refine op_eql (k:=?_)
          | refine op_nilCheck (k:=?_)
          | refine op_fieldAddr (k:=?_)
          | refine wl_nil ?_
          | refine at_then_normal ?_
          | refine at_block_normal ?_
          | refine wc_seq ?_
          | refine wc_region ?_
          | refine wc_block ?_
          | refine wc_skip ?_
          | refine wc_quiet (h:=?_)
          | (refine wq_nil ?_; intro _ hkq; replace hm := hm.kept0 hkq; clear hkq)
          | (refine wq_nil_tail ?_; intro _ hkq; replace hm := hm.kept0 hkq; clear hkq)
          | (refine wc_cond_dec (ht:=fun _ => ?_) (hf:=fun _ => ?_)<;> (try first | contradiction | (exfalso; omega)))
          | refine q_move (k:=?_)
          | refine q_pick_true (k:=?_)
          | refine q_neq (k:=?_)
          | refine q_len_slice (k:=?_)
          | refine q_nilCheck (k:=?_)
          | refine q_fieldAddr (k:=?_))
          all_goals try (exfalso; omega)
          exact at_cut (⟨0, I2, sa2, sp2, da2, dp2, ua2, up2⟩ : NX) (by exact ⟨rfl, rfl, trivial⟩) ⟨hm, hleI2⟩
    · rw [if_neg k4] at hhr
      subst hhr
      repeat' (first
      | refine i_load1 hm (k:=?_)
      | refine op_move (k:=?_)
      | refine op_assign (k:=?_)
      | refine op_eql (k:=?_)
      | refine op_nilCheck (k:=?_)
      | refine op_fieldAddr (k:=?_)
      | refine wl_nil ?_
      | refine at_then_normal ?_
      | refine at_block_normal ?_
      | refine wc_seq ?_
      | refine wc_region ?_
      | refine wc_block ?_
      | refine wc_skip ?_
      | (refine wc_cond_dec (ht:=fun _ => ?_) (hf:=fun _ => ?_)<;> (try first | contradiction | (exfalso; omega))))
      all_goals try (exfalso; omega)
      exact at_cut (⟨0, I, sa, sp, da, dp, ua, up⟩ : NX) (by exact ⟨rfl, rfl, trivial⟩) ⟨hm, Le.refl _⟩
  · clear hm hhr
    rintro ⟨_, I1, sa1, sp1, da1, dp1, ua1, up1⟩ w1 ⟨hm, hle1⟩
    dsimp only at hm hle1 ⊢
    have hp1 := hp.le hle1
    repeat' (first
    | refine i_load1 hm (k:=?_)
    | refine op_move (k:=?_)
    | refine op_len_slice (k:=?_)
    | refine op_nilCheck (k:=?_)
    | refine op_fieldAddr (k:=?_)
    | refine wl_nil ?_
    | refine at_then_normal ?_
    | refine wc_seq ?_
    | refine wc_region ?_
    | refine wc_block ?_)
    all_goals try (exfalso; omega)
    refine wc_loop (fun x : NX => [(0, ptr bc), (1, .pointer (some ⟨b, o, none⟩)), (63, nt e.args.length), (64, nt x.k)])
      (fun x w' => Mem E x.I (NSt bc bf pi sc x.sa x.sp (Sp.exsN its p sc (e.args.take x.k) r) x.da x.dp x.ua x.up) w' ∧ Le I x.I ∧ x.k ≤ e.args.length) (fun x => e.args.length - x.k) ⟨0, I1, sa1, sp1, da1, dp1, ua1, up1⟩
      (by exact ⟨rfl, rfl, rfl, rfl, trivial⟩) ⟨by dsimp only; rw [List.take_zero, Sp.exsN]; exact hm, hle1, Nat.zero_le _⟩ ?_
    clear hm hp1
    rintro ⟨k, I2, sa2, sp2, da2, dp2, ua2, up2⟩ w2 ⟨hm, hle2, hk⟩
    dsimp only at hm hle2 hk ⊢
    have hC2 := hC.le hle2
    have hp2 := hp.le hle2
    have hrow := hr.le hle2
    by_cases hlt : k < e.args.length
    · have hg : e.args[k]? = some e.args[k] := List.getElem?_eq_getElem hlt
      have hsz2 := Sp.size_args (List.getElem_mem hlt)
      have hsm2 := Sp.exsSmall_get hasm hg
      have hal2 := Sp.exsAll_get haall hg
      obtain ⟨ea2, ec2, ys2, hc2, hr2, hx2⟩ := (hx.get hg).out
      generalize e.args[k] = y at hg hsz2 hsm2 hal2 hc2 hr2 hx2
      have hstp := Sp.exsN_step its p sc hg r
      have hcy := Sp.exsCnt_take hg
      have hnn := Sp.exsN_n its p sc (e.args.take k) r
      generalize Sp.exsN its p sc (e.args.take k) r = s1 at hm hstp hnn
      have hcl := fun b o tc (hpt : PtrI I2 b o tc (exCells y ea2 ec2)) => ih y (by omega) hsm2 hal2 I2 b o tc ea2 ec2 ys2 s1 sa2 sp2 da2 dp2 ua2 up2 (by omega) hC2 hpt (hr2.le hle2) (ExsAt.le hle2 _ _ hx2)
      generalize Sp.exN its p sc y s1 = s2 at hcl hstp
      repeat' (first
      | (refine i_indexAddr (d:=73) (hr:=hrow) (k:=?_); intro bt ot hpt; rw [show ((k : Int).toNat * 6) = k * 6 from rfl, hc2] at hpt)
      | (refine m_call (d:=74) hm (hp:=pm4_0) (hc:=hcl _ _ _ hpt) (k:=?_); clear hm; rintro _ I3 _ _ ⟨rfl, sa3, sp3, da3, dp3, ua3, up3, rfl⟩ hleI3 hm; try simp only [setn] at hm)
      | refine i_load1 hm (k:=?_)
      | refine op_move (k:=?_)
      | refine op_assign (k:=?_)
      | refine op_lss (k:=?_)
      | refine op_nilCheck (k:=?_)
      | refine op_add (k:=?_)
      | refine op_fieldAddr (k:=?_)
      | refine wl_nil ?_
      | refine at_then_normal ?_
      | refine at_block_normal ?_
      | refine wc_seq ?_
      | refine wc_region ?_
      | refine wc_block ?_
      | refine wc_skip ?_
      | (refine wc_cond_dec (ht:=fun _ => ?_) (hf:=fun _ => ?_)<;> (try first | contradiction | (exfalso; omega))))
      all_goals try (exfalso; omega)
      exact at_round (⟨k + 1, I3, sa3, sp3, da3, dp3, ua3, up3⟩ : NX) (by exact ⟨rfl, rfl, rfl, rfl, trivial⟩) ⟨by dsimp only; rw [hstp]; exact hm, hle2.trans hleI3, by dsimp only; omega⟩ (by dsimp only; omega)
    · obtain rfl : k = e.args.length := by omega
      rw [List.take_length] at hm
      repeat' (first
      | refine op_lss (k:=?_)
      | refine wl_nil ?_
      | refine at_then_normal ?_
      | refine at_then_exit ?_
      | refine at_block_exit ?_
      | refine wc_seq ?_
      | refine wc_region ?_
      | refine wc_exit ?_
      | refine at_end0 (h:=?_)
      | (refine wc_cond_dec (ht:=fun _ => ?_) (hf:=fun _ => ?_)<;> (try first | contradiction | (exfalso; omega))))
      all_goals try (exfalso; omega)
      exact ⟨I2, _, ⟨rfl, _, _, _, _, _, _, rfl⟩, hm⟩
end
end Go.Proofs.YtkbiakajlfmakaaGreatDoor
end
section
namespace Go.Fw
open Go
theorem own_cut {w : World} {base e sz n m cp : Nat} {a : Option Addr} {xs : List Value} (ho : w.ownsRow base e sz (.slice a n cp) n xs) (hmn : m ≤ n) :
    w.ownsRow base e sz (.slice a m cp) m (xs.take (m * sz)) ∧ n ≤ cp ∧ (a = none ∨ ∃ g, a = some ⟨g, 0, none⟩) := by
  have h0 := ho.1
  have hle : m * sz ≤ n * sz := Nat.mul_le_mul_right _ hmn
  have hlen : (xs.take (m * sz)).length = m * sz := by rw [List.length_take]; omega
  rcases ho.2 with ⟨hv, hn⟩ | ⟨g, cap, cur, hv, hb, hg, hc, hcm, hs, ht⟩
  · obtain ⟨rfl, rfl, rfl⟩ := Value.slice.inj hv
    obtain rfl : m = 0 := by omega
    exact ⟨⟨hlen, .inl ⟨rfl, rfl⟩⟩, Nat.le_refl _, .inl rfl⟩
  · obtain ⟨rfl, _, rfl⟩ := Value.slice.inj hv
    refine ⟨⟨hlen, .inr ⟨g, cp, cur, rfl, hb, hg, by omega, hcm, hs, ?_⟩⟩, hc, .inr ⟨g, rfl⟩⟩
    rw [← ht, List.take_take, Nat.min_eq_left hle]
section
variable {P : Program} {N : Nat} {ds : List Deferred} {Q : Exit → Act → World → Prop} {l : Log} {w : World} {ops : Array Oper} {os : List Oper}
variable {d : Nat} {ty : TypeId} {pos : String} {af : Array Edge} {g : Option (Nat × Bool)} {t : TypeId} {x y : Operand} {E : Ent} {I : Imm} {H : List HItem}
theorem m_sliceTo {e : TypeId} {sz by_ : Nat} [TySlice P t e] [Elem P e sz by_] {i n m cp : Nat} {a : Option Addr} {xs : List Value} (hm : Mem E I H w)
    (hw : want ops l ⟨some d, .slice t x none (some y) none, ty, pos, af, g⟩ = some true := by rfl) (hN : Nat.blt d N = true := by rfl)
    (hx : ev l x = some (.slice a n cp) := by rfl) (hy : ev l y = some (.int .i64 (m : Int)) := by rfl) (hi : H[i]? = some (.row (.slice a n cp) e sz n xs) := by first | exact gt0 | exact gt1 | exact gt2 | exact gt3 | exact gt4 | exact gt5 | exact gt6) (hmn : m ≤ n)
    (k : Mem E I (H.set i (.row (.slice a m cp) e sz m (xs.take (m * sz)))) w → WL P N ds ops Q os ((d, .slice a m cp) :: l) w) :
    WL P N ds ops Q (⟨some d, .slice t x none (some y) none, ty, pos, af, g⟩ :: os) l w := by
  obtain ⟨h1, h2, h3⟩ := own_cut (hm.ok _ (List.mem_of_getElem? hi)) hmn
  have hm' := hm.turn (h' := .row (.slice a m cp) e sz m (xs.take (m * sz))) hi (Kept.refl _ w) h1 (.inl (by rcases a with _ | a <;> rfl))
  refine wl_value (w' := w) (v := .slice a m cp) rfl hw hN (fun c hc => ?_) (k hm')
  obtain ⟨inf, z, hinf, _, hs, _, _, _⟩ := Elem.out (P := P) (e := e)
  have h6 := run_underlying (P := P) (w := w) (TySlice.out (P := P) (t := t))
  have h7 : m ≤ cp := by omega
  rcases h3 with rfl | ⟨g, rfl⟩
  · simp [execOp, Instr.sliceAt, Instr.slice, Instr.sliceBounds, Instr.sliceBound, hc.ev hx, hc.ev hy, h6, asIntOf, h7, sizeOf, typeInfo, hinf, hs]
  · simp [execOp, Instr.sliceAt, Instr.slice, Instr.sliceBounds, Instr.sliceBound, hc.ev hx, hc.ev hy, h6, asIntOf, h7, sizeOf, typeInfo, hinf, hs, Addr.add_lit]
end
end Go.Fw
end
section
namespace Go.Sp
def coreN (its : List Itm) (b : Int) (x : Stm) (sc : List Lc) (s : NW) : List Lc × NW :=
  if x.kind = 1 then mkN x.name x.at_ sc s else
  if x.kind = 2 then (sc, locN b sc x.at_ x.name s) else
  if x.kind = 5 then (sc, itmN its b 1 x.at_ x.name s) else
  if x.kind = 3 ∨ x.kind = 4 then (sc, (stmsN its b x.els sc (stmsN its b x.thn sc s).2).2) else (sc, s)
theorem stmN_eq (its : List Itm) (b : Int) (x : Stm) (sc : List Lc) (s : NW) : stmN its b x sc s = coreN its b x sc (exN its b sc x.e s) := by cases x; rw [stmN, coreN]; rfl
theorem cnt_stm (x : Stm) : x.cnt = x.e.cnt + stmsCnt x.thn + stmsCnt x.els + 1 := by cases x; rw [Stm.cnt]; rfl
theorem stmsCnt_take {l : List Stm} {k : Nat} {y : Stm} (h : l[k]? = some y) : stmsCnt (l.take k) + y.cnt ≤ stmsCnt l := by
  have e : l = l.take (k + 1) ++ l.drop (k + 1) := (List.take_append_drop _ _).symm
  have h2 := congrArg stmsCnt e
  rw [stmsCnt_app, take_succ_get h, stmsCnt_app, stmsCnt_one] at h2
  omega
theorem len_cnt : ∀ (l : List Stm), l.length ≤ stmsCnt l
  | [] => by simp
  | x :: l => by rw [stmsCnt, List.length_cons]; have := cnt_stm x; have := len_cnt l; omega
theorem stmN_sc {q : List UInt8} (its : List Itm) (b : Int) {x : Stm} (hx : stS q x.kind x.name x.at_ x.label x.opn x.fr x.to) {sc : List Lc} (hsc : scOk q sc) (s : NW) : scOk q (stmN its b x sc s).1 := by
  rw [stmN_eq, coreN]
  split
  · rename_i hk
    rw [mkN]
    split
    · exact hsc
    · rename_i hn; exact scOk_snoc hsc hn (hx (.inl hk))
  · split
    · exact hsc
    · split
      · exact hsc
      · split
        · exact hsc
        · exact hsc
theorem stmsN_sc {q : List UInt8} (its : List Itm) (b : Int) : ∀ (l : List Stm), stmsAll (stE q) (stS q) l → ∀ {sc : List Lc}, scOk q sc → ∀ (s : NW), scOk q (stmsN its b l sc s).1
  | [], _, sc, hsc, s => by rw [stmsN]; exact hsc
  | x :: l, h, sc, hsc, s => by
    rw [stmsAll] at h
    rw [stmsN]
    exact stmsN_sc its b l h.2 (stmN_sc its b (Stm.all_node h.1).1 hsc s) _
theorem stmsAll_pre {p : PE} {q : PS} : ∀ {l : List Stm} (k : Nat), stmsAll p q l → stmsAll p q (l.take k)
  | [], k, h => by rw [List.take_nil]; exact h
  | x :: l, 0, h => by rw [List.take_zero]; exact stmsAll_nil
  | x :: l, k + 1, h => by
    rw [stmsAll] at h
    rw [List.take_succ_cons, stmsAll]
    exact ⟨h.1, stmsAll_pre k h.2⟩
end Go.Sp
namespace Go.Proofs.YtkbiakajlfmakaaGreatDoor
open Go.Fw
section
variable (src : List UInt8) (p : Nat) (q : List UInt8) (its : List Sp.Itm) (it : Sp.Itm) (bc bf : Nat) (a : Option Addr) (cp : Nat) (xs : List Value) (pi : Value)
def NStmOk (x : Sp.Stm) : Prop :=
  ∀ (I : Imm) (b o tc : Nat) (cs : List Value) (sc : List Sp.Lc) (s : Sp.NW) (sa : Option Addr) (sp : Nat) (da : Option Addr) (dp : Nat) (ua : Option Addr) (up : Nat), Sp.scOk q sc → sc.length + x.cnt ≤ 900000000 → s.n + 2 * x.cnt ≤ 900000000 → NC I src p q its it bf a cp xs pi →
    PtrI I b o tc cs → StAt I x cs →
    CalM Tryz.prog 76 #[ptr bc, .pointer (some ⟨b, o, none⟩)] I (NSt bc bf pi sc sa sp s da dp ua up) (ToN bc bf pi (Sp.stmN its p x sc s).1 (Sp.stmN its p x sc s).2 (.tuple #[]))
def NBlkOk (l : List Sp.Stm) : Prop :=
  ∀ (I : Imm) (ab : Option Addr) (cb : Nat) (xb : List Value) (sc : List Sp.Lc) (s : Sp.NW) (sa : Option Addr) (sp : Nat) (da : Option Addr) (dp : Nat) (ua : Option Addr) (up : Nat), Sp.scOk q sc → sc.length + Sp.stmsCnt l ≤ 900000000 → s.n + 2 * Sp.stmsCnt l ≤ 900000000 → NC I src p q its it bf a cp xs pi →
    RowI I 102 15 (.slice ab l.length cb) l.length xb → StsAt I l xb →
    CalM Tryz.prog 65 #[ptr bc, .slice ab l.length cb] I (NSt bc bf pi sc sa sp s da dp ua up) (ToN bc bf pi sc (Sp.stmsN its p l sc s).2 (.tuple #[]))
end
section
variable {src : List UInt8} {p : Nat} {q : List UInt8} {its : List Sp.Itm} {it : Sp.Itm} {bc bf : Nat} {a : Option Addr} {cp : Nat} {xs : List Value} {pi : Value}
theorem lnRow_take (sc : List Sp.Lc) (n : Nat) : (sc.flatMap encLn).take (n * 2) = (sc.take n).flatMap encLn := by
  induction sc generalizing n with
  | nil => simp
  | cons x l ih =>
    cases n with
    | zero => simp
    | succ n =>
      rw [List.flatMap_cons, List.take_succ_cons, List.flatMap_cons, show (n + 1) * 2 = 2 + n * 2 by omega, List.take_append, List.take_of_length_le (by show 2 ≤ 2 + n * 2; omega), show 2 + n * 2 - (encLn x).length = n * 2 by (show 2 + n * 2 - 2 = n * 2; omega), ih]
set_option maxHeartbeats 16000000 in
theorem n_block (l : List Sp.Stm) (hl : l.length ≤ 64) (hall : Sp.stmsAll (Sp.stE q) (Sp.stS q) l) (hS : ∀ y ∈ l, NStmOk src p q its it bc bf a cp xs pi y) : NBlkOk src p q its it bc bf a cp xs pi l := by
  intro I ab cb xb sc s sa sp da dp ua up hsc hn1 hn2 hC hr hx
  refine CalM.of fun w E hm => enter (N := 31) Tryz.func65 rfl [(0, ptr bc), (1, .slice ab l.length cb)] args2 rfl ?_
  repeat' (first
  | refine m_load1 hm (k:=?_)
  | refine op_move (k:=?_)
  | refine op_assign (k:=?_)
  | refine op_len_slice (k:=?_)
  | refine op_nilCheck (k:=?_)
  | refine op_fieldAddr (k:=?_)
  | refine wl_nil ?_
  | refine at_then_normal ?_
  | refine wc_seq ?_
  | refine wc_region ?_
  | refine wc_block ?_)
  refine wc_loop (fun x : NX => [(0, ptr bc), (1, .slice ab l.length cb), (4, nt sc.length), (12, nt l.length), (13, nt x.k)])
    (fun x w' => Mem E x.I (NSt bc bf pi (Sp.stmsN its p (l.take x.k) sc s).1 x.sa x.sp (Sp.stmsN its p (l.take x.k) sc s).2 x.da x.dp x.ua x.up) w' ∧ Le I x.I ∧ x.k ≤ l.length) (fun x => l.length - x.k) ⟨0, I, sa, sp, da, dp, ua, up⟩
    (by exact ⟨rfl, rfl, rfl, rfl, rfl, trivial⟩) ⟨by dsimp only; rw [List.take_zero, Sp.stmsN]; exact hm, Le.refl _, Nat.zero_le _⟩ ?_
  clear hm
  rintro ⟨k, I1, sa1, sp1, da1, dp1, ua1, up1⟩ w1 ⟨hm, hle1, hk⟩
  dsimp only at hm hle1 hk ⊢
  have hC1 := hC.le hle1
  have hrow := hr.le hle1
  by_cases hlt : k < l.length
  · have hg : l[k]? = some l[k] := List.getElem?_eq_getElem hlt
    have hmem := List.getElem_mem hlt
    obtain ⟨cs, hcs⟩ : ∃ cs, cs = (xb.drop (k * 15)).take 15 := ⟨_, rfl⟩
    have hat := hx.get hg
    rw [← hcs] at hat
    have hSk := hS _ hmem
    generalize l[k] = y at hg hmem hat hSk
    have hst := Sp.stmsN_step its p hg sc s
    have hcy := Sp.stmsCnt_take hg
    have hnn := Sp.stmsN_n its p (l.take k) sc s
    have hsc1 := Sp.stmsN_sc its p (l.take k) (Sp.stmsAll_pre k hall) hsc s
    have htl : (l.take k).length = k := by rw [List.length_take]; omega
    have hkc := Sp.len_cnt (l.take k)
    generalize Sp.stmsN its p (l.take k) sc s = r at hm hst hnn hsc1
    have hcl := fun b o (hpt : PtrI I1 b o 102 cs) => hSk I1 b o 102 cs r.1 r.2 sa1 sp1 da1 dp1 ua1 up1 hsc1 (by omega) (by omega) hC1 hpt (StAt.le hle1 _ _ hat)
    generalize Sp.stmN its p y r.1 r.2 = z at hcl hst
    repeat' (first
    | (refine i_indexAddr (d:=19) (hr:=hrow) (k:=?_); intro bt ot hpt; rw [show ((k : Int).toNat * 15) = k * 15 from rfl, ← hcs] at hpt)
    | (refine m_call (d:=20) hm (hp:=pm4_0) (hc:=hcl _ _ hpt) (k:=?_); clear hm; rintro _ I2 _ _ ⟨rfl, sa2, sp2, da2, dp2, ua2, up2, rfl⟩ hleI2 hm; try simp only [setn] at hm)
    | refine op_move (k:=?_)
    | refine op_assign (k:=?_)
    | refine op_lss (k:=?_)
    | refine op_add (k:=?_)
    | refine wl_nil ?_
    | refine at_then_normal ?_
    | refine at_block_normal ?_
    | refine wc_seq ?_
    | refine wc_region ?_
    | refine wc_block ?_
    | refine wc_skip ?_
    | (refine wc_cond_dec (ht:=fun _ => ?_) (hf:=fun _ => ?_)<;> (try first | contradiction | (exfalso; omega))))
    all_goals try (exfalso; omega)
    exact at_round (⟨k + 1, I2, sa2, sp2, da2, dp2, ua2, up2⟩ : NX) (by exact ⟨rfl, rfl, rfl, rfl, rfl, trivial⟩) ⟨by dsimp only; rw [hst]; exact hm, hle1.trans hleI2, by dsimp only; omega⟩ (by dsimp only; omega)
  · obtain rfl : k = l.length := by omega
    have hback := Sp.stmsN_back its p l sc s
    have hpl := (Sp.stmsN_n its p l sc s).2.2.1
    rw [List.take_length] at hm
    generalize Sp.stmsN its p l sc s = r at hm hback hpl ⊢
    repeat' (first
    | (refine m_sliceTo (d:=28) hm (hmn:=hpl) (k:=?_); clear hm; intro hm; try simp only [setn] at hm)
    | refine m_load1 hm (k:=?_)
    | (refine m_store1 hm (k:=?_); clear hm; intro _ hm; try simp only [setn] at hm)
    | refine op_move (k:=?_)
    | refine op_lss (k:=?_)
    | refine op_nilCheck (k:=?_)
    | refine op_fieldAddr (k:=?_)
    | refine wl_nil ?_
    | refine at_then_normal ?_
    | refine at_then_exit ?_
    | refine at_block_exit ?_
    | refine wc_seq ?_
    | refine wc_region ?_
    | refine wc_exit ?_
    | refine at_end0 (h:=?_)
    | (refine wc_cond_dec (ht:=fun _ => ?_) (hf:=fun _ => ?_)<;> (try first | contradiction | (exfalso; omega))))
    all_goals try (exfalso; omega)
    refine ⟨I1, _, ⟨rfl, sa1, sp1, da1, dp1, ua1, up1, ?_⟩, hm⟩
    rw [lnRow_take, hback]
set_option maxHeartbeats 32000000 in
theorem n_stmt (x : Sp.Stm) (hsm : x.small) (hall : x.all (Sp.stE q) (Sp.stS q)) (hT : NBlkOk src p q its it bc bf a cp xs pi x.thn) (hL : NBlkOk src p q its it bc bf a cp xs pi x.els) : NStmOk src p q its it bc bf a cp xs pi x := by
  intro I b o tc cs sc s sa sp da dp ua up hsc hn1 hn2 hC hp hx
  obtain ⟨s1, s2, s3, s4, s5⟩ := Sp.small_parts hsm
  obtain ⟨a1, a2, a3, a4⟩ := Sp.Stm.all_node hall
  have hcnt := Sp.cnt_stm x
  refine CalM.of fun w E hm => enter (N := 64) Tryz.func76 rfl [(0, ptr bc), (1, .pointer (some ⟨b, o, none⟩))] args2 rfl ?_
  obtain ⟨ea, ec, ex, a1', c1, xs1, a2', c2, xs2, rfl, hr3, hx3, hr4, hx4, hr5, hx5⟩ := hx.out
  have hpe := hp.sub (cs' := exCells x.e ea ec) 5 (fun j u hj => by
    match j, hj with
    | 0, hj => exact hj
    | 1, hj => exact hj
    | 2, hj => exact hj
    | 3, hj => exact hj
    | 4, hj => exact hj
    | 5, hj => exact hj
    | j + 6, hj => cases hj)
  rw [Sp.stmN_eq]
  have hE := n_expr (its := its) (it := it) (bc := bc) (bf := bf) (a := a) (cp := cp) (xs := xs) (pi := pi) (src := src) (p := p) (by omega) hsc _ x.e (Nat.le_refl _) s1 a2 I b (o + 5) tc ea ec ex s sa sp da dp ua up (by omega) hC hpe hr3 hx3
  have hnx := Sp.exN_n its p sc x.e s
  generalize Sp.exN its p sc x.e s = r at hE hnx ⊢
  have hlen := hC.len
  rw [Sp.coreN]
  by_cases k1 : x.kind = 1
  · rw [if_pos k1]
    have hb := (hC.st.sub _ _ (a1 (.inl k1))).1
    have hc := fun (J : Imm) (sa : Option Addr) (sp : Nat) (da : Option Addr) (dp : Nat) (ua : Option Addr) (up : Nat) => n_make (I := J) (bc := bc) (bf := bf) (pi := pi) (sc := sc) (sa := sa) (sp := sp) (s := r) (da := da) (dp := dp) (ua := ua) (up := up) x.name x.at_ (by omega) (by omega) (by omega)
    repeat' (first
    | (refine m_call (d:=8) hm (hp:=pm4_0) (hc:=hE) (k:=?_); clear hm; rintro _ I2 _ _ ⟨rfl, sa2, sp2, da2, dp2, ua2, up2, rfl⟩ hleI2 hm; try simp only [setn] at hm; have hp2 := hp.le hleI2)
    | (refine wc_quiet_tail (id:=3) 9 (h:=?_))
    | (refine m_call (d:=24) hm (hp:=pm4_0) (hc:=hc I2 sa2 sp2 da2 dp2 ua2 up2) (k:=?_); clear hm; rintro _ I3 _ _ ⟨rfl, sa3, sp3, da3, dp3, ua3, up3, rfl⟩ hleI3 hm; try simp only [setn] at hm)
    | refine i_load1 hm (k:=?_)
    | refine iq_load1 hm (k:=?_)
    | refine op_move (k:=?_)
    | refine op_assign (k:=?_)
    | refine op_eql (k:=?_)
    | refine op_nilCheck (k:=?_)
    | refine op_fieldAddr (k:=?_)
    | refine wl_nil ?_
    | refine at_then_normal ?_
    | refine at_block_normal ?_
    | refine wc_seq ?_
    | refine wc_region ?_
    | refine wc_block ?_
    | refine at_end0 (h:=?_)
    | (refine wq_nil_tail ?_; intro _ hkq; replace hm := hm.kept0 hkq; clear hkq)
    | (refine wc_cond_dec (ht:=fun _ => ?_) (hf:=fun _ => ?_)<;> (try first | contradiction | (exfalso; omega)))
    | refine q_move (k:=?_)
    | refine q_nilCheck (k:=?_)
    | refine q_fieldAddr (k:=?_))
    all_goals try (exfalso; omega)
    exact ⟨I3, _, ⟨rfl, _, _, _, _, _, _, rfl⟩, hm⟩
  rw [if_neg k1]
  by_cases k2 : x.kind = 2
  · rw [if_pos k2]
    have hc := fun (J : Imm) (m : Le I J) (sa : Option Addr) (sp : Nat) (da : Option Addr) (dp : Nat) (ua : Option Addr) (up : Nat) => n_local (I := J) (bc := bc) (sc := sc) (sa := sa) (sp := sp) (s := r) (da := da) (dp := dp) (ua := ua) (up := up) (hC.le m) x.at_ x.name (a1 (.inr (.inl k2))) hsc (by omega) (by omega)
    repeat' (first
    | (refine m_call (d:=8) hm (hp:=pm4_0) (hc:=hE) (k:=?_); clear hm; rintro _ I2 _ _ ⟨rfl, sa2, sp2, da2, dp2, ua2, up2, rfl⟩ hleI2 hm; try simp only [setn] at hm; have hp2 := hp.le hleI2)
    | (refine wc_quiet_tail (id:=5) 9 (h:=?_))
    | (refine m_call (d:=36) hm (hp:=pm4_0) (hc:=hc I2 hleI2 sa2 sp2 da2 dp2 ua2 up2) (k:=?_); clear hm; rintro _ I3 _ _ ⟨rfl, sa3, sp3, da3, dp3, ua3, up3, rfl⟩ hleI3 hm; try simp only [setn] at hm)
    | refine i_load1 hm (k:=?_)
    | refine iq_load1 hm (k:=?_)
    | refine op_move (k:=?_)
    | refine op_assign (k:=?_)
    | refine op_eql (k:=?_)
    | refine op_nilCheck (k:=?_)
    | refine op_fieldAddr (k:=?_)
    | refine wl_nil ?_
    | refine at_then_normal ?_
    | refine at_block_normal ?_
    | refine wc_seq ?_
    | refine wc_region ?_
    | refine wc_block ?_
    | refine at_end0 (h:=?_)
    | (refine wq_nil_tail ?_; intro _ hkq; replace hm := hm.kept0 hkq; clear hkq)
    | (refine wc_cond_dec (ht:=fun _ => ?_) (hf:=fun _ => ?_)<;> (try first | contradiction | (exfalso; omega)))
    | refine q_move (k:=?_)
    | refine q_nilCheck (k:=?_)
    | refine q_fieldAddr (k:=?_))
    all_goals try (exfalso; omega)
    exact ⟨I3, _, ⟨rfl, _, _, _, _, _, _, rfl⟩, hm⟩
  rw [if_neg k2]
  by_cases k5 : x.kind = 5
  · rw [if_pos k5]
    cases hf : Sp.findIt its 1 x.name with
    | none =>
      have hc := fun (J : Imm) (m : Le I J) (sa : Option Addr) (sp : Nat) (da : Option Addr) (dp : Nat) (ua : Option Addr) (up : Nat) => n_item0 (I := J) (bc := bc) (sc := sc) (sa := sa) (sp := sp) (s := r) (da := da) (dp := dp) (ua := ua) (up := up) (hC.le m) 1 x.at_ x.name (a1 (.inr (.inr k5))) (by omega) hf
      repeat' (first
      | (refine m_call (d:=8) hm (hp:=pm4_0) (hc:=hE) (k:=?_); clear hm; rintro _ I2 _ _ ⟨rfl, sa2, sp2, da2, dp2, ua2, up2, rfl⟩ hleI2 hm; try simp only [setn] at hm; have hp2 := hp.le hleI2)
      | (refine wc_quiet_tail (id:=7) 9 (h:=?_))
      | (refine m_call (d:=48) hm (hp:=pm4_0) (hc:=hc I2 hleI2 sa2 sp2 da2 dp2 ua2 up2) (k:=?_); clear hm; rintro _ I3 _ _ ⟨rfl, sa3, sp3, da3, dp3, ua3, up3, rfl⟩ hleI3 hm; try simp only [setn] at hm)
      | refine i_load1 hm (k:=?_)
      | refine iq_load1 hm (k:=?_)
      | refine op_move (k:=?_)
      | refine op_assign (k:=?_)
      | refine op_eql (k:=?_)
      | refine op_nilCheck (k:=?_)
      | refine op_fieldAddr (k:=?_)
      | refine wl_nil ?_
      | refine at_then_normal ?_
      | refine at_block_normal ?_
      | refine wc_seq ?_
      | refine wc_region ?_
      | refine wc_block ?_
      | refine at_end0 (h:=?_)
      | (refine wq_nil_tail ?_; intro _ hkq; replace hm := hm.kept0 hkq; clear hkq)
      | (refine wc_cond_dec (ht:=fun _ => ?_) (hf:=fun _ => ?_)<;> (try first | contradiction | (exfalso; omega)))
      | refine q_move (k:=?_)
      | refine q_nilCheck (k:=?_)
      | refine q_fieldAddr (k:=?_))
      all_goals try (exfalso; omega)
      exact ⟨I3, _, ⟨rfl, _, _, _, _, _, _, rfl⟩, hm⟩
    | some j =>
      have hc := fun (J : Imm) (m : Le I J) (sa : Option Addr) (sp : Nat) (da : Option Addr) (dp : Nat) (ua : Option Addr) (up : Nat) => n_item1 (I := J) (bc := bc) (sc := sc) (sa := sa) (sp := sp) (s := r) (da := da) (dp := dp) (ua := ua) (up := up) (hC.le m) 1 x.at_ x.name (a1 (.inr (.inr k5))) (by omega) hf
      repeat' (first
      | (refine m_call (d:=8) hm (hp:=pm4_0) (hc:=hE) (k:=?_); clear hm; rintro _ I2 _ _ ⟨rfl, sa2, sp2, da2, dp2, ua2, up2, rfl⟩ hleI2 hm; try simp only [setn] at hm; have hp2 := hp.le hleI2)
      | (refine wc_quiet_tail (id:=7) 9 (h:=?_))
      | (refine m_call (d:=48) hm (hp:=pm4_0) (hc:=hc I2 hleI2 sa2 sp2 da2 dp2 ua2 up2) (k:=?_); clear hm; rintro _ I3 _ _ ⟨⟨_, _, _, rfl, _, _⟩, sa3, sp3, da3, dp3, ua3, up3, rfl⟩ hleI3 hm; try simp only [setn] at hm)
      | refine i_load1 hm (k:=?_)
      | refine iq_load1 hm (k:=?_)
      | refine op_move (k:=?_)
      | refine op_assign (k:=?_)
      | refine op_eql (k:=?_)
      | refine op_nilCheck (k:=?_)
      | refine op_fieldAddr (k:=?_)
      | refine wl_nil ?_
      | refine at_then_normal ?_
      | refine at_block_normal ?_
      | refine wc_seq ?_
      | refine wc_region ?_
      | refine wc_block ?_
      | refine at_end0 (h:=?_)
      | (refine wq_nil_tail ?_; intro _ hkq; replace hm := hm.kept0 hkq; clear hkq)
      | (refine wc_cond_dec (ht:=fun _ => ?_) (hf:=fun _ => ?_)<;> (try first | contradiction | (exfalso; omega)))
      | refine q_move (k:=?_)
      | refine q_nilCheck (k:=?_)
      | refine q_fieldAddr (k:=?_))
      all_goals try (exfalso; omega)
      exact ⟨I3, _, ⟨rfl, _, _, _, _, _, _, rfl⟩, hm⟩
  rw [if_neg k5]
  by_cases k34 : x.kind = 3 ∨ x.kind = 4
  · rw [if_pos k34]
    have hb1 := fun (J : Imm) (m : Le I J) (sa : Option Addr) (sp : Nat) (da : Option Addr) (dp : Nat) (ua : Option Addr) (up : Nat) => hT J a1' c1 xs1 sc r sa sp da dp ua up hsc (by omega) (by omega) (hC.le m) (hr4.le m) (StsAt.le m _ _ hx4)
    have hnn := Sp.stmsN_n its p x.thn sc r
    generalize Sp.stmsN its p x.thn sc r = r7 at hb1 hnn ⊢
    have hb2 := fun (J : Imm) (m : Le I J) (sa : Option Addr) (sp : Nat) (da : Option Addr) (dp : Nat) (ua : Option Addr) (up : Nat) => hL J a2' c2 xs2 sc r7.2 sa sp da dp ua up hsc (by omega) (by omega) (hC.le m) (hr5.le m) (StsAt.le m _ _ hx5)
    repeat' (first
    | (refine m_call (d:=8) hm (hp:=pm4_0) (hc:=hE) (k:=?_); clear hm; rintro _ I2 _ _ ⟨rfl, sa2, sp2, da2, dp2, ua2, up2, rfl⟩ hleI2 hm; try simp only [setn] at hm; have hp2 := hp.le hleI2)
    | (refine m_call (d:=57) hm (hp:=pm4_0) (hc:=hb1 I2 hleI2 sa2 sp2 da2 dp2 ua2 up2) (k:=?_); clear hm; rintro _ I3 _ _ ⟨rfl, sa3, sp3, da3, dp3, ua3, up3, rfl⟩ hleI3 hm; try simp only [setn] at hm; have hp3 := hp2.le hleI3)
    | (refine m_call (d:=63) hm (hp:=pm4_0) (hc:=hb2 I3 (hleI2.trans hleI3) sa3 sp3 da3 dp3 ua3 up3) (k:=?_); clear hm; rintro _ I4 _ _ ⟨rfl, sa4, sp4, da4, dp4, ua4, up4, rfl⟩ hleI4 hm; try simp only [setn] at hm)
    | refine i_load1 hm (k:=?_)
    | refine op_move (k:=?_)
    | refine op_assign (k:=?_)
    | refine op_eql (k:=?_)
    | refine op_nilCheck (k:=?_)
    | refine op_fieldAddr (k:=?_)
    | refine wl_nil ?_
    | refine at_then_normal ?_
    | refine at_block_normal ?_
    | refine wc_seq ?_
    | refine wc_region ?_
    | refine wc_block ?_
    | refine wc_skip ?_
    | refine at_end0 (h:=?_)
    | (refine wc_cond_dec (ht:=fun _ => ?_) (hf:=fun _ => ?_)<;> (try first | contradiction | (exfalso; omega))))
    all_goals try (exfalso; omega)
    all_goals exact ⟨I4, _, ⟨rfl, _, _, _, _, _, _, rfl⟩, hm⟩
  · rw [if_neg k34]
    repeat' (first
    | (refine m_call (d:=8) hm (hp:=pm4_0) (hc:=hE) (k:=?_); clear hm; rintro _ I2 _ _ ⟨rfl, sa2, sp2, da2, dp2, ua2, up2, rfl⟩ hleI2 hm; try simp only [setn] at hm; have hp2 := hp.le hleI2)
    | refine i_load1 hm (k:=?_)
    | refine op_move (k:=?_)
    | refine op_assign (k:=?_)
    | refine op_eql (k:=?_)
    | refine op_nilCheck (k:=?_)
    | refine op_fieldAddr (k:=?_)
    | refine wl_nil ?_
    | refine at_then_normal ?_
    | refine at_block_normal ?_
    | refine wc_seq ?_
    | refine wc_region ?_
    | refine wc_block ?_
    | refine wc_skip ?_
    | refine at_end0 (h:=?_)
    | (refine wc_cond_dec (ht:=fun _ => ?_) (hf:=fun _ => ?_)<;> (try first | contradiction | (exfalso; omega))))
    all_goals try (exfalso; omega)
    exact ⟨I2, _, ⟨rfl, _, _, _, _, _, _, rfl⟩, hm⟩
theorem n_blk : ∀ (n : Nat) (l : List Sp.Stm), SizeOf.sizeOf l ≤ n → l.length ≤ 64 → Sp.stmsSmall l → Sp.stmsAll (Sp.stE q) (Sp.stS q) l → NBlkOk src p q its it bc bf a cp xs pi l := by
  intro n
  induction n with
  | zero => intro l h; cases l <;> simp at h
  | succ n ih =>
  intro l hsz hll hsm hal
  refine n_block l hll hal (fun y hy => ?_)
  obtain ⟨j, hj, rfl⟩ := List.getElem_of_mem hy
  have hg := List.getElem?_eq_getElem hj
  have h1 := Sp.stmsSmall_get hsm hg
  have h0 := Sp.stmsAll_get hal hg
  have h2 := Sp.Stm.all_node h0
  have h3 := Sp.sizeL_mem (List.getElem_mem hj)
  generalize l[j] = y at h0 h1 h2 h3
  obtain ⟨s1, s2, s3, s4, s5⟩ := Sp.small_parts h1
  obtain ⟨z1, z2⟩ := Sp.size_thn (s := y)
  exact n_stmt y h1 h0 (ih y.thn (by omega) s2 s3 h2.2.2.1) (ih y.els (by omega) s4 s5 h2.2.2.2)
end
end Go.Proofs.YtkbiakajlfmakaaGreatDoor
end
section
namespace Go.Fw
open Go
theorem RowI.take {I : Imm} {e sz n m cp : Nat} {a : Option Addr} {xs : List Value} (h : RowI I e sz (.slice a n cp) n xs) (hmn : m ≤ n) : RowI I e sz (.slice a m cp) m (xs.take (m * sz)) := by
  obtain ⟨h0, a', cap, h1, h2, h3⟩ := h
  obtain ⟨rfl, _, rfl⟩ := Value.slice.inj h1
  have hle : m * sz ≤ n * sz := Nat.mul_le_mul_right _ hmn
  refine ⟨by rw [List.length_take]; omega, a, cp, rfl, by omega, fun hm => ?_⟩
  obtain ⟨b, off, c, fr, e1, e2, e3⟩ := h3 (by omega)
  refine ⟨b, off, c, fr, e1, e2, fun j u hj => e3 j u ?_⟩
  rw [List.getElem?_take] at hj
  split at hj
  · exact hj
  · cases hj
section
variable {P : Program} {N : Nat} {ds : List Deferred} {Q : Exit → Act → World → Prop} {l : Log} {w : World} {ops : Array Oper} {os : List Oper}
variable {d : Nat} {ty : TypeId} {pos : String} {af : Array Edge} {g : Option (Nat × Bool)} {t : TypeId} {x y : Operand} {E : Ent} {I : Imm} {H : List HItem}
theorem i_sliceTo {e : TypeId} {sz by_ : Nat} [TySlice P t e] [Elem P e sz by_] {n m cp : Nat} {a : Option Addr} {xs : List Value} (hr : RowI I e sz (.slice a n cp) n xs)
    (hw : want ops l ⟨some d, .slice t x none (some y) none, ty, pos, af, g⟩ = some true := by rfl) (hN : Nat.blt d N = true := by rfl)
    (hx : ev l x = some (.slice a n cp) := by rfl) (hy : ev l y = some (.int .i64 (m : Int)) := by rfl) (hmn : m ≤ n := by omega)
    (k : RowI I e sz (.slice a m cp) m (xs.take (m * sz)) → WL P N ds ops Q os ((d, .slice a m cp) :: l) w) :
    WL P N ds ops Q (⟨some d, .slice t x none (some y) none, ty, pos, af, g⟩ :: os) l w := by
  have h2 : n ≤ cp := by
    obtain ⟨_, a', cap, h1, h2, _⟩ := hr
    obtain ⟨_, _, rfl⟩ := Value.slice.inj h1
    exact h2
  refine wl_value (w' := w) (v := .slice a m cp) rfl hw hN (fun c hc => ?_) (k (hr.take hmn))
  obtain ⟨inf, z, hinf, _, hs, _, _, _⟩ := Elem.out (P := P) (e := e)
  have h6 := run_underlying (P := P) (w := w) (TySlice.out (P := P) (t := t))
  have h7 : m ≤ cp := by omega
  rcases a with _ | ⟨b, off, o⟩
  · simp [execOp, Instr.sliceAt, Instr.slice, Instr.sliceBounds, Instr.sliceBound, hc.ev hx, hc.ev hy, h6, asIntOf, h7, sizeOf, typeInfo, hinf, hs]
  · simp [execOp, Instr.sliceAt, Instr.slice, Instr.sliceBounds, Instr.sliceBound, hc.ev hx, hc.ev hy, h6, asIntOf, h7, sizeOf, typeInfo, hinf, hs, Addr.add]
end
end Go.Fw
end
