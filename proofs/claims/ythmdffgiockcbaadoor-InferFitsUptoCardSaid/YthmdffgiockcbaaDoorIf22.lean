/- Own work: texts FlD, FwCut, FlE, FlG, one behind the other. -/
import Derived.Test.YthmdffgiockcbaaDoorIf21
section
namespace Go.Proofs.YthmdffgiockcbaaDoor
open Go.Fw
section
variable {its : List Sp.Itm} {it : Sp.Itm} {bc bf : Nat} {a : Option Addr} {cp : Nat} {xs : List Value} {pi vf : Value} {sc : List Sp.Lc} {at_ : Int} {un : Nat}
set_option maxHeartbeats 16000000 in
theorem f_expr (hun : un < 256) (hsc : sc.length ≤ 1099511627776) (hsl : Sp.scLab sc) : ∀ (n : Nat) (e : Sp.Ex), SizeOf.sizeOf e ≤ n → e.small → ExprOk its it bc bf a cp xs pi vf sc at_ un e := by
  intro n
  induction n with
  | zero => intro e h; cases e; simp at h
  | succ n ih =>
  intro e hsz hsm I b o tc ea ec ys s sa sp da dp hn hC hp hr hx
  obtain ⟨hal, hasm⟩ := Sp.small_args hsm
  have hcnt := Sp.Ex.cnt_eq e
  refine CalM.of fun w E hm => enter (N := 86) Tryd.func60 rfl [(0, ptr bc), (1, .pointer (some ⟨b, o, none⟩)), (2, nt un)] args3 rfl ?_
  have hcore := Sp.coreF_ds its at_ sc un e s
  rw [Sp.exF_eq]
  have hlt := Sp.exF_lt hC.lab at_ hsl un e s
  rw [Sp.exF_eq] at hlt
  dsimp only at hlt ⊢
  have hcr : Sp.coreF its at_ sc un e s = if e.kind = 2 then (Sp.getF sc e.name, s) else if e.kind = 3 then Sp.opsF its at_ sc un e.args 0 s else
    if e.kind = 4 then (Sp.callLab its e.name, Sp.askFloor its un e.name e.fr e.to (Sp.argsF its at_ sc un e.name e.args 0 s)) else (0, s) := rfl
  generalize Sp.coreF its at_ sc un e s = r at hcr hcore hlt ⊢
  repeat' (first
  | (refine wc_cut_regH 2 (fun _ : FX => [(0, ptr bc), (1, .pointer (some ⟨b, o, none⟩)), (2, nt un), (7, nt r.1)]) (fun x w' => Mem E x.I (FSt bc bf pi sc x.sa x.sp r.2 x.da x.dp vf at_) w' ∧ Le I x.I) ?_ ?_)
  | refine op_assign (k:=?_)
  | refine wl_nil ?_
  | refine at_then_normal ?_
  | refine wc_seq ?_
  | refine wc_region ?_)
  · refine ⟨?_⟩
    by_cases k2 : e.kind = 2
    · rw [if_pos k2] at hcr
      subst hcr
      have hg := CalR.flow (I := I) (bc := bc) (bf := bf) (pi := pi) (sc := sc) (sa := sa) (sp := sp) (s := s) (da := da) (dp := dp) (vf := vf) (at_ := at_) (fun J m h => f_get0 e.name hsc h)
      repeat' (first
      | (refine m_readC (d:=20) hm (hs:=sub3_0) (hc:=by exact hg) (k:=?_); clear hm; intro _ hm)
      | refine i_load1 hm (k:=?_)
      | refine op_move (k:=?_)
      | refine op_assign (k:=?_)
      | refine op_eql (k:=?_)
      | refine op_nilCheck (k:=?_)
      | refine op_fieldAddr (k:=?_)
      | refine wl_nil ?_
      | refine at_then_normal ?_
      | refine at_block_normal ?_
      | refine wc_seq ?_
      | refine wc_region ?_
      | refine wc_block ?_
      | (refine wc_cond_dec (ht:=fun _ => ?_) (hf:=fun _ => ?_)<;> (try first | contradiction | (exfalso; omega))))
      all_goals try (exfalso; omega)
      exact at_cut (⟨0, I, sa, sp, da, dp⟩ : FX) (by exact ⟨rfl, rfl, rfl, rfl, trivial⟩) ⟨hm, Le.refl _⟩
    rw [if_neg k2] at hcr
    by_cases k3 : e.kind = 3
    · rw [if_pos k3] at hcr
      repeat' (first
      | refine i_load1 hm (k:=?_)
      | refine op_move (k:=?_)
      | refine op_assign (k:=?_)
      | refine op_eql (k:=?_)
      | refine op_len_slice (k:=?_)
      | refine op_nilCheck (k:=?_)
      | refine op_fieldAddr (k:=?_)
      | refine wl_nil ?_
      | refine at_then_normal ?_
      | refine wc_seq ?_
      | refine wc_region ?_
      | refine wc_block ?_
      | (refine wc_cond_dec (ht:=fun _ => ?_) (hf:=fun _ => ?_)<;> (try first | contradiction | (exfalso; omega))))
      all_goals try (exfalso; omega)
      refine wc_loop (fun x : FX => [(0, ptr bc), (1, .pointer (some ⟨b, o, none⟩)), (2, nt un), (7, nt (Sp.opsF its at_ sc un (e.args.take x.k) 0 s).1), (27, nt e.args.length), (28, nt x.k)])
        (fun x w' => Mem E x.I (FSt bc bf pi sc x.sa x.sp (Sp.opsF its at_ sc un (e.args.take x.k) 0 s).2 x.da x.dp vf at_) w' ∧ Le I x.I ∧ x.k ≤ e.args.length) (fun x => e.args.length - x.k) ⟨0, I, sa, sp, da, dp⟩
        (by exact ⟨rfl, rfl, rfl, by rw [List.take_zero, Sp.opsF]; rfl, rfl, rfl, trivial⟩) ⟨by dsimp only; rw [List.take_zero, Sp.opsF]; exact hm, Le.refl _, Nat.zero_le _⟩ ?_
      clear hm
      rintro ⟨k, I1, sa1, sp1, da1, dp1⟩ w1 ⟨hm, hle1, hk⟩
      dsimp only at hm hle1 hk ⊢
      have hC1 := hC.le hle1
      have hp1 := hp.le hle1
      have hrow := hr.le hle1
      by_cases hlt : k < e.args.length
      · have hg : e.args[k]? = some e.args[k] := List.getElem?_eq_getElem hlt
        have hsz2 := Sp.size_args (List.getElem_mem hlt)
        have hsm2 := Sp.exsSmall_get hasm hg
        obtain ⟨ea2, ec2, ys2, hc2, hr2, hx2⟩ := (hx.get hg).out
        generalize e.args[k] = y at hg hsz2 hsm2 hc2 hr2 hx2
        have hst := Sp.opsF_step its at_ sc un hg 0 s
        have hcy := Sp.exsCnt_take_le hg
        have hnn := Sp.opsF_n its at_ sc un (e.args.take k) 0 s
        have hl1 := Sp.opsF_lt hC.lab at_ hsl un (e.args.take k) 0 s (by omega)
        generalize Sp.opsF its at_ sc un (e.args.take k) 0 s = q at hm hst hnn hl1 ⊢
        have hcl := ih y (by omega) hsm2
        have hl2 := Sp.exF_lt hC.lab at_ hsl un y q.2
        have hcl2 := fun b o tc (hpt : PtrI I1 b o tc (exCells y ea2 ec2)) => hcl I1 b o tc ea2 ec2 ys2 q.2 sa1 sp1 da1 dp1 (by omega) hC1 hpt (hr2.le hle1) (ExsAt.le hle1 _ _ hx2)
        generalize Sp.exF its at_ sc un y q.2 = p at hcl2 hst hl2
        repeat' (first
        | (refine i_indexAddr (d:=38) (hr:=hrow) (k:=?_); intro bt ot hpt; rw [show ((k : Int).toNat * 6) = k * 6 from rfl, hc2] at hpt)
        | (refine m_call (d:=40) hm (hc:=hcl2 _ _ _ hpt) (k:=?_); clear hm; rintro _ I2 _ _ ⟨rfl, sa2, sp2, da2, dp2, rfl⟩ hle hm; have hleI2 := hle; try simp only [setn] at hm)
        | (refine op_call (d:=41) (hc:=by exact c_join _ _ hl1 hl2 _) (k:=?_); rintro _ _ ⟨rfl, rfl⟩)
        | refine i_load1 hm (k:=?_)
        | refine op_move (k:=?_)
        | refine op_assign (k:=?_)
        | refine op_lss (k:=?_)
        | refine op_nilCheck (k:=?_)
        | refine op_add (k:=?_)
        | refine op_fieldAddr (k:=?_)
        | refine wl_nil ?_
        | refine at_then_normal ?_
        | refine at_block_normal ?_
        | refine wc_seq ?_
        | refine wc_region ?_
        | refine wc_block ?_
        | refine wc_skip ?_
        | (refine wc_cond_dec (ht:=fun _ => ?_) (hf:=fun _ => ?_)<;> (try first | contradiction | (exfalso; omega))))
        all_goals try (exfalso; omega)
        exact at_round (⟨k + 1, I2, sa2, sp2, da2, dp2⟩ : FX) (by exact ⟨rfl, rfl, rfl, by rw [hst]; rfl, rfl, rfl, trivial⟩) ⟨by dsimp only; rw [hst]; exact hm, hle1.trans hleI2, by dsimp only; omega⟩ (by dsimp only; omega)
      · obtain rfl : k = e.args.length := by omega
        rw [List.take_length, ← hcr] at hm
        rw [List.take_length, ← hcr]
        repeat' (first
        | refine op_lss (k:=?_)
        | refine wl_nil ?_
        | refine at_then_normal ?_
        | refine at_then_exit ?_
        | refine at_block_normal ?_
        | refine at_block_exit ?_
        | refine wc_seq ?_
        | refine wc_region ?_
        | refine wc_exit ?_
        | (refine wc_cond_dec (ht:=fun _ => ?_) (hf:=fun _ => ?_)<;> (try first | contradiction | (exfalso; omega))))
        all_goals try (exfalso; omega)
        exact at_cut (⟨0, I1, sa1, sp1, da1, dp1⟩ : FX) (by exact ⟨rfl, rfl, rfl, rfl, trivial⟩) ⟨hm, hle1⟩
    rw [if_neg k3] at hcr
    by_cases k4 : e.kind = 4
    · rw [if_pos k4] at hcr
      subst hcr
      have hc := f_call (at_ := at_) hun hsc hsl e hsm (fun y hy => ih y (by have := Sp.size_args hy; omega) (by obtain ⟨j, hj, rfl⟩ := List.getElem_of_mem hy; exact Sp.exsSmall_get hasm (List.getElem?_eq_getElem hj))) I b o tc ea ec ys s sa sp da dp hn hC hp hr hx
      repeat' (first
      | (refine m_call (d:=48) hm (hc:=hc) (k:=?_); clear hm; rintro _ I2 _ _ ⟨rfl, sa2, sp2, da2, dp2, rfl⟩ hle hm; have hleI2 := hle; try simp only [setn] at hm)
      | refine i_load1 hm (k:=?_)
      | refine op_move (k:=?_)
      | refine op_assign (k:=?_)
      | refine op_eql (k:=?_)
      | refine op_nilCheck (k:=?_)
      | refine op_fieldAddr (k:=?_)
      | refine wl_nil ?_
      | refine at_then_normal ?_
      | refine at_block_normal ?_
      | refine wc_seq ?_
      | refine wc_region ?_
      | refine wc_block ?_
      | (refine wc_cond_dec (ht:=fun _ => ?_) (hf:=fun _ => ?_)<;> (try first | contradiction | (exfalso; omega))))
      all_goals try (exfalso; omega)
      exact at_cut (⟨0, I2, sa2, sp2, da2, dp2⟩ : FX) (by exact ⟨rfl, rfl, rfl, rfl, trivial⟩) ⟨hm, hleI2⟩
    · rw [if_neg k4] at hcr
      subst hcr
      repeat' (first
      | refine i_load1 hm (k:=?_)
      | refine op_move (k:=?_)
      | refine op_assign (k:=?_)
      | refine op_eql (k:=?_)
      | refine op_nilCheck (k:=?_)
      | refine op_fieldAddr (k:=?_)
      | refine wl_nil ?_
      | refine at_then_normal ?_
      | refine at_block_normal ?_
      | refine wc_seq ?_
      | refine wc_region ?_
      | refine wc_block ?_
      | refine wc_skip ?_
      | (refine wc_cond_dec (ht:=fun _ => ?_) (hf:=fun _ => ?_)<;> (try first | contradiction | (exfalso; omega))))
      all_goals try (exfalso; omega)
      exact at_cut (⟨0, I, sa, sp, da, dp⟩ : FX) (by exact ⟨rfl, rfl, rfl, rfl, trivial⟩) ⟨hm, Le.refl _⟩
  · clear hm
    rintro ⟨_, I1, sa1, sp1, da1, dp1⟩ w1 ⟨hm, hle1⟩
    dsimp only at hm hle1 ⊢
    have hp1 := hp.le hle1
    clear hcr hp hr hx
    cases hv : r.2.hv with
    | some m =>
      rw [Sp.hit_some hv]
      have e1 : r.2 = ⟨r.2.ds, some m⟩ := by rw [← hv]
      rw [e1] at hm ⊢
      repeat' (first
      | refine mq_load1 hm (k:=?_)
      | refine op_move (k:=?_)
      | refine op_assign (k:=?_)
      | refine wl_nil ?_
      | refine at_then_normal ?_
      | refine wc_seq ?_
      | refine wc_region ?_
      | refine wc_skip ?_
      | refine wc_ret ?_
      | refine at_ret1 (h:=?_)
      | refine wc_quiet (h:=?_)
      | (refine wq_nil ?_; intro _ hkq; replace hm := hm.kept0 hkq; clear hkq)
      | refine wc_cond_false (hf:=?_)
      | refine q_move (k:=?_)
      | refine q_pick_false (k:=?_)
      | refine q_not (k:=?_)
      | refine q_nilCheck (k:=?_)
      | refine q_fieldAddr (k:=?_)
      | refine wq_skip (k:=?_))
      all_goals try (exfalso; omega)
      exact ⟨I1, _, ⟨rfl, _, _, _, _, rfl⟩, hm⟩
    | none =>
      have e1 : r.2 = ⟨r.2.ds, none⟩ := by rw [← hv]
      by_cases hh : (e.fr : Int) ≤ at_ ∧ at_ < e.to
      · rw [Sp.hit_pos hv hh.1 hh.2]
        rw [e1] at hm
        repeat' (first
        | (refine op_call (d:=80) (hc:=by exact c_join _ _ hlt hun _) (k:=?_); rintro _ _ ⟨rfl, rfl⟩)
        | refine mq_load1 hm (k:=?_)
        | refine iq_load1 hm (k:=?_)
        | (refine m_store1 hm (k:=?_); clear hm; intro _ hm; try simp only [setn] at hm)
        | refine op_move (k:=?_)
        | refine op_assign (k:=?_)
        | refine op_nilCheck (k:=?_)
        | refine op_fieldAddr (k:=?_)
        | refine wl_nil ?_
        | refine at_then_normal ?_
        | refine wc_seq ?_
        | refine wc_region ?_
        | refine wc_ret ?_
        | refine at_ret1 (h:=?_)
        | refine wc_quiet (h:=?_)
        | (refine wq_nil ?_; intro _ hkq; replace hm := hm.kept0 hkq; clear hkq)
        | (refine wc_cond_dec (ht:=fun _ => ?_) (hf:=fun _ => ?_)<;> (try first | contradiction | (exfalso; omega)))
        | refine q_move (k:=?_)
        | refine q_pick_true (k:=?_)
        | refine q_lss (k:=?_)
        | refine q_leq (k:=?_)
        | refine q_not (k:=?_)
        | refine q_nilCheck (k:=?_)
        | refine q_fieldAddr (k:=?_)
        | (refine wq_split_dec (h1:=fun _ => ?_) (h0:=fun _ => ?_)<;> (try first | contradiction | (exfalso; omega))))
        all_goals try (exfalso; omega)
        exact ⟨I1, _, ⟨rfl, _, _, _, _, rfl⟩, hm⟩
      · rw [Sp.hit_neg hh]
        rw [e1] at hm ⊢
        repeat' (first
        | refine mq_load1 hm (k:=?_)
        | refine iq_load1 hm (k:=?_)
        | refine op_move (k:=?_)
        | refine op_assign (k:=?_)
        | refine wl_nil ?_
        | refine at_then_normal ?_
        | refine wc_seq ?_
        | refine wc_region ?_
        | refine wc_skip ?_
        | refine wc_ret ?_
        | refine at_ret1 (h:=?_)
        | refine wc_quiet (h:=?_)
        | (refine wq_nil ?_; intro _ hkq; replace hm := hm.kept0 hkq; clear hkq)
        | refine wc_cond_false (hf:=?_)
        | (refine wc_cond_dec (ht:=fun _ => ?_) (hf:=fun _ => ?_)<;> (try first | contradiction | (exfalso; omega)))
        | refine q_move (k:=?_)
        | refine q_pick_true (k:=?_)
        | refine q_pick_false (k:=?_)
        | refine q_lss (k:=?_)
        | refine q_leq (k:=?_)
        | refine q_not (k:=?_)
        | refine q_nilCheck (k:=?_)
        | refine q_fieldAddr (k:=?_)
        | refine wq_skip (k:=?_)
        | (refine wq_split_dec (h1:=fun _ => ?_) (h0:=fun _ => ?_)<;> (try first | contradiction | (exfalso; omega))))
        all_goals try (exfalso; omega)
        all_goals exact ⟨I1, _, ⟨rfl, _, _, _, _, rfl⟩, hm⟩
end
end Go.Proofs.YthmdffgiockcbaaDoor
end
section
namespace Go.Fw
open Go
theorem own_cut {w : World} {base e sz n m cp : Nat} {a : Option Addr} {xs : List Value} (ho : w.ownsRow base e sz (.slice a n cp) n xs) (hmn : m ≤ n) :
    w.ownsRow base e sz (.slice a m cp) m (xs.take (m * sz)) ∧ n ≤ cp ∧ (a = none ∨ ∃ g, a = some ⟨g, 0, none⟩) := by
  have h0 := ho.1
  have hle : m * sz ≤ n * sz := Nat.mul_le_mul_right _ hmn
  have hlen : (xs.take (m * sz)).length = m * sz := by rw [List.length_take]; omega
  rcases ho.2 with ⟨hv, hn⟩ | ⟨g, cap, cur, hv, hb, hg, hc, hcm, hs, ht⟩
  · obtain ⟨rfl, rfl, rfl⟩ := Value.slice.inj hv
    obtain rfl : m = 0 := by omega
    exact ⟨⟨hlen, .inl ⟨rfl, rfl⟩⟩, Nat.le_refl _, .inl rfl⟩
  · obtain ⟨rfl, _, rfl⟩ := Value.slice.inj hv
    refine ⟨⟨hlen, .inr ⟨g, cp, cur, rfl, hb, hg, by omega, hcm, hs, ?_⟩⟩, hc, .inr ⟨g, rfl⟩⟩
    rw [← ht, List.take_take, Nat.min_eq_left hle]
section
variable {P : Program} {N : Nat} {ds : List Deferred} {Q : Exit → Act → World → Prop} {l : Log} {w : World} {ops : Array Oper} {os : List Oper}
variable {d : Nat} {ty : TypeId} {pos : String} {af : Array Edge} {g : Option (Nat × Bool)} {t : TypeId} {x y : Operand} {E : Ent} {I : Imm} {H : List HItem}
theorem m_sliceTo {e : TypeId} {sz by_ : Nat} [TySlice P t e] [Elem P e sz by_] {i n m cp : Nat} {a : Option Addr} {xs : List Value} (hm : Mem E I H w)
    (hw : want ops l ⟨some d, .slice t x none (some y) none, ty, pos, af, g⟩ = some true := by rfl) (hN : Nat.blt d N = true := by rfl)
    (hx : ev l x = some (.slice a n cp) := by rfl) (hy : ev l y = some (.int .i64 (m : Int)) := by rfl) (hi : H[i]? = some (.row (.slice a n cp) e sz n xs) := by first | exact gt0 | exact gt1 | exact gt2 | exact gt3 | exact gt4 | exact gt5 | exact gt6) (hmn : m ≤ n)
    (k : Mem E I (H.set i (.row (.slice a m cp) e sz m (xs.take (m * sz)))) w → WL P N ds ops Q os ((d, .slice a m cp) :: l) w) :
    WL P N ds ops Q (⟨some d, .slice t x none (some y) none, ty, pos, af, g⟩ :: os) l w := by
  obtain ⟨h1, h2, h3⟩ := own_cut (hm.ok _ (List.mem_of_getElem? hi)) hmn
  have hm' := hm.turn (h' := .row (.slice a m cp) e sz m (xs.take (m * sz))) hi (Kept.refl _ w) h1 (.inl (by rcases a with _ | a <;> rfl))
  refine wl_value (w' := w) (v := .slice a m cp) rfl hw hN (fun c hc => ?_) (k hm')
  obtain ⟨inf, z, hinf, _, hs, _, _, _⟩ := Elem.out (P := P) (e := e)
  have h6 := run_underlying (P := P) (w := w) (TySlice.out (P := P) (t := t))
  have h7 : m ≤ cp := by omega
  rcases h3 with rfl | ⟨g, rfl⟩
  · simp [execOp, Instr.sliceAt, Instr.slice, Instr.sliceBounds, Instr.sliceBound, hc.ev hx, hc.ev hy, h6, asIntOf, h7, sizeOf, typeInfo, hinf, hs]
  · simp [execOp, Instr.sliceAt, Instr.slice, Instr.sliceBounds, Instr.sliceBound, hc.ev hx, hc.ev hy, h6, asIntOf, h7, sizeOf, typeInfo, hinf, hs, Addr.add_lit]
end
end Go.Fw
end
section
namespace Go.Sp
def coreStm (its : List Itm) (own : Nat) (at_ : Int) (x : Stm) (sc : List Lc) (a : Nat) (s : FW) : List Lc × FW :=
  if x.kind = 1 then (sc ++ [⟨x.name, if x.opn = true then a else x.label⟩], s.ask a (if x.opn = true then a else x.label) x.fr x.to x.name) else
  if x.kind = 2 then (sc, s.ask a (getF sc x.name) x.fr x.to x.name) else
  if x.kind = 5 then (sc, askCh its a x.name x.fr x.to s) else
  if x.kind = 6 then (sc, s.ask a own x.fr x.to x.name) else
  if x.kind = 3 ∨ x.kind = 4 then (sc, (stmsF its own at_ x.els sc a (stmsF its own at_ x.thn sc a s).2).2) else (sc, s)
theorem stmF_eq (its : List Itm) (own : Nat) (at_ : Int) (x : Stm) (sc : List Lc) (un : Nat) (s : FW) :
    stmF its own at_ x sc un s = coreStm its own at_ x sc ((exF its at_ sc (unF its sc x.kind un x.e) x.e s).1 ||| unF its sc x.kind un x.e) (exF its at_ sc (unF its sc x.kind un x.e) x.e s).2 := by
  cases x; rw [stmF, coreStm]; rfl
theorem stmsF_lab {its : List Itm} (h : itLab its) (own : Nat) (at_ : Int) : ∀ (l : List Stm) {sc : List Lc}, scLab sc → ∀ {un : Nat}, un < 256 → stmsAll anyP labS l → ∀ (s : FW), scLab (stmsF its own at_ l sc un s).1
  | [], sc, hs, un, hu, _, s => by rw [stmsF]; exact hs
  | x :: l, sc, hs, un, hu, hx, s => by
    rw [stmsAll] at hx
    rw [stmsF]
    exact stmsF_lab h own at_ l (stmF_lab h own at_ x hs hu (Stm.all_node hx.1).1 s) hu hx.2 _
end Go.Sp
namespace Go.Proofs.YthmdffgiockcbaaDoor
open Go.Fw
section
variable (its : List Sp.Itm) (it : Sp.Itm) (bc bf : Nat) (a : Option Addr) (cp : Nat) (xs : List Value) (pi vf : Value) (at_ : Int)
def StmOk (x : Sp.Stm) : Prop :=
  ∀ (I : Imm) (b o tc : Nat) (cs : List Value) (un : Nat) (sc : List Sp.Lc) (s : Sp.FW) (sa : Option Addr) (sp : Nat) (da : Option Addr) (dp : Nat), un < 256 → Sp.scLab sc → sc.length + x.cnt ≤ 1000000000 → s.ds.length + 2 * x.cnt ≤ 1000000000 → FC I its it bf a cp xs pi vf →
    PtrI I b o tc cs → StAt I x cs →
    CalM Tryd.prog 47 #[ptr bc, .pointer (some ⟨b, o, none⟩), nt un] I (FSt bc bf pi sc sa sp s da dp vf at_) (ToF bc bf pi vf at_ (Sp.stmF its it.label at_ x sc un s).1 (Sp.stmF its it.label at_ x sc un s).2 (.tuple #[]))
def BlkOk (l : List Sp.Stm) : Prop :=
  ∀ (I : Imm) (ab : Option Addr) (cb : Nat) (xb : List Value) (un : Nat) (sc : List Sp.Lc) (s : Sp.FW) (sa : Option Addr) (sp : Nat) (da : Option Addr) (dp : Nat), un < 256 → Sp.scLab sc → sc.length + Sp.stmsCnt l ≤ 1000000000 → s.ds.length + 2 * Sp.stmsCnt l ≤ 1000000000 → FC I its it bf a cp xs pi vf →
    RowI I 43 15 (.slice ab l.length cb) l.length xb → StsAt I l xb →
    CalM Tryd.prog 38 #[ptr bc, .slice ab l.length cb, nt un] I (FSt bc bf pi sc sa sp s da dp vf at_) (ToF bc bf pi vf at_ sc (Sp.stmsF its it.label at_ l sc un s).2 (.tuple #[]))
end
section
variable {its : List Sp.Itm} {it : Sp.Itm} {bc bf : Nat} {a : Option Addr} {cp : Nat} {xs : List Value} {pi vf : Value} {at_ : Int}
set_option maxHeartbeats 16000000 in
theorem f_block (l : List Sp.Stm) (hl : l.length ≤ 64) (hlab : Sp.stmsAll Sp.anyP Sp.labS l) (hS : ∀ y ∈ l, StmOk its it bc bf a cp xs pi vf at_ y) : BlkOk its it bc bf a cp xs pi vf at_ l := by
  intro I ab cb xb un sc s sa sp da dp hun hsl hn1 hn2 hC hr hx
  refine CalM.of fun w E hm => enter (N := 34) Tryd.func38 rfl [(0, ptr bc), (1, .slice ab l.length cb), (2, nt un)] args3 rfl ?_
  repeat' (first
  | refine m_load1 hm (k:=?_)
  | refine op_move (k:=?_)
  | refine op_assign (k:=?_)
  | refine op_len_slice (k:=?_)
  | refine op_nilCheck (k:=?_)
  | refine op_fieldAddr (k:=?_)
  | refine wl_nil ?_
  | refine at_then_normal ?_
  | refine wc_seq ?_
  | refine wc_region ?_
  | refine wc_block ?_)
  refine wc_loop (fun x : FX => [(0, ptr bc), (1, .slice ab l.length cb), (2, nt un), (6, nt sc.length), (14, nt l.length), (15, nt x.k)])
    (fun x w' => Mem E x.I (FSt bc bf pi (Sp.stmsF its it.label at_ (l.take x.k) sc un s).1 x.sa x.sp (Sp.stmsF its it.label at_ (l.take x.k) sc un s).2 x.da x.dp vf at_) w' ∧ Le I x.I ∧ x.k ≤ l.length) (fun x => l.length - x.k) ⟨0, I, sa, sp, da, dp⟩
    (by exact ⟨rfl, rfl, rfl, rfl, rfl, rfl, trivial⟩) ⟨by dsimp only; rw [List.take_zero, Sp.stmsF]; exact hm, Le.refl _, Nat.zero_le _⟩ ?_
  clear hm
  rintro ⟨k, I1, sa1, sp1, da1, dp1⟩ w1 ⟨hm, hle1, hk⟩
  dsimp only at hm hle1 hk ⊢
  have hC1 := hC.le hle1
  have hrow := hr.le hle1
  by_cases hlt : k < l.length
  · have hg : l[k]? = some l[k] := List.getElem?_eq_getElem hlt
    have hmem := List.getElem_mem hlt
    obtain ⟨cs, hcs⟩ : ∃ cs, cs = (xb.drop (k * 15)).take 15 := ⟨_, rfl⟩
    have hat := hx.get hg
    rw [← hcs] at hat
    have hSk := hS _ hmem
    generalize l[k] = y at hg hmem hat hSk
    have hst := Sp.stmsF_step its it.label at_ hg sc un s
    have hcy := Sp.stmsCnt_take_le hg
    have hnn := Sp.stmsF_n its it.label at_ (l.take k) sc un s
    have hsl1 := Sp.stmsF_lab hC.lab it.label at_ (l.take k) hsl hun (Sp.stmsAll_take k hlab) s
    have htl : (l.take k).length = k := by rw [List.length_take]; omega
    generalize Sp.stmsF its it.label at_ (l.take k) sc un s = q at hm hst hnn hsl1
    have hkc : k ≤ Sp.stmsCnt (l.take k) := by
      have key : ∀ (l : List Sp.Stm), l.length ≤ Sp.stmsCnt l := by
        intro l
        induction l with
        | nil => simp
        | cons x l ih => rw [Sp.stmsCnt, List.length_cons]; have := Sp.Stm.cnt_eq x; omega
      have := key (l.take k)
      omega
    have hcl := fun b o (hpt : PtrI I1 b o 43 cs) => hSk I1 b o 43 cs un q.1 q.2 sa1 sp1 da1 dp1 hun hsl1 (by omega) (by omega) hC1 hpt (StAt.le hle1 _ _ hat)
    generalize Sp.stmF its it.label at_ y q.1 un q.2 = p at hcl hst
    repeat' (first
    | (refine i_indexAddr (d:=21) (hr:=hrow) (k:=?_); intro bt ot hpt; rw [show ((k : Int).toNat * 15) = k * 15 from rfl, ← hcs] at hpt)
    | (refine m_call (d:=23) hm (hc:=hcl _ _ hpt) (k:=?_); clear hm; rintro _ I2 _ _ ⟨rfl, sa2, sp2, da2, dp2, rfl⟩ hle hm; have hleI2 := hle; try simp only [setn] at hm)
    | refine op_move (k:=?_)
    | refine op_assign (k:=?_)
    | refine op_lss (k:=?_)
    | refine op_add (k:=?_)
    | refine wl_nil ?_
    | refine at_then_normal ?_
    | refine at_block_normal ?_
    | refine wc_seq ?_
    | refine wc_region ?_
    | refine wc_block ?_
    | refine wc_skip ?_
    | (refine wc_cond_dec (ht:=fun _ => ?_) (hf:=fun _ => ?_)<;> (try first | contradiction | (exfalso; omega))))
    all_goals try (exfalso; omega)
    exact at_round (⟨k + 1, I2, sa2, sp2, da2, dp2⟩ : FX) (by exact ⟨rfl, rfl, rfl, rfl, rfl, rfl, trivial⟩) ⟨by dsimp only; rw [hst]; exact hm, hle1.trans hleI2, by dsimp only; omega⟩ (by dsimp only; omega)
  · obtain rfl : k = l.length := by omega
    have hback := Sp.stmsF_back its it.label at_ l sc un s
    have hpl := (Sp.stmsF_n its it.label at_ l sc un s).2.2.1
    rw [List.take_length] at hm
    generalize Sp.stmsF its it.label at_ l sc un s = q at hm hback hpl ⊢
    repeat' (first
    | (refine m_sliceTo (d:=31) hm (hmn:=hpl) (k:=?_); clear hm; intro hm; try simp only [setn] at hm)
    | refine m_load1 hm (k:=?_)
    | (refine m_store1 hm (k:=?_); clear hm; intro _ hm; try simp only [setn] at hm)
    | refine op_move (k:=?_)
    | refine op_lss (k:=?_)
    | refine op_nilCheck (k:=?_)
    | refine op_fieldAddr (k:=?_)
    | refine wl_nil ?_
    | refine at_then_normal ?_
    | refine at_then_exit ?_
    | refine at_block_exit ?_
    | refine wc_seq ?_
    | refine wc_region ?_
    | refine wc_exit ?_
    | refine at_end0 (h:=?_)
    | (refine wc_cond_dec (ht:=fun _ => ?_) (hf:=fun _ => ?_)<;> (try first | contradiction | (exfalso; omega))))
    all_goals try (exfalso; omega)
    refine ⟨I1, _, ⟨rfl, sa1, sp1, da1, dp1, ?_⟩, hm⟩
    have e : (q.1.flatMap encLc).take (sc.length * 2) = sc.flatMap encLc := by
      have key : ∀ (l : List Sp.Lc) (n : Nat), (l.flatMap encLc).take (n * 2) = (l.take n).flatMap encLc := by
        intro l
        induction l with
        | nil => intro n; simp
        | cons x l ih =>
          intro n
          cases n with
          | zero => simp
          | succ n =>
            rw [List.flatMap_cons, List.take_succ_cons, List.flatMap_cons, show (n + 1) * 2 = 2 + n * 2 by omega, List.take_append, List.take_of_length_le (by show 2 ≤ 2 + n * 2; omega), show 2 + n * 2 - (encLc x).length = n * 2 by (show 2 + n * 2 - 2 = n * 2; omega), ih]
      rw [key, hback]
    rw [e]
end
end Go.Proofs.YthmdffgiockcbaaDoor
end
section
namespace Go.Proofs.YthmdffgiockcbaaDoor
open Go.Fw
theorem FSt_snoc (bc bf : Nat) (pi : Value) (sc : List Sp.Lc) (sa : Option Addr) (sp : Nat) (s : Sp.FW) (n : List UInt8) (x : Nat) (da : Option Addr) (dp : Nat) (vf : Value) (at_ : Int) :
    [.obj bc (.cells [ptr bf, pi, .slice sa (sc.length + 1) sp, .slice da s.ds.length dp, vf, .int .i64 at_, .bool s.hv.isSome, nt (s.hv.getD 0)].toArray 87 (0, 0)), .row (.slice sa (sc.length + 1) sp) 105 2 (sc.length + 1) (sc.flatMap encLc ++ encLc ⟨n, x⟩), dgRow s.ds da dp] = FSt bc bf pi (sc ++ [⟨n, x⟩]) sa sp s da dp vf at_ := by
  simp [List.flatMap_append]
section
variable {its : List Sp.Itm} {it : Sp.Itm} {bc bf : Nat} {a : Option Addr} {cp : Nat} {xs : List Value} {pi vf : Value} {at_ : Int}
set_option maxHeartbeats 32000000 in
theorem f_stmt (x : Sp.Stm) (hsm : x.small) (hlb : x.label < 256) (hT : BlkOk its it bc bf a cp xs pi vf at_ x.thn) (hL : BlkOk its it bc bf a cp xs pi vf at_ x.els) : StmOk its it bc bf a cp xs pi vf at_ x := by
  intro I b o tc cs un sc s sa sp da dp hun hsl hn1 hn2 hC hp hx
  obtain ⟨s1, s2, s3, s4, s5⟩ := Sp.small_parts hsm
  have hcnt := Sp.Stm.cnt_eq x
  refine CalM.of fun w E hm => enter (N := 136) Tryd.func47 rfl [(0, ptr bc), (1, .pointer (some ⟨b, o, none⟩)), (2, nt un)] args3 rfl ?_
  obtain ⟨ea, ec, ex, a1, c1, xs1, a2, c2, xs2, rfl, hr3, hx3, hr4, hx4, hr5, hx5⟩ := hx.out
  have hpe := hp.sub (cs' := exCells x.e ea ec) 5 (fun j u hj => by
    match j, hj with
    | 0, hj => exact hj
    | 1, hj => exact hj
    | 2, hj => exact hj
    | 3, hj => exact hj
    | 4, hj => exact hj
    | 5, hj => exact hj
    | j + 6, hj => cases hj)
  rw [Sp.stmF_eq]
  have hu1 := Sp.unF_lt hC.lab hsl x.kind hun x.e
  have hur : Sp.unF its sc x.kind un x.e = if x.kind = 4 then Sp.plainF its sc x.e ||| un else un := rfl
  generalize Sp.unF its sc x.kind un x.e = un1 at hu1 hur ⊢
  repeat' (first
  | (refine wc_cut_regH 0 (fun _ : FX => [(0, ptr bc), (1, .pointer (some ⟨b, o, none⟩)), (2, nt un1)]) (fun x w' => Mem E I (FSt bc bf pi sc sa sp s da dp vf at_) w') ?_ ?_))
  · refine ⟨?_⟩
    by_cases k4 : x.kind = 4
    · rw [if_pos k4] at hur
      subst hur
      have hpl := Sp.plainF_lt hC.lab hsl x.e
      have hg := CalR.flow (I := I) (bc := bc) (bf := bf) (pi := pi) (sc := sc) (sa := sa) (sp := sp) (s := s) (da := da) (dp := dp) (vf := vf) (at_ := at_) (fun J m h => f_plain0 (by omega) hsl _ x.e (Nat.le_refl _) s1 J b (o + 5) tc ea ec ex h (hC.le m) (hpe.le m) (hr3.le m) (ExsAt.le m _ _ hx3))
      repeat' (first
      | (refine m_readC (d:=18) hm (hs:=sub3_0) (hc:=by exact hg) (k:=?_); clear hm; intro _ hm)
      | (refine op_call (d:=20) (hc:=by exact c_join _ _ hpl hun _) (k:=?_); rintro _ _ ⟨rfl, rfl⟩)
      | refine i_load1 hm (k:=?_)
      | refine op_move (k:=?_)
      | refine op_assign (k:=?_)
      | refine op_eql (k:=?_)
      | refine op_nilCheck (k:=?_)
      | refine op_fieldAddr (k:=?_)
      | refine wl_nil ?_
      | refine at_then_normal ?_
      | refine wc_seq ?_
      | refine wc_region ?_
      | (refine wc_cond_dec (ht:=fun _ => ?_) (hf:=fun _ => ?_)<;> (try first | contradiction | (exfalso; omega))))
      all_goals try (exfalso; omega)
      exact at_cut (⟨0, I, sa, sp, da, dp⟩ : FX) (by exact ⟨rfl, rfl, rfl, trivial⟩) hm
    · rw [if_neg k4] at hur
      subst hur
      repeat' (first
      | refine i_load1 hm (k:=?_)
      | refine op_move (k:=?_)
      | refine op_eql (k:=?_)
      | refine op_nilCheck (k:=?_)
      | refine op_fieldAddr (k:=?_)
      | refine wl_nil ?_
      | refine at_then_normal ?_
      | refine wc_seq ?_
      | refine wc_region ?_
      | refine wc_skip ?_
      | (refine wc_cond_dec (ht:=fun _ => ?_) (hf:=fun _ => ?_)<;> (try first | contradiction | (exfalso; omega))))
      all_goals try (exfalso; omega)
      exact at_cut (⟨0, I, sa, sp, da, dp⟩ : FX) (by exact ⟨rfl, rfl, rfl, trivial⟩) hm
  clear hm hur
  rintro ⟨_, _, _, _, _, _⟩ w1 hm
  try dsimp only at hm ⊢
  have hE := f_expr (its := its) (it := it) (bc := bc) (bf := bf) (a := a) (cp := cp) (xs := xs) (pi := pi) (vf := vf) (at_ := at_) hu1 (by omega) hsl _ x.e (Nat.le_refl _) s1 I b (o + 5) tc ea ec ex s sa sp da dp (by omega) hC hpe hr3 hx3
  have hl1 := Sp.exF_lt hC.lab at_ hsl un1 x.e s
  have hnx := Sp.exF_n its at_ sc un1 x.e s
  generalize Sp.exF its at_ sc un1 x.e s = r at hE hl1 hnx ⊢
  have hl2 := Sp.or_lt hl1 hu1
  obtain ⟨av, hav⟩ : ∃ av, av = r.1 ||| un1 := ⟨_, rfl⟩
  rw [← hav] at hl2 ⊢
  have hJ := c_join r.1 un1 hl1 hu1
  rw [← hav] at hJ
  have hto := fun (J : Imm) (m : Le I J) (c : Nat) (hc : c < 256) (sa : Option Addr) (sp : Nat) (da : Option Addr) (dp : Nat) => f_to (I := J) (bc := bc) (bf := bf) (pi := pi) (sc := sc) (sa := sa) (sp := sp) (s := r.2) (da := da) (dp := dp) (vf := vf) (at_ := at_) x b o tc _ (hp.le m) (StAt.le m _ _ hx) av c hl2 hc (by omega)
  rw [Sp.coreStm]
  by_cases k1 : x.kind = 1
  · rw [if_pos k1]
    cases ho : x.opn with
    | true =>
      rw [ho] at hp
      simp only [if_true]
      have hto1 := fun (J : Imm) (m : Le I J) (sa : Option Addr) (sp : Nat) (da : Option Addr) (dp : Nat) => hto J m av hl2 sa sp da dp
      generalize hs6 : Sp.FW.ask r.2 av av x.fr x.to x.name = s6 at hto1 ⊢
      repeat' (first
      | (refine m_call (d:=26) hm (hc:=hE) (k:=?_); clear hm; rintro _ I2 _ _ ⟨rfl, sa2, sp2, da2, dp2, rfl⟩ hle hm; have hleI2 := hle; try simp only [setn] at hm; have hp2 := hp.le hleI2)
      | (refine op_call (d:=28) (hc:=by exact hJ _) (k:=?_); rintro _ _ ⟨rfl, rfl⟩)
      | (refine m_call (d:=48) hm (hc:=hto1 I2 hleI2 sa2 sp2 da2 dp2) (k:=?_); clear hm; rintro _ I3 _ _ ⟨rfl, sa3, sp3, da3, dp3, rfl⟩ hle hm; have hleI3 := hle; try simp only [setn] at hm; have hp3 := hp2.le hleI3)
      | (refine wc_semi_mem (id:=9) (hm.perm pm1_1) 11 13 (h:=?_); clear hm; intro wd hR hm)
      | refine mw_load1 hR (k:=?_)
      | refine iw_load1 hR (k:=?_)
      | (refine mt_push (d:=61) hm (k:=?_); clear hm; intro a61 cp61 _ _ hm; replace hm := hR.back hm; clear hR; try simp only [setn] at hm)
      | refine i_load1 hm (k:=?_)
      | (refine m_store1 hm (k:=?_); clear hm; intro _ hm; try simp only [setn] at hm)
      | refine op_move (k:=?_)
      | refine op_assign (k:=?_)
      | refine op_eql (k:=?_)
      | refine op_nilCheck (k:=?_)
      | refine op_fieldAddr (k:=?_)
      | refine wl_nil ?_
      | refine at_then_normal ?_
      | refine at_block_normal ?_
      | refine wc_seq ?_
      | refine wc_region ?_
      | refine wc_block ?_
      | refine at_end0 (h:=?_)
      | refine wc_cond_true (ht:=?_)
      | (refine wc_cond_dec (ht:=fun _ => ?_) (hf:=fun _ => ?_)<;> (try first | contradiction | (exfalso; omega)))
      | refine v_move (k:=?_)
      | refine v_nilCheck (k:=?_)
      | refine v_fieldAddr (k:=?_)
      | refine v_struct (k:=?_)
      | refine wv_nil ?_)
      all_goals try (exfalso; omega)
      exact ⟨I3, _, ⟨rfl, _, _, _, _, FSt_snoc _ _ _ _ _ _ _ _ _ _ _ _ _⟩, hm.swap⟩
    | false =>
      rw [ho] at hp
      simp only [Bool.false_eq_true, if_false]
      have hto1 := fun (J : Imm) (m : Le I J) (sa : Option Addr) (sp : Nat) (da : Option Addr) (dp : Nat) => hto J m x.label hlb sa sp da dp
      generalize hs6 : Sp.FW.ask r.2 av x.label x.fr x.to x.name = s6 at hto1 ⊢
      repeat' (first
      | (refine m_call (d:=26) hm (hc:=hE) (k:=?_); clear hm; rintro _ I2 _ _ ⟨rfl, sa2, sp2, da2, dp2, rfl⟩ hle hm; have hleI2 := hle; try simp only [setn] at hm; have hp2 := hp.le hleI2)
      | (refine op_call (d:=28) (hc:=by exact hJ _) (k:=?_); rintro _ _ ⟨rfl, rfl⟩)
      | (refine m_call (d:=48) hm (hc:=hto1 I2 hleI2 sa2 sp2 da2 dp2) (k:=?_); clear hm; rintro _ I3 _ _ ⟨rfl, sa3, sp3, da3, dp3, rfl⟩ hle hm; have hleI3 := hle; try simp only [setn] at hm; have hp3 := hp2.le hleI3)
      | (refine wc_semi_mem (id:=9) (hm.perm pm1_1) 11 13 (h:=?_); clear hm; intro wd hR hm)
      | refine mw_load1 hR (k:=?_)
      | refine iw_load1 hR (k:=?_)
      | (refine mt_push (d:=61) hm (k:=?_); clear hm; intro a61 cp61 _ _ hm; replace hm := hR.back hm; clear hR; try simp only [setn] at hm)
      | refine i_load1 hm (k:=?_)
      | (refine m_store1 hm (k:=?_); clear hm; intro _ hm; try simp only [setn] at hm)
      | refine op_move (k:=?_)
      | refine op_assign (k:=?_)
      | refine op_eql (k:=?_)
      | refine op_nilCheck (k:=?_)
      | refine op_fieldAddr (k:=?_)
      | refine wl_nil ?_
      | refine at_then_normal ?_
      | refine at_block_normal ?_
      | refine wc_seq ?_
      | refine wc_region ?_
      | refine wc_block ?_
      | refine wc_skip ?_
      | refine at_end0 (h:=?_)
      | refine wc_cond_false (hf:=?_)
      | (refine wc_cond_dec (ht:=fun _ => ?_) (hf:=fun _ => ?_)<;> (try first | contradiction | (exfalso; omega)))
      | refine v_move (k:=?_)
      | refine v_nilCheck (k:=?_)
      | refine v_fieldAddr (k:=?_)
      | refine v_struct (k:=?_)
      | refine wv_nil ?_)
      all_goals try (exfalso; omega)
      exact ⟨I3, _, ⟨rfl, _, _, _, _, FSt_snoc _ _ _ _ _ _ _ _ _ _ _ _ _⟩, hm.swap⟩
  rw [if_neg k1]
  by_cases k2 : x.kind = 2
  · rw [if_pos k2]
    have hg := fun (J : Imm) (sa : Option Addr) (sp : Nat) (da : Option Addr) (dp : Nat) => CalR.flow (I := J) (bc := bc) (bf := bf) (pi := pi) (sc := sc) (sa := sa) (sp := sp) (s := r.2) (da := da) (dp := dp) (vf := vf) (at_ := at_) (fun J m h => f_get0 x.name (by omega) h)
    have hgl := Sp.getF_lt hsl x.name
    repeat' (first
    | (refine m_call (d:=26) hm (hc:=hE) (k:=?_); clear hm; rintro _ I2 _ _ ⟨rfl, sa2, sp2, da2, dp2, rfl⟩ hle hm; have hleI2 := hle; try simp only [setn] at hm; have hp2 := hp.le hleI2; have hCf2 := hC.file.le hleI2)
    | (refine op_call (d:=28) (hc:=by exact hJ _) (k:=?_); rintro _ _ ⟨rfl, rfl⟩)
    | (refine m_readC (d:=74) hm (hs:=sub3_0) (hc:=by exact hg I2 sa2 sp2 da2 dp2) (k:=?_); clear hm; intro _ hm)
    | (refine m_call (d:=75) hm (hc:=hto I2 hleI2 _ hgl sa2 sp2 da2 dp2) (k:=?_); clear hm; rintro _ I3 _ _ ⟨rfl, sa3, sp3, da3, dp3, rfl⟩ hle hm; have hleI3 := hle; try simp only [setn] at hm)
    | refine i_load1 hm (k:=?_)
    | refine op_move (k:=?_)
    | refine op_assign (k:=?_)
    | refine op_eql (k:=?_)
    | refine op_nilCheck (k:=?_)
    | refine op_fieldAddr (k:=?_)
    | refine wl_nil ?_
    | refine at_then_normal ?_
    | refine at_block_normal ?_
    | refine wc_seq ?_
    | refine wc_region ?_
    | refine wc_block ?_
    | refine at_end0 (h:=?_)
    | (refine wc_cond_dec (ht:=fun _ => ?_) (hf:=fun _ => ?_)<;> (try first | contradiction | (exfalso; omega))))
    all_goals try (exfalso; omega)
    exact ⟨I3, _, ⟨rfl, _, _, _, _, rfl⟩, hm⟩
  rw [if_neg k2]
  by_cases k5 : x.kind = 5
  · rw [if_pos k5]
    have hfind := fun (J : Imm) (m : Le I J) => (n_find 1 x.name its J a cp xs (hC.fe.le m)).read
    rw [Sp.askCh]
    cases hf : Sp.findIt its 1 x.name with
    | none =>
      rw [Sp.findV_none hf] at hfind
      repeat' (first
      | (refine m_call (d:=26) hm (hc:=hE) (k:=?_); clear hm; rintro _ I2 _ _ ⟨rfl, sa2, sp2, da2, dp2, rfl⟩ hle hm; have hleI2 := hle; try simp only [setn] at hm; have hp2 := hp.le hleI2; have hCf2 := hC.file.le hleI2)
      | (refine op_call (d:=28) (hc:=by exact hJ _) (k:=?_); rintro _ _ ⟨rfl, rfl⟩)
      | (refine mq_readC (d:=88) hm (hc:=hfind I2 hleI2) (k:=?_))
      | refine i_load1 hm (k:=?_)
      | refine mq_load1 hm (k:=?_)
      | refine iq_load1 hm (k:=?_)
      | refine iq_loadN hm (k:=?_)
      | refine op_move (k:=?_)
      | refine op_assign (k:=?_)
      | refine op_geq (k:=?_)
      | refine op_eql (k:=?_)
      | refine op_nilCheck (k:=?_)
      | refine op_fieldAddr (k:=?_)
      | refine wl_nil ?_
      | refine at_then_normal ?_
      | refine at_block_normal ?_
      | refine wc_seq ?_
      | refine wc_region ?_
      | refine wc_block ?_
      | refine wc_skip ?_
      | refine at_end0 (h:=?_)
      | refine wc_quiet (h:=?_)
      | (refine wq_nil ?_; intro _ hkq; replace hm := hm.kept0 hkq; clear hkq)
      | refine wc_cond_false (hf:=?_)
      | (refine wc_cond_dec (ht:=fun _ => ?_) (hf:=fun _ => ?_)<;> (try first | contradiction | (exfalso; omega)))
      | refine q_move (k:=?_)
      | refine q_assign (k:=?_)
      | refine q_nilCheck (k:=?_)
      | refine q_fieldAddr (k:=?_))
      all_goals try (exfalso; omega)
      exact ⟨I2, _, ⟨rfl, _, _, _, _, rfl⟩, hm⟩
    | some j =>
      rw [Sp.findV_some hf] at hfind
      obtain ⟨hj, _, _, _, hmemj⟩ := Sp.findIt_lt hf
      obtain ⟨ci, hci, hat, hlc⟩ := hC.fe.get (Sp.itNo_get hj)
      obtain ⟨pa, pc, sa9, sc9, ba, bc9, da9, dc9, xb, rfl, _⟩ := hat
      have hjl := (hC.lab _ hmemj).1
      have hri := hC.fe.row
      have hfew := hC.fe.few
      repeat' (first
      | (refine m_call (d:=26) hm (hc:=hE) (k:=?_); clear hm; rintro _ I2 _ _ ⟨rfl, sa2, sp2, da2, dp2, rfl⟩ hle hm; have hleI2 := hle; try simp only [setn] at hm; have hp2 := hp.le hleI2; have hCf2 := hC.file.le hleI2)
      | (refine op_call (d:=28) (hc:=by exact hJ _) (k:=?_); rintro _ _ ⟨rfl, rfl⟩)
      | (refine mq_readC (d:=88) hm (hc:=hfind I2 hleI2) (k:=?_))
      | (refine i_indexAddr (d:=102) (hr:=hri.le hleI2) (k:=?_); intro bu ou hpu; rw [show ((j : Int).toNat * 10) = j * 10 from rfl, hci] at hpu)
      | (refine m_call (d:=105) hm (hc:=hto I2 hleI2 _ hjl sa2 sp2 da2 dp2) (k:=?_); clear hm; rintro _ I3 _ _ ⟨rfl, sa3, sp3, da3, dp3, rfl⟩ hle hm; have hleI3 := hle; try simp only [setn] at hm)
      | refine m_load1 hm (k:=?_)
      | refine i_load1 hm (k:=?_)
      | refine mq_load1 hm (k:=?_)
      | refine iq_load1 hm (k:=?_)
      | refine iq_loadN hm (k:=?_)
      | refine op_move (k:=?_)
      | refine op_assign (k:=?_)
      | refine op_geq (k:=?_)
      | refine op_eql (k:=?_)
      | refine op_nilCheck (k:=?_)
      | refine op_fieldAddr (k:=?_)
      | refine wl_nil ?_
      | refine at_then_normal ?_
      | refine at_block_normal ?_
      | refine wc_seq ?_
      | refine wc_region ?_
      | refine wc_block ?_
      | refine at_end0 (h:=?_)
      | refine wc_quiet (h:=?_)
      | (refine wq_nil ?_; intro _ hkq; replace hm := hm.kept0 hkq; clear hkq)
      | refine wc_cond_true (ht:=?_)
      | (refine wc_cond_dec (ht:=fun _ => ?_) (hf:=fun _ => ?_)<;> (try first | contradiction | (exfalso; omega)))
      | refine q_move (k:=?_)
      | refine q_assign (k:=?_)
      | refine q_nilCheck (k:=?_)
      | refine q_fieldAddr (k:=?_))
      all_goals try (exfalso; omega)
      exact ⟨I3, _, ⟨rfl, _, _, _, _, rfl⟩, hm⟩
  rw [if_neg k5]
  by_cases k6 : x.kind = 6
  · rw [if_pos k6]
    obtain ⟨bi, oi, tci, ci, rfl, hpi, hati⟩ := hC.item
    obtain ⟨pa, pc, sa9, sc9, ba, bc9, da9, dc9, xb, rfl, _⟩ := hati
    repeat' (first
    | (refine m_call (d:=26) hm (hc:=hE) (k:=?_); clear hm; rintro _ I2 _ _ ⟨rfl, sa2, sp2, da2, dp2, rfl⟩ hle hm; have hleI2 := hle; try simp only [setn] at hm; have hp2 := hp.le hleI2; have hpi2 := hpi.le hleI2; have hCf2 := hC.file.le hleI2)
    | (refine op_call (d:=28) (hc:=by exact hJ _) (k:=?_); rintro _ _ ⟨rfl, rfl⟩)
    | (refine m_call (d:=118) hm (hc:=hto I2 hleI2 _ hC.own sa2 sp2 da2 dp2) (k:=?_); clear hm; rintro _ I3 _ _ ⟨rfl, sa3, sp3, da3, dp3, rfl⟩ hle hm; have hleI3 := hle; try simp only [setn] at hm)
    | refine m_load1 hm (k:=?_)
    | refine i_load1 hm (k:=?_)
    | refine op_move (k:=?_)
    | refine op_assign (k:=?_)
    | refine op_eql (k:=?_)
    | refine op_nilCheck (k:=?_)
    | refine op_fieldAddr (k:=?_)
    | refine wl_nil ?_
    | refine at_then_normal ?_
    | refine at_block_normal ?_
    | refine wc_seq ?_
    | refine wc_region ?_
    | refine wc_block ?_
    | refine at_end0 (h:=?_)
    | (refine wc_cond_dec (ht:=fun _ => ?_) (hf:=fun _ => ?_)<;> (try first | contradiction | (exfalso; omega))))
    all_goals try (exfalso; omega)
    exact ⟨I3, _, ⟨rfl, _, _, _, _, rfl⟩, hm⟩
  rw [if_neg k6]
  by_cases k34 : x.kind = 3 ∨ x.kind = 4
  · rw [if_pos k34]
    have hb1 := fun (J : Imm) (m : Le I J) (sa : Option Addr) (sp : Nat) (da : Option Addr) (dp : Nat) => hT J a1 c1 xs1 av sc r.2 sa sp da dp hl2 hsl (by omega) (by omega) (hC.le m) (hr4.le m) (StsAt.le m _ _ hx4)
    have hnn := Sp.stmsF_n its it.label at_ x.thn sc av r.2
    generalize Sp.stmsF its it.label at_ x.thn sc av r.2 = r7 at hb1 hnn ⊢
    have hb2 := fun (J : Imm) (m : Le I J) (sa : Option Addr) (sp : Nat) (da : Option Addr) (dp : Nat) => hL J a2 c2 xs2 av sc r7.2 sa sp da dp hl2 hsl (by omega) (by omega) (hC.le m) (hr5.le m) (StsAt.le m _ _ hx5)
    repeat' (first
    | (refine m_call (d:=26) hm (hc:=hE) (k:=?_); clear hm; rintro _ I2 _ _ ⟨rfl, sa2, sp2, da2, dp2, rfl⟩ hle hm; have hleI2 := hle; try simp only [setn] at hm; have hp2 := hp.le hleI2; have hCf2 := hC.file.le hleI2)
    | (refine op_call (d:=28) (hc:=by exact hJ _) (k:=?_); rintro _ _ ⟨rfl, rfl⟩)
    | (refine m_call (d:=128) hm (hc:=hb1 I2 hleI2 sa2 sp2 da2 dp2) (k:=?_); clear hm; rintro _ I3 _ _ ⟨rfl, sa3, sp3, da3, dp3, rfl⟩ hle hm; have hleI3 := hle; try simp only [setn] at hm; have hp3 := hp2.le hleI3)
    | (refine m_call (d:=135) hm (hc:=hb2 I3 (hleI2.trans hleI3) sa3 sp3 da3 dp3) (k:=?_); clear hm; rintro _ I4 _ _ ⟨rfl, sa4, sp4, da4, dp4, rfl⟩ hle hm; have hleI4 := hle; try simp only [setn] at hm)
    | refine i_load1 hm (k:=?_)
    | refine op_move (k:=?_)
    | refine op_assign (k:=?_)
    | refine op_eql (k:=?_)
    | refine op_nilCheck (k:=?_)
    | refine op_fieldAddr (k:=?_)
    | refine wl_nil ?_
    | refine at_then_normal ?_
    | refine at_block_normal ?_
    | refine wc_seq ?_
    | refine wc_region ?_
    | refine wc_block ?_
    | refine wc_skip ?_
    | refine at_end0 (h:=?_)
    | (refine wc_cond_dec (ht:=fun _ => ?_) (hf:=fun _ => ?_)<;> (try first | contradiction | (exfalso; omega))))
    all_goals try (exfalso; omega)
    all_goals exact ⟨I4, _, ⟨rfl, _, _, _, _, rfl⟩, hm⟩
  · rw [if_neg k34]
    repeat' (first
    | (refine m_call (d:=26) hm (hc:=hE) (k:=?_); clear hm; rintro _ I2 _ _ ⟨rfl, sa2, sp2, da2, dp2, rfl⟩ hle hm; have hleI2 := hle; try simp only [setn] at hm; have hp2 := hp.le hleI2; have hCf2 := hC.file.le hleI2)
    | (refine op_call (d:=28) (hc:=by exact hJ _) (k:=?_); rintro _ _ ⟨rfl, rfl⟩)
    | refine i_load1 hm (k:=?_)
    | refine op_move (k:=?_)
    | refine op_assign (k:=?_)
    | refine op_eql (k:=?_)
    | refine op_nilCheck (k:=?_)
    | refine op_fieldAddr (k:=?_)
    | refine wl_nil ?_
    | refine at_then_normal ?_
    | refine at_block_normal ?_
    | refine wc_seq ?_
    | refine wc_region ?_
    | refine wc_block ?_
    | refine wc_skip ?_
    | refine at_end0 (h:=?_)
    | (refine wc_cond_dec (ht:=fun _ => ?_) (hf:=fun _ => ?_)<;> (try first | contradiction | (exfalso; omega))))
    all_goals try (exfalso; omega)
    exact ⟨I2, _, ⟨rfl, _, _, _, _, rfl⟩, hm⟩
end
end Go.Proofs.YthmdffgiockcbaaDoor
end
