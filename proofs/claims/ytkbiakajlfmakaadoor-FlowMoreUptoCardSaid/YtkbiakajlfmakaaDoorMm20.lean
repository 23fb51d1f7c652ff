/- Own work: texts FwFork, FlD, FwCut, FlE, one behind the other. -/
import Derived.Test.YtkbiakajlfmakaaDoorMm19
section
namespace Go.Fw
open Go
section
variable {P : Program} {ops : Array Oper} {md : Region.Mode} {C : World → Prop}
/-- operation 'i' yields a value, or nothing. -/
def uOp (P : Program) (ops : Array Oper) (i : Nat) (K : Act → World → Prop) (a : Act) (w : World) : Prop :=
  match ops[i]? with
  | none => K a w
  | some o => if Region.wanted o (yielded ops a.tmps) then (∃ u w', (execOp a.eval o).run P w = .ok (.value u) w' ∧ K (a.put o.dst u) w') ∨
      (∃ f args, (execOp a.eval o).run P w = .ok (.enter f args) w ∧ Calls P f args w (fun e w' => ∃ u, e = .returned u ∧ K (a.put o.dst u) w')) ∨
      (∃ w', (execOp a.eval o).run P w = .ok .skip w' ∧ K (a.put o.dst undef) w') else K (a.put o.dst undef) w
theorem YieldsV.uOp {i : Nat} {o : Oper} {v : Value} {a : Act} {w : World} (hi : ops[i]? = some o) (hy : YieldsV P ops C o v a) (hC : C w) {K : Act → World → Prop} (h : K (a.put o.dst v) w) : uOp P ops i K a w := by
  unfold Fw.uOp
  simp only [hi]
  rcases hy with ⟨hw, hv⟩ | ⟨hw, rfl⟩
  · rw [if_pos hw]; exact .inl ⟨v, w, hv w hC, h⟩
  · rw [if_neg (by rw [hw]; simp)]; exact h
/-- the first 'n', in any order; the class is kept. -/
def anyU (P : Program) (md : Region.Mode) (ops : Array Oper) (C : World → Prop) (n : Nat) (L : Array Bool → Act → World → Prop) : Nat → Array Bool → Act → World → Prop
  | 0, listed, a, w => L listed a w
  | f + 1, listed, a, w => Region.ready md ops listed ≠ [] ∧ ∀ i ∈ Region.ready md ops listed, i < n ∧ uOp P ops i (fun a' w' => C w' ∧ anyU P md ops C n L f (listed.setIfInBounds i true) a' w') a w
end
section
variable {P : Program} {N : Nat} {ds : List Deferred} {X : List Nat} {Q : Exit → Act → World → Prop} {l : Log} {w w' w0 : World} {os tail : List Oper} {ops : Array Oper} {E : Ent} {I : Imm} {G R H : List HItem} {o : Oper}
/-- what is still to come, in any order. -/
structure WA (P : Program) (N : Nat) (ds : List Deferred) (ops : Array Oper) (Q : Exit → Act → World → Prop) (X : List Nat) (w0 : World) (n f : Nat) (listed : Array Bool) (tail : List Oper) (l : Log) (w : World) : Prop where
  run : ∀ a, Fits N ds l a → anyU P .any ops (fun w' => Kept X w0 w') n (fun listed' a' w' => Region.seqB .any ops (ops.size - n) n listed' = true ∧ wpList P ops Q tail a' w') f listed a w
/-- one operation, now. -/
structure WU (P : Program) (N : Nat) (ds : List Deferred) (ops : Array Oper) (Q : Exit → Act → World → Prop) (X : List Nat) (w0 : World) (n f : Nat) (listed : Array Bool) (tail : List Oper) (o : Oper) (l : Log) (w : World) : Prop where
  run : ∀ a, Fits N ds l a → ∀ i, ops[i]? = some o → uOp P ops i (fun a' w' => Kept X w0 w' ∧ anyU P .any ops (fun w' => Kept X w0 w') n (fun listed' a' w' => Region.seqB .any ops (ops.size - n) n listed' = true ∧ wpList P ops Q tail a' w') f listed a' w') a w
variable {d : Nat} {ty : TypeId} {pos : String} {af : Array Edge} {g : Option (Nat × Bool)} {t t' : TypeId} {x y z : Operand} {n f : Nat} {listed : Array Bool}
/-- a walk holds here. -/
structure WHold (p : Prop) : Prop where
  out : p
theorem wc_hold (id : Nat) {dr : Bool} (h : WHold (WC P N ds (.region id ops dr) Q l w)) : WC P N ds (.region id ops dr) Q l w := h.out
theorem iw_indexAddr {e : TypeId} {sz by_ : Nat} {KV : Act → Prop} [TySlice P t e] [Elem P e sz by_] {a : Option Addr} {m cp : Nat} {i : Int} {xs : List Value} (hw : want ops l ⟨some d, .indexAddr t x y, ty, pos, af, g⟩ = some true) (hN : Nat.blt d N = true)
    (hx : ev l x = some (.slice a m cp)) (hy : ev l y = some (.int .i64 i)) (hr : RowI I e sz (.slice a m cp) m xs) (h0 : 0 ≤ i) (h1 : i < m)
    (k : ∀ b off, PtrI I b off e ((xs.drop (i.toNat * sz)).take sz) → WV P N ds ops X w KV os ((d, .pointer (some ⟨b, off, none⟩)) :: l)) :
    WV P N ds ops X w KV (⟨some d, .indexAddr t x y, ty, pos, af, g⟩ :: os) l := by
  obtain ⟨b, off, rfl, hp⟩ := hr.at_ i.toNat (by omega)
  exact v_indexAddr hw hN hx hy h0 h1 (k b _ hp)
end
end Go.Fw
end
section
namespace Go.Fw
theorem wc_cut_regH {P : Program} {N : Nat} {ds : List Deferred} {Q : Exit → Act → World → Prop} {l : Log} {w : World} (id : Nat) {ops : Array Oper} {dr : Bool} {x y : Code} {α : Type} (L : α → Log) (J : α → World → Prop)
    (h : WHold (WC P N ds (.seq (.region id ops dr) x) (Exit.then (fun a w => ∃ x, Fits N ds (L x) a ∧ J x w) Q) l w))
    (k : ∀ x w, J x w → WC P N ds y Q (L x) w) : WC P N ds (.seq (.seq (.region id ops dr) x) y) Q l w := wc_cut_reg id L J h.out k
end Go.Fw
namespace Go.Proofs.YtkbiakajlfmakaaDoor
open Go.Fw
section
variable {its : List Sp.Itm} {it : Sp.Itm} {bc bf : Nat} {a : Option Addr} {cp : Nat} {xs : List Value} {pi vf : Value} {sc : List Sp.Lc} {at_ : Int} {un : Nat}
set_option maxHeartbeats 16000000 in
theorem f_expr (hun : un < 256) (hsc : sc.length ≤ 1099511627776) (hsl : Sp.scLab sc) : ∀ (n : Nat) (e : Sp.Ex), SizeOf.sizeOf e ≤ n → e.small → ExprOk its it bc bf a cp xs pi vf sc at_ un e := by
  intro n
  induction n with
  | zero => intro e h; cases e; simp at h
  | succ n ih =>
  intro e hsz hsm I b o tc ea ec ys s sa sp da dp hn hC hp hr hx
  obtain ⟨hal, hasm⟩ := Sp.small_args hsm
  have hcnt := Sp.Ex.cnt_eq e
  refine CalM.of fun w E hm => enter (N := 86) Tryd.func192 rfl [(0, ptr bc), (1, .pointer (some ⟨b, o, none⟩)), (2, nt un)] args3 rfl ?_
  have hcore := Sp.coreF_ds its at_ sc un e s
  rw [Sp.exF_eq]
  have hlt := Sp.exF_lt hC.lab at_ hsl un e s
  rw [Sp.exF_eq] at hlt
  dsimp only at hlt ⊢
  have hcr : Sp.coreF its at_ sc un e s = if e.kind = 2 then (Sp.getF sc e.name, s) else if e.kind = 3 then Sp.opsF its at_ sc un e.args 0 s else
    if e.kind = 4 then (Sp.callLab its e.name, Sp.askFloor its un e.name e.fr e.to (Sp.argsF its at_ sc un e.name e.args 0 s)) else (0, s) := rfl
  generalize Sp.coreF its at_ sc un e s = r at hcr hcore hlt ⊢
  repeat' (first
    | (refine wc_cut_regH 2 (fun _ : FX => [(0, ptr bc), (1, .pointer (some ⟨b, o, none⟩)), (2, nt un), (7, nt r.1)]) (fun x w' => Mem E x.I (FSt bc bf pi sc x.sa x.sp r.2 x.da x.dp vf at_) w' ∧ Le I x.I) ?_ ?_)
    | refine op_assign (by rfl) (by rfl) (by rfl) ?_
    | refine wl_nil ?_
    | refine at_then_normal ?_
    | refine wc_seq ?_
    | refine wc_region ?_)
  · refine ⟨?_⟩
    by_cases k2 : e.kind = 2
    · rw [if_pos k2] at hcr
      subst hcr
      have hg := CalR.flow (I := I) (bc := bc) (bf := bf) (pi := pi) (sc := sc) (sa := sa) (sp := sp) (s := s) (da := da) (dp := dp) (vf := vf) (at_ := at_) (fun J m h => f_get0 e.name hsc h)
      repeat' (first
        | (refine m_readC (d := 20) hm (by rfl) (by rfl) (by rfl) sub3_0 (by exact hg) ?_; clear hm; intro _ hm)
        | refine i_load1 hm (by rfl) (by rfl) (by rfl) (by assumption) (by rfl) ?_
        | refine op_move (by rfl) (by rfl) (by rfl) ?_
        | refine op_assign (by rfl) (by rfl) (by rfl) ?_
        | refine op_eql (by rfl) (by rfl) (by rfl) (by rfl) ?_
        | refine op_nilCheck (by rfl) (by rfl) (by rfl) ?_
        | refine op_fieldAddr (by rfl) (by rfl) (by rfl) ?_
        | refine wl_nil ?_
        | refine at_then_normal ?_
        | refine at_block_normal ?_
        | refine wc_seq ?_
        | refine wc_region ?_
        | refine wc_block ?_
        | (refine wc_cond_dec (by rfl) (fun _ => ?_) (fun _ => ?_) <;> (try first | contradiction | (exfalso; omega))))
      all_goals try (exfalso; omega)
      exact at_cut (⟨0, I, sa, sp, da, dp⟩ : FX) (by exact ⟨rfl, rfl, rfl, rfl, trivial⟩) ⟨hm, Le.refl _⟩
    rw [if_neg k2] at hcr
    by_cases k3 : e.kind = 3
    · rw [if_pos k3] at hcr
      repeat' (first
        | refine i_load1 hm (by rfl) (by rfl) (by rfl) (by assumption) (by rfl) ?_
        | refine op_move (by rfl) (by rfl) (by rfl) ?_
        | refine op_assign (by rfl) (by rfl) (by rfl) ?_
        | refine op_eql (by rfl) (by rfl) (by rfl) (by rfl) ?_
        | refine op_len_slice (by rfl) (by rfl) (by rfl) ?_
        | refine op_nilCheck (by rfl) (by rfl) (by rfl) ?_
        | refine op_fieldAddr (by rfl) (by rfl) (by rfl) ?_
        | refine wl_nil ?_
        | refine at_then_normal ?_
        | refine wc_seq ?_
        | refine wc_region ?_
        | refine wc_block ?_
        | (refine wc_cond_dec (by rfl) (fun _ => ?_) (fun _ => ?_) <;> (try first | contradiction | (exfalso; omega))))
      all_goals try (exfalso; omega)
      refine wc_loop (fun x : FX => [(0, ptr bc), (1, .pointer (some ⟨b, o, none⟩)), (2, nt un), (7, nt (Sp.opsF its at_ sc un (e.args.take x.k) 0 s).1), (27, nt e.args.length), (28, nt x.k)])
        (fun x w' => Mem E x.I (FSt bc bf pi sc x.sa x.sp (Sp.opsF its at_ sc un (e.args.take x.k) 0 s).2 x.da x.dp vf at_) w' ∧ Le I x.I ∧ x.k ≤ e.args.length) (fun x => e.args.length - x.k) ⟨0, I, sa, sp, da, dp⟩
        (by exact ⟨rfl, rfl, rfl, by rw [List.take_zero, Sp.opsF]; rfl, rfl, rfl, trivial⟩) ⟨by dsimp only; rw [List.take_zero, Sp.opsF]; exact hm, Le.refl _, Nat.zero_le _⟩ ?_
      clear hm
      rintro ⟨k, I1, sa1, sp1, da1, dp1⟩ w1 ⟨hm, hle1, hk⟩
      dsimp only at hm hle1 hk ⊢
      have hC1 := hC.le hle1
      have hp1 := hp.le hle1
      have hrow := hr.le hle1
      by_cases hlt : k < e.args.length
      · have hg : e.args[k]? = some e.args[k] := List.getElem?_eq_getElem hlt
        have hsz2 := Sp.size_args (List.getElem_mem hlt)
        have hsm2 := Sp.exsSmall_get hasm hg
        obtain ⟨ea2, ec2, ys2, hc2, hr2, hx2⟩ := (hx.get hg).out
        generalize e.args[k] = y at hg hsz2 hsm2 hc2 hr2 hx2
        have hst := Sp.opsF_step its at_ sc un hg 0 s
        have hcy := Sp.exsCnt_take_le hg
        have hnn := Sp.opsF_n its at_ sc un (e.args.take k) 0 s
        have hl1 := Sp.opsF_lt hC.lab at_ hsl un (e.args.take k) 0 s (by omega)
        generalize Sp.opsF its at_ sc un (e.args.take k) 0 s = q at hm hst hnn hl1 ⊢
        have hcl := ih y (by omega) hsm2
        have hl2 := Sp.exF_lt hC.lab at_ hsl un y q.2
        have hcl2 := fun b o tc (hpt : PtrI I1 b o tc (exCells y ea2 ec2)) => hcl I1 b o tc ea2 ec2 ys2 q.2 sa1 sp1 da1 dp1 (by omega) hC1 hpt (hr2.le hle1) (ExsAt.le hle1 _ _ hx2)
        generalize Sp.exF its at_ sc un y q.2 = p at hcl2 hst hl2
        repeat' (first
          | (refine i_indexAddr (d := 38) (by rfl) (by rfl) (by rfl) (by rfl) hrow (by omega) (by omega) ?_; intro bt ot hpt; rw [show ((k : Int).toNat * 6) = k * 6 from rfl, hc2] at hpt)
          | (refine m_call (d := 40) hm (by rfl) (by rfl) (by rfl) (by first | exact pm0 | exact pm1_0 | exact pm1_1 | exact pm1_2 | exact pm1_3 | exact pm2_0 | exact pm2_1 | exact pm2_2 | exact pm2_3 | exact pm2_4 | exact pm3_0 | exact pm3_1 | exact pm3_2) (hcl2 _ _ _ hpt) ?_; clear hm; rintro _ I2 _ _ ⟨rfl, sa2, sp2, da2, dp2, rfl⟩ hle hm; have hleI2 := hle; try simp only [setn] at hm)
          | (refine op_call (d := 41) (by rfl) (by rfl) (by rfl) (by exact c_join _ _ hl1 hl2 _) ?_; rintro _ _ ⟨rfl, rfl⟩)
          | refine i_load1 hm (by rfl) (by rfl) (by rfl) (by assumption) (by rfl) ?_
          | refine op_move (by rfl) (by rfl) (by rfl) ?_
          | refine op_assign (by rfl) (by rfl) (by rfl) ?_
          | refine op_lss (by rfl) (by rfl) (by rfl) (by rfl) ?_
          | refine op_nilCheck (by rfl) (by rfl) (by rfl) ?_
          | refine op_add (by rfl) (by rfl) (by rfl) (by rfl) (by omega) ?_
          | refine op_fieldAddr (by rfl) (by rfl) (by rfl) ?_
          | refine wl_nil ?_
          | refine at_then_normal ?_
          | refine at_block_normal ?_
          | refine wc_seq ?_
          | refine wc_region ?_
          | refine wc_block ?_
          | refine wc_skip ?_
          | (refine wc_cond_dec (by rfl) (fun _ => ?_) (fun _ => ?_) <;> (try first | contradiction | (exfalso; omega))))
        all_goals try (exfalso; omega)
        exact at_round (⟨k + 1, I2, sa2, sp2, da2, dp2⟩ : FX) (by exact ⟨rfl, rfl, rfl, by rw [hst]; rfl, rfl, rfl, trivial⟩) ⟨by dsimp only; rw [hst]; exact hm, hle1.trans hleI2, by dsimp only; omega⟩ (by dsimp only; omega)
      · obtain rfl : k = e.args.length := by omega
        rw [List.take_length, ← hcr] at hm
        rw [List.take_length, ← hcr]
        repeat' (first
          | refine op_lss (by rfl) (by rfl) (by rfl) (by rfl) ?_
          | refine wl_nil ?_
          | refine at_then_normal ?_
          | refine at_then_exit ?_
          | refine at_block_normal ?_
          | refine at_block_exit ?_
          | refine wc_seq ?_
          | refine wc_region ?_
          | refine wc_exit ?_
          | (refine wc_cond_dec (by rfl) (fun _ => ?_) (fun _ => ?_) <;> (try first | contradiction | (exfalso; omega))))
        all_goals try (exfalso; omega)
        exact at_cut (⟨0, I1, sa1, sp1, da1, dp1⟩ : FX) (by exact ⟨rfl, rfl, rfl, rfl, trivial⟩) ⟨hm, hle1⟩
    rw [if_neg k3] at hcr
    by_cases k4 : e.kind = 4
    · rw [if_pos k4] at hcr
      subst hcr
      have hc := f_call (at_ := at_) hun hsc hsl e hsm (fun y hy => ih y (by have := Sp.size_args hy; omega) (by obtain ⟨j, hj, rfl⟩ := List.getElem_of_mem hy; exact Sp.exsSmall_get hasm (List.getElem?_eq_getElem hj))) I b o tc ea ec ys s sa sp da dp hn hC hp hr hx
      repeat' (first
        | (refine m_call (d := 48) hm (by rfl) (by rfl) (by rfl) (by first | exact pm0 | exact pm1_0 | exact pm1_1 | exact pm1_2 | exact pm1_3 | exact pm2_0 | exact pm2_1 | exact pm2_2 | exact pm2_3 | exact pm2_4 | exact pm3_0 | exact pm3_1 | exact pm3_2) (hc) ?_; clear hm; rintro _ I2 _ _ ⟨rfl, sa2, sp2, da2, dp2, rfl⟩ hle hm; have hleI2 := hle; try simp only [setn] at hm)
        | refine i_load1 hm (by rfl) (by rfl) (by rfl) (by assumption) (by rfl) ?_
        | refine op_move (by rfl) (by rfl) (by rfl) ?_
        | refine op_assign (by rfl) (by rfl) (by rfl) ?_
        | refine op_eql (by rfl) (by rfl) (by rfl) (by rfl) ?_
        | refine op_nilCheck (by rfl) (by rfl) (by rfl) ?_
        | refine op_fieldAddr (by rfl) (by rfl) (by rfl) ?_
        | refine wl_nil ?_
        | refine at_then_normal ?_
        | refine at_block_normal ?_
        | refine wc_seq ?_
        | refine wc_region ?_
        | refine wc_block ?_
        | (refine wc_cond_dec (by rfl) (fun _ => ?_) (fun _ => ?_) <;> (try first | contradiction | (exfalso; omega))))
      all_goals try (exfalso; omega)
      exact at_cut (⟨0, I2, sa2, sp2, da2, dp2⟩ : FX) (by exact ⟨rfl, rfl, rfl, rfl, trivial⟩) ⟨hm, hleI2⟩
    · rw [if_neg k4] at hcr
      subst hcr
      repeat' (first
        | refine i_load1 hm (by rfl) (by rfl) (by rfl) (by assumption) (by rfl) ?_
        | refine op_move (by rfl) (by rfl) (by rfl) ?_
        | refine op_assign (by rfl) (by rfl) (by rfl) ?_
        | refine op_eql (by rfl) (by rfl) (by rfl) (by rfl) ?_
        | refine op_nilCheck (by rfl) (by rfl) (by rfl) ?_
        | refine op_fieldAddr (by rfl) (by rfl) (by rfl) ?_
        | refine wl_nil ?_
        | refine at_then_normal ?_
        | refine at_block_normal ?_
        | refine wc_seq ?_
        | refine wc_region ?_
        | refine wc_block ?_
        | refine wc_skip ?_
        | (refine wc_cond_dec (by rfl) (fun _ => ?_) (fun _ => ?_) <;> (try first | contradiction | (exfalso; omega))))
      all_goals try (exfalso; omega)
      exact at_cut (⟨0, I, sa, sp, da, dp⟩ : FX) (by exact ⟨rfl, rfl, rfl, rfl, trivial⟩) ⟨hm, Le.refl _⟩
  · clear hm
    rintro ⟨_, I1, sa1, sp1, da1, dp1⟩ w1 ⟨hm, hle1⟩
    dsimp only at hm hle1 ⊢
    have hp1 := hp.le hle1
    clear hcr hp hr hx
    cases hv : r.2.hv with
    | some m =>
      rw [Sp.hit_some hv]
      have e1 : r.2 = ⟨r.2.ds, some m⟩ := by rw [← hv]
      rw [e1] at hm ⊢
      repeat' (first
        | refine mq_load1 hm (by rfl) (by rfl) (by rfl) (by first | exact gt0 | exact gt1 | exact gt2 | exact gt3 | exact gt4 | exact gt5 | exact gt6) (by rfl) ?_
        | refine op_move (by rfl) (by rfl) (by rfl) ?_
        | refine op_assign (by rfl) (by rfl) (by rfl) ?_
        | refine wl_nil ?_
        | refine at_then_normal ?_
        | refine wc_seq ?_
        | refine wc_region ?_
        | refine wc_skip ?_
        | refine wc_ret ?_
        | refine at_ret1 (by rfl) (by rfl) ?_
        | refine wc_quiet (by kernel_rfl) ?_
        | (refine wq_nil ?_; intro _ hkq; replace hm := hm.kept0 hkq; clear hkq)
        | refine wc_cond_false (by rfl) ?_
        | refine q_move (by rfl) (by rfl) (by rfl) ?_
        | refine q_pick_false (by rfl) (by rfl) (by rfl) (by rfl) ?_
        | refine q_not (by rfl) (by rfl) (by rfl) ?_
        | refine q_nilCheck (by rfl) (by rfl) (by rfl) ?_
        | refine q_fieldAddr (by rfl) (by rfl) (by rfl) ?_
        | refine wq_skip (by rfl) (by rfl) (by rfl) ?_)
      all_goals try (exfalso; omega)
      exact ⟨I1, _, ⟨rfl, _, _, _, _, rfl⟩, hm⟩
    | none =>
      have e1 : r.2 = ⟨r.2.ds, none⟩ := by rw [← hv]
      by_cases hh : (e.fr : Int) ≤ at_ ∧ at_ < e.to
      · rw [Sp.hit_pos hv hh.1 hh.2]
        rw [e1] at hm
        repeat' (first
          | (refine op_call (d := 80) (by rfl) (by rfl) (by rfl) (by exact c_join _ _ hlt hun _) ?_; rintro _ _ ⟨rfl, rfl⟩)
          | refine mq_load1 hm (by rfl) (by rfl) (by rfl) (by first | exact gt0 | exact gt1 | exact gt2 | exact gt3 | exact gt4 | exact gt5 | exact gt6) (by rfl) ?_
          | refine iq_load1 hm (by rfl) (by rfl) (by rfl) (by assumption) (by rfl) ?_
          | (refine m_store1 hm (by rfl) (by rfl) (by rfl) (by rfl) (by first | exact gt0 | exact gt1 | exact gt2 | exact gt3 | exact gt4 | exact gt5 | exact gt6) (by rfl) (by rfl) (by rfl) ?_; clear hm; intro _ hm; try simp only [setn] at hm)
          | refine op_move (by rfl) (by rfl) (by rfl) ?_
          | refine op_assign (by rfl) (by rfl) (by rfl) ?_
          | refine op_nilCheck (by rfl) (by rfl) (by rfl) ?_
          | refine op_fieldAddr (by rfl) (by rfl) (by rfl) ?_
          | refine wl_nil ?_
          | refine at_then_normal ?_
          | refine wc_seq ?_
          | refine wc_region ?_
          | refine wc_ret ?_
          | refine at_ret1 (by rfl) (by rfl) ?_
          | refine wc_quiet (by kernel_rfl) ?_
          | (refine wq_nil ?_; intro _ hkq; replace hm := hm.kept0 hkq; clear hkq)
          | (refine wc_cond_dec (by rfl) (fun _ => ?_) (fun _ => ?_) <;> (try first | contradiction | (exfalso; omega)))
          | refine q_move (by rfl) (by rfl) (by rfl) ?_
          | refine q_pick_true (by rfl) (by rfl) (by rfl) (by rfl) ?_
          | refine q_lss (by rfl) (by rfl) (by rfl) (by rfl) ?_
          | refine q_leq (by rfl) (by rfl) (by rfl) (by rfl) ?_
          | refine q_not (by rfl) (by rfl) (by rfl) ?_
          | refine q_nilCheck (by rfl) (by rfl) (by rfl) ?_
          | refine q_fieldAddr (by rfl) (by rfl) (by rfl) ?_
          | (refine wq_split_dec (by rfl) (by rfl) (by rfl) (fun _ => ?_) (fun _ => ?_) <;> (try first | contradiction | (exfalso; omega))))
        all_goals try (exfalso; omega)
        exact ⟨I1, _, ⟨rfl, _, _, _, _, rfl⟩, hm⟩
      · rw [Sp.hit_neg hh]
        rw [e1] at hm ⊢
        repeat' (first
          | refine mq_load1 hm (by rfl) (by rfl) (by rfl) (by first | exact gt0 | exact gt1 | exact gt2 | exact gt3 | exact gt4 | exact gt5 | exact gt6) (by rfl) ?_
          | refine iq_load1 hm (by rfl) (by rfl) (by rfl) (by assumption) (by rfl) ?_
          | refine op_move (by rfl) (by rfl) (by rfl) ?_
          | refine op_assign (by rfl) (by rfl) (by rfl) ?_
          | refine wl_nil ?_
          | refine at_then_normal ?_
          | refine wc_seq ?_
          | refine wc_region ?_
          | refine wc_skip ?_
          | refine wc_ret ?_
          | refine at_ret1 (by rfl) (by rfl) ?_
          | refine wc_quiet (by kernel_rfl) ?_
          | (refine wq_nil ?_; intro _ hkq; replace hm := hm.kept0 hkq; clear hkq)
          | refine wc_cond_false (by rfl) ?_
          | (refine wc_cond_dec (by rfl) (fun _ => ?_) (fun _ => ?_) <;> (try first | contradiction | (exfalso; omega)))
          | refine q_move (by rfl) (by rfl) (by rfl) ?_
          | refine q_pick_true (by rfl) (by rfl) (by rfl) (by rfl) ?_
          | refine q_pick_false (by rfl) (by rfl) (by rfl) (by rfl) ?_
          | refine q_lss (by rfl) (by rfl) (by rfl) (by rfl) ?_
          | refine q_leq (by rfl) (by rfl) (by rfl) (by rfl) ?_
          | refine q_not (by rfl) (by rfl) (by rfl) ?_
          | refine q_nilCheck (by rfl) (by rfl) (by rfl) ?_
          | refine q_fieldAddr (by rfl) (by rfl) (by rfl) ?_
          | refine wq_skip (by rfl) (by rfl) (by rfl) ?_
          | (refine wq_split_dec (by rfl) (by rfl) (by rfl) (fun _ => ?_) (fun _ => ?_) <;> (try first | contradiction | (exfalso; omega))))
        all_goals try (exfalso; omega)
        all_goals exact ⟨I1, _, ⟨rfl, _, _, _, _, rfl⟩, hm⟩
end
end Go.Proofs.YtkbiakajlfmakaaDoor
end
section
namespace Go.Fw
open Go
theorem own_cut {w : World} {base e sz n m cp : Nat} {a : Option Addr} {xs : List Value} (ho : w.ownsRow base e sz (.slice a n cp) n xs) (hmn : m ≤ n) :
    w.ownsRow base e sz (.slice a m cp) m (xs.take (m * sz)) ∧ n ≤ cp ∧ (a = none ∨ ∃ g, a = some ⟨g, 0, none⟩) := by
  have h0 := ho.1
  have hle : m * sz ≤ n * sz := Nat.mul_le_mul_right _ hmn
  have hlen : (xs.take (m * sz)).length = m * sz := by rw [List.length_take]; omega
  rcases ho.2 with ⟨hv, hn⟩ | ⟨g, cap, cur, hv, hb, hg, hc, hcm, hs, ht⟩
  · obtain ⟨rfl, rfl, rfl⟩ := Value.slice.inj hv
    obtain rfl : m = 0 := by omega
    exact ⟨⟨hlen, .inl ⟨rfl, rfl⟩⟩, Nat.le_refl _, .inl rfl⟩
  · obtain ⟨rfl, _, rfl⟩ := Value.slice.inj hv
    refine ⟨⟨hlen, .inr ⟨g, cp, cur, rfl, hb, hg, by omega, hcm, hs, ?_⟩⟩, hc, .inr ⟨g, rfl⟩⟩
    rw [← ht, List.take_take, Nat.min_eq_left hle]
section
variable {P : Program} {N : Nat} {ds : List Deferred} {Q : Exit → Act → World → Prop} {l : Log} {w : World} {ops : Array Oper} {os : List Oper}
variable {d : Nat} {ty : TypeId} {pos : String} {af : Array Edge} {g : Option (Nat × Bool)} {t : TypeId} {x y : Operand} {E : Ent} {I : Imm} {H : List HItem}
theorem m_sliceTo {e : TypeId} {sz by_ : Nat} [TySlice P t e] [Elem P e sz by_] {i n m cp : Nat} {a : Option Addr} {xs : List Value} (hm : Mem E I H w)
    (hw : want ops l ⟨some d, .slice t x none (some y) none, ty, pos, af, g⟩ = some true) (hN : Nat.blt d N = true)
    (hx : ev l x = some (.slice a n cp)) (hy : ev l y = some (.int .i64 (m : Int))) (hi : H[i]? = some (.row (.slice a n cp) e sz n xs)) (hmn : m ≤ n)
    (k : Mem E I (H.set i (.row (.slice a m cp) e sz m (xs.take (m * sz)))) w → WL P N ds ops Q os ((d, .slice a m cp) :: l) w) :
    WL P N ds ops Q (⟨some d, .slice t x none (some y) none, ty, pos, af, g⟩ :: os) l w := by
  obtain ⟨h1, h2, h3⟩ := own_cut (hm.ok _ (List.mem_of_getElem? hi)) hmn
  have hm' := hm.turn (h' := .row (.slice a m cp) e sz m (xs.take (m * sz))) hi (Kept.refl _ w) h1 (.inl (by rcases a with _ | a <;> rfl))
  refine wl_value (w' := w) (v := .slice a m cp) rfl hw hN (fun c hc => ?_) (k hm')
  obtain ⟨inf, z, hinf, _, hs, _, _, _⟩ := Elem.out (P := P) (e := e)
  have h6 := run_underlying (P := P) (w := w) (TySlice.out (P := P) (t := t))
  have h7 : m ≤ cp := by omega
  rcases h3 with rfl | ⟨g, rfl⟩
  · simp [execOp, Instr.sliceAt, Instr.slice, Instr.sliceBounds, Instr.sliceBound, hc.ev hx, hc.ev hy, h6, asIntOf, h7, sizeOf, typeInfo, hinf, hs]
  · simp [execOp, Instr.sliceAt, Instr.slice, Instr.sliceBounds, Instr.sliceBound, hc.ev hx, hc.ev hy, h6, asIntOf, h7, sizeOf, typeInfo, hinf, hs, Addr.add_lit]
end
end Go.Fw
end
section
namespace Go.Sp
def labS : PS := fun _ _ _ l _ _ _ => l < 256
def anyP : PE := fun _ _ _ _ _ _ => True
def coreStm (its : List Itm) (own : Nat) (at_ : Int) (x : Stm) (sc : List Lc) (a : Nat) (s : FW) : List Lc × FW :=
  if x.kind = 1 then (sc ++ [⟨x.name, if x.opn = true then a else x.label⟩], s.ask a (if x.opn = true then a else x.label) x.fr x.to x.name) else
  if x.kind = 2 then (sc, s.ask a (getF sc x.name) x.fr x.to x.name) else
  if x.kind = 5 then (sc, askCh its a x.name x.fr x.to s) else
  if x.kind = 6 then (sc, s.ask a own x.fr x.to x.name) else
  if x.kind = 3 ∨ x.kind = 4 then (sc, (stmsF its own at_ x.els sc a (stmsF its own at_ x.thn sc a s).2).2) else (sc, s)
theorem stmF_eq (its : List Itm) (own : Nat) (at_ : Int) (x : Stm) (sc : List Lc) (un : Nat) (s : FW) :
    stmF its own at_ x sc un s = coreStm its own at_ x sc ((exF its at_ sc (unF its sc x.kind un x.e) x.e s).1 ||| unF its sc x.kind un x.e) (exF its at_ sc (unF its sc x.kind un x.e) x.e s).2 := by
  cases x; rw [stmF, coreStm]; rfl
theorem Stm.cnt_eq (x : Stm) : x.cnt = x.e.cnt + stmsCnt x.thn + stmsCnt x.els + 1 := by cases x; rw [Stm.cnt]; rfl
theorem stmsCnt_take_le {l : List Stm} {k : Nat} {y : Stm} (h : l[k]? = some y) : stmsCnt (l.take k) + y.cnt ≤ stmsCnt l := by
  have e : l = l.take (k + 1) ++ l.drop (k + 1) := (List.take_append_drop _ _).symm
  have h2 := congrArg stmsCnt e
  rw [stmsCnt_app, take_succ_get h, stmsCnt_app, stmsCnt_one] at h2
  omega
theorem stmsF_lab {its : List Itm} (h : itLab its) (own : Nat) (at_ : Int) : ∀ (l : List Stm) {sc : List Lc}, scLab sc → ∀ {un : Nat}, un < 256 → stmsAll anyP labS l → ∀ (s : FW), scLab (stmsF its own at_ l sc un s).1
  | [], sc, hs, un, hu, _, s => by rw [stmsF]; exact hs
  | x :: l, sc, hs, un, hu, hx, s => by
    rw [stmsAll] at hx
    rw [stmsF]
    exact stmsF_lab h own at_ l (stmF_lab h own at_ x hs hu (Stm.all_node hx.1).1 s) hu hx.2 _
theorem stmsAll_take {p : PE} {q : PS} : ∀ {l : List Stm} (k : Nat), stmsAll p q l → stmsAll p q (l.take k)
  | [], k, h => by rw [List.take_nil]; exact h
  | x :: l, 0, h => by rw [List.take_zero]; exact stmsAll_nil
  | x :: l, k + 1, h => by
    rw [stmsAll] at h
    rw [List.take_succ_cons, stmsAll]
    exact ⟨h.1, stmsAll_take k h.2⟩
end Go.Sp
namespace Go.Proofs.YtkbiakajlfmakaaDoor
open Go.Fw
section
variable (its : List Sp.Itm) (it : Sp.Itm) (bc bf : Nat) (a : Option Addr) (cp : Nat) (xs : List Value) (pi vf : Value) (at_ : Int)
def StmOk (x : Sp.Stm) : Prop :=
  ∀ (I : Imm) (b o tc : Nat) (cs : List Value) (un : Nat) (sc : List Sp.Lc) (s : Sp.FW) (sa : Option Addr) (sp : Nat) (da : Option Addr) (dp : Nat), un < 256 → Sp.scLab sc → sc.length + x.cnt ≤ 1000000000 → s.ds.length + 2 * x.cnt ≤ 1000000000 → FC I its it bf a cp xs pi vf →
    PtrI I b o tc cs → StAt I x cs →
    CalM Tryd.prog 159 #[ptr bc, .pointer (some ⟨b, o, none⟩), nt un] I (FSt bc bf pi sc sa sp s da dp vf at_) (ToF bc bf pi vf at_ (Sp.stmF its it.label at_ x sc un s).1 (Sp.stmF its it.label at_ x sc un s).2 (.tuple #[]))
def BlkOk (l : List Sp.Stm) : Prop :=
  ∀ (I : Imm) (ab : Option Addr) (cb : Nat) (xb : List Value) (un : Nat) (sc : List Sp.Lc) (s : Sp.FW) (sa : Option Addr) (sp : Nat) (da : Option Addr) (dp : Nat), un < 256 → Sp.scLab sc → sc.length + Sp.stmsCnt l ≤ 1000000000 → s.ds.length + 2 * Sp.stmsCnt l ≤ 1000000000 → FC I its it bf a cp xs pi vf →
    RowI I 122 15 (.slice ab l.length cb) l.length xb → StsAt I l xb →
    CalM Tryd.prog 126 #[ptr bc, .slice ab l.length cb, nt un] I (FSt bc bf pi sc sa sp s da dp vf at_) (ToF bc bf pi vf at_ sc (Sp.stmsF its it.label at_ l sc un s).2 (.tuple #[]))
end
section
variable {its : List Sp.Itm} {it : Sp.Itm} {bc bf : Nat} {a : Option Addr} {cp : Nat} {xs : List Value} {pi vf : Value} {at_ : Int}
set_option maxHeartbeats 16000000 in
theorem f_block (l : List Sp.Stm) (hl : l.length ≤ 64) (hlab : Sp.stmsAll Sp.anyP Sp.labS l) (hS : ∀ y ∈ l, StmOk its it bc bf a cp xs pi vf at_ y) : BlkOk its it bc bf a cp xs pi vf at_ l := by
  intro I ab cb xb un sc s sa sp da dp hun hsl hn1 hn2 hC hr hx
  refine CalM.of fun w E hm => enter (N := 34) Tryd.func126 rfl [(0, ptr bc), (1, .slice ab l.length cb), (2, nt un)] args3 rfl ?_
  repeat' (first
    | refine m_load1 hm (by rfl) (by rfl) (by rfl) (by first | exact gt0 | exact gt1 | exact gt2 | exact gt3 | exact gt4 | exact gt5 | exact gt6) (by rfl) ?_
    | refine op_move (by rfl) (by rfl) (by rfl) ?_
    | refine op_assign (by rfl) (by rfl) (by rfl) ?_
    | refine op_len_slice (by rfl) (by rfl) (by rfl) ?_
    | refine op_nilCheck (by rfl) (by rfl) (by rfl) ?_
    | refine op_fieldAddr (by rfl) (by rfl) (by rfl) ?_
    | refine wl_nil ?_
    | refine at_then_normal ?_
    | refine wc_seq ?_
    | refine wc_region ?_
    | refine wc_block ?_)
  refine wc_loop (fun x : FX => [(0, ptr bc), (1, .slice ab l.length cb), (2, nt un), (6, nt sc.length), (14, nt l.length), (15, nt x.k)])
    (fun x w' => Mem E x.I (FSt bc bf pi (Sp.stmsF its it.label at_ (l.take x.k) sc un s).1 x.sa x.sp (Sp.stmsF its it.label at_ (l.take x.k) sc un s).2 x.da x.dp vf at_) w' ∧ Le I x.I ∧ x.k ≤ l.length) (fun x => l.length - x.k) ⟨0, I, sa, sp, da, dp⟩
    (by exact ⟨rfl, rfl, rfl, rfl, rfl, rfl, trivial⟩) ⟨by dsimp only; rw [List.take_zero, Sp.stmsF]; exact hm, Le.refl _, Nat.zero_le _⟩ ?_
  clear hm
  rintro ⟨k, I1, sa1, sp1, da1, dp1⟩ w1 ⟨hm, hle1, hk⟩
  dsimp only at hm hle1 hk ⊢
  have hC1 := hC.le hle1
  have hrow := hr.le hle1
  by_cases hlt : k < l.length
  · have hg : l[k]? = some l[k] := List.getElem?_eq_getElem hlt
    have hmem := List.getElem_mem hlt
    obtain ⟨cs, hcs⟩ : ∃ cs, cs = (xb.drop (k * 15)).take 15 := ⟨_, rfl⟩
    have hat := hx.get hg
    rw [← hcs] at hat
    have hSk := hS _ hmem
    generalize l[k] = y at hg hmem hat hSk
    have hst := Sp.stmsF_step its it.label at_ hg sc un s
    have hcy := Sp.stmsCnt_take_le hg
    have hnn := Sp.stmsF_n its it.label at_ (l.take k) sc un s
    have hsl1 := Sp.stmsF_lab hC.lab it.label at_ (l.take k) hsl hun (Sp.stmsAll_take k hlab) s
    have htl : (l.take k).length = k := by rw [List.length_take]; omega
    generalize Sp.stmsF its it.label at_ (l.take k) sc un s = q at hm hst hnn hsl1
    have hkc : k ≤ Sp.stmsCnt (l.take k) := by
      have key : ∀ (l : List Sp.Stm), l.length ≤ Sp.stmsCnt l := by
        intro l
        induction l with
        | nil => simp
        | cons x l ih => rw [Sp.stmsCnt, List.length_cons]; have := Sp.Stm.cnt_eq x; omega
      have := key (l.take k)
      omega
    have hcl := fun b o (hpt : PtrI I1 b o 122 cs) => hSk I1 b o 122 cs un q.1 q.2 sa1 sp1 da1 dp1 hun hsl1 (by omega) (by omega) hC1 hpt (StAt.le hle1 _ _ hat)
    generalize Sp.stmF its it.label at_ y q.1 un q.2 = p at hcl hst
    repeat' (first
      | (refine i_indexAddr (d := 21) (by rfl) (by rfl) (by rfl) (by rfl) hrow (by omega) (by omega) ?_; intro bt ot hpt; rw [show ((k : Int).toNat * 15) = k * 15 from rfl, ← hcs] at hpt)
      | (refine m_call (d := 23) hm (by rfl) (by rfl) (by rfl) (by first | exact pm0 | exact pm1_0 | exact pm1_1 | exact pm1_2 | exact pm1_3 | exact pm2_0 | exact pm2_1 | exact pm2_2 | exact pm2_3 | exact pm2_4 | exact pm3_0 | exact pm3_1 | exact pm3_2) (hcl _ _ hpt) ?_; clear hm; rintro _ I2 _ _ ⟨rfl, sa2, sp2, da2, dp2, rfl⟩ hle hm; have hleI2 := hle; try simp only [setn] at hm)
      | refine op_move (by rfl) (by rfl) (by rfl) ?_
      | refine op_assign (by rfl) (by rfl) (by rfl) ?_
      | refine op_lss (by rfl) (by rfl) (by rfl) (by rfl) ?_
      | refine op_add (by rfl) (by rfl) (by rfl) (by rfl) (by omega) ?_
      | refine wl_nil ?_
      | refine at_then_normal ?_
      | refine at_block_normal ?_
      | refine wc_seq ?_
      | refine wc_region ?_
      | refine wc_block ?_
      | refine wc_skip ?_
      | (refine wc_cond_dec (by rfl) (fun _ => ?_) (fun _ => ?_) <;> (try first | contradiction | (exfalso; omega))))
    all_goals try (exfalso; omega)
    exact at_round (⟨k + 1, I2, sa2, sp2, da2, dp2⟩ : FX) (by exact ⟨rfl, rfl, rfl, rfl, rfl, rfl, trivial⟩) ⟨by dsimp only; rw [hst]; exact hm, hle1.trans hleI2, by dsimp only; omega⟩ (by dsimp only; omega)
  · obtain rfl : k = l.length := by omega
    have hback := Sp.stmsF_back its it.label at_ l sc un s
    have hpl := (Sp.stmsF_n its it.label at_ l sc un s).2.2.1
    rw [List.take_length] at hm
    generalize Sp.stmsF its it.label at_ l sc un s = q at hm hback hpl ⊢
    repeat' (first
      | (refine m_sliceTo (d := 31) hm (by rfl) (by rfl) (by rfl) (by rfl) (by first | exact gt0 | exact gt1 | exact gt2 | exact gt3 | exact gt4 | exact gt5 | exact gt6) hpl ?_; clear hm; intro hm; try simp only [setn] at hm)
      | refine m_load1 hm (by rfl) (by rfl) (by rfl) (by first | exact gt0 | exact gt1 | exact gt2 | exact gt3 | exact gt4 | exact gt5 | exact gt6) (by rfl) ?_
      | (refine m_store1 hm (by rfl) (by rfl) (by rfl) (by rfl) (by first | exact gt0 | exact gt1 | exact gt2 | exact gt3 | exact gt4 | exact gt5 | exact gt6) (by rfl) (by rfl) (by rfl) ?_; clear hm; intro _ hm; try simp only [setn] at hm)
      | refine op_move (by rfl) (by rfl) (by rfl) ?_
      | refine op_lss (by rfl) (by rfl) (by rfl) (by rfl) ?_
      | refine op_nilCheck (by rfl) (by rfl) (by rfl) ?_
      | refine op_fieldAddr (by rfl) (by rfl) (by rfl) ?_
      | refine wl_nil ?_
      | refine at_then_normal ?_
      | refine at_then_exit ?_
      | refine at_block_exit ?_
      | refine wc_seq ?_
      | refine wc_region ?_
      | refine wc_exit ?_
      | refine at_end0 (by rfl) ?_
      | (refine wc_cond_dec (by rfl) (fun _ => ?_) (fun _ => ?_) <;> (try first | contradiction | (exfalso; omega))))
    all_goals try (exfalso; omega)
    refine ⟨I1, _, ⟨rfl, sa1, sp1, da1, dp1, ?_⟩, hm⟩
    have e : (q.1.flatMap encLc).take (sc.length * 2) = sc.flatMap encLc := by
      have key : ∀ (l : List Sp.Lc) (n : Nat), (l.flatMap encLc).take (n * 2) = (l.take n).flatMap encLc := by
        intro l
        induction l with
        | nil => intro n; simp
        | cons x l ih =>
          intro n
          cases n with
          | zero => simp
          | succ n =>
            rw [List.flatMap_cons, List.take_succ_cons, List.flatMap_cons, show (n + 1) * 2 = 2 + n * 2 by omega, List.take_append, List.take_of_length_le (by show 2 ≤ 2 + n * 2; omega), show 2 + n * 2 - (encLc x).length = n * 2 by (show 2 + n * 2 - 2 = n * 2; omega), ih]
      rw [key, hback]
    rw [e]
end
end Go.Proofs.YtkbiakajlfmakaaDoor
end
