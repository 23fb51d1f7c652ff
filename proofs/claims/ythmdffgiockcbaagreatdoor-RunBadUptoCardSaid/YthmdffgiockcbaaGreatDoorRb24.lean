/- Own work: texts PpP, PpQ, PpR, NmA, SpecStand, SpecStand2, NsA, one behind the other. -/
import Derived.Test.YthmdffgiockcbaaGreatDoorRb23
section
namespace Go.Sp
end Go.Sp
namespace Go.Proofs.YthmdffgiockcbaaGreatDoor
open Go.Fw
structure CpX where
  k : Nat
  I : Imm
  a : Option Addr
  cp : Nat
  xs : List Value
abbrev ToCpE (e : Sp.Ex) : Value → Imm → List HItem → Prop := fun v I' H' => H' = [] ∧ ∃ ea ec xs, v = .agg (exCells e ea ec).toArray ∧ RowI I' 102 6 (.slice ea e.args.length ec) e.args.length xs ∧ ExsAt I' e.args xs
set_option maxHeartbeats 4000000 in
theorem p_ownExpr : ∀ (n : Nat) (e : Sp.Ex), SizeOf.sizeOf e ≤ n → e.small → ∀ (I : Imm) (ea : Option Addr) (ec : Nat) (xs : List Value), RowI I 102 6 (.slice ea e.args.length ec) e.args.length xs → ExsAt I e.args xs →
    CalM Tryz.prog 106 #[.agg (exCells e ea ec).toArray] I [] (ToCpE e) := by
  intro n
  induction n with
  | zero => intro e h; cases e; simp at h
  | succ n ih =>
  intro e hsz hsm I ea ec xs hr hx
  obtain ⟨hal, hasm⟩ := Sp.small_args hsm
  refine CalM.of fun w E hm => enter (N := 22) Tryz.func106 rfl [(0, .agg (exCells e ea ec).toArray)] args1 rfl ?_
  repeat' (first|(refine m_box (d:=1) hm (k:=?_); clear hm; intro b1 _ hm)|(refine m_allocS (d:=2) hm (k:=?_); clear hm; intro b2 _ hm)|refine m_load1 hm (k:=?_)|refine op_move (k:=?_)|refine op_assign (k:=?_)|refine op_len_slice (k:=?_)|refine op_fieldAddr (k:=?_)|refine wl_nil ?_|refine at_then_normal ?_|refine wc_seq ?_|refine wc_region ?_|refine wc_block ?_)
  have hm := hm.nil 102 6
  refine wc_loop (fun x : CpX => [(1, ptr b1), (2, ptr b2), (3, .slice x.a x.k x.cp), (7, .slice ea e.args.length ec), (8, nt e.args.length), (9, nt x.k)])
    (fun x w' => Mem E x.I [argRow x.k x.a x.cp x.xs, .cell b2 ex0 102, .cell b1 (exCells e ea ec) 102] w' ∧ Le I x.I ∧ ExsAt x.I (e.args.take x.k) x.xs ∧ x.k ≤ e.args.length)
    (fun x => e.args.length - x.k) ⟨0, I, none, 0, []⟩ (by exact ⟨rfl, rfl, rfl, rfl, rfl, rfl, trivial⟩) ⟨hm, Le.refl _, .nil, Nat.zero_le _⟩ ?_
  clear hm
  rintro ⟨k, I1, a1, cp1, xs1⟩ w2 ⟨hm, hle1, hxs, hk⟩
  dsimp only at hm hle1 hxs hk ⊢
  by_cases hlt : k < e.args.length
  · have hg : e.args[k]? = some e.args[k] := List.getElem?_eq_getElem hlt
    have hme : e.args[k] ∈ e.args := List.getElem_mem hlt
    obtain ⟨ea2, ec2, xs2, hc2, hr2, hx2⟩ := (hx.get hg).out
    have hsm2 := Sp.exsSmall_get hasm hg
    have hsz2 := Sp.size_args hme
    generalize e.args[k] = y at hg hc2 hr2 hx2 hsm2 hsz2
    have hcall := fun (I' : Imm) (m : Le I I') => ih y (by omega) hsm2 I' ea2 ec2 xs2 (hr2.le m) (ExsAt.le m _ _ hx2)
    have htk : e.args.take (k + 1) = e.args.take k ++ [y] := by rw [List.take_add_one, hg]; rfl
    have hri := hr.le hle1
    repeat' (first|(refine i_indexAddr (hr:=hri) (k:=?_); intro bt ot hpt; rw [show ((k : Int).toNat * 6) = k * 6 from rfl, hc2] at hpt)|(refine m_call hm (hc:=hcall _ hle1) (k:=?_); clear hm; rintro _ I2 _ _ ⟨rfl, ea3, ec3, xs3, rfl, hr3, hx3⟩ hle hm; have hleI2 := hle; try simp only [setn] at hm)|(refine m_varS (d:=5) hm (k:=?_); clear hm; intro b5 _ hm)|(refine m_push (d:=17) hm (k:=?_); clear hm; intro a17 cp17 _ _ hm; try simp only [setn] at hm)|refine m_loadAll hm (k:=?_)|refine i_loadN hm (k:=?_)|refine op_move (k:=?_)|refine op_assign (k:=?_)|refine op_lss (k:=?_)|refine op_add (k:=?_)|refine wl_nil ?_|refine at_then_normal ?_|refine at_block_normal ?_|refine wc_seq ?_|refine wc_region ?_|refine wc_block ?_|refine wc_skip ?_|(refine wc_cond_dec (ht:=fun _ => ?_) (hf:=fun _ => ?_)<;> (try first | contradiction | (exfalso; omega))))
    all_goals try (exfalso; omega)
    refine at_round (⟨k + 1, I2, _, _, _⟩ : CpX) (by exact ⟨rfl, rfl, rfl, rfl, rfl, rfl, trivial⟩) ⟨hm.tl, hle1.trans hleI2, ?_, by dsimp only; omega⟩ (by dsimp only; omega)
    dsimp only
    rw [htk]
    exact (ExsAt.le hleI2 _ _ hxs).snoc (exAt_cells hr3 hx3)
  · obtain rfl : k = e.args.length := by omega
    rw [List.take_length] at hxs
    repeat' (first|refine m_loadAll hm (k:=?_)|(refine m_storeAll hm (k:=?_); clear hm; intro _ hm; try simp only [setn] at hm)|(refine m_store1 hm (k:=?_); clear hm; intro _ hm; try simp only [setn] at hm)|refine m_ret_agg hm (h:=?_)|refine op_move (k:=?_)|refine op_lss (k:=?_)|refine op_fieldAddr (k:=?_)|refine wl_nil ?_|refine at_then_normal ?_|refine at_then_exit ?_|refine at_block_exit ?_|refine wc_seq ?_|refine wc_region ?_|refine wc_exit ?_|refine wc_ret ?_|(refine wc_cond_dec (ht:=fun _ => ?_) (hf:=fun _ => ?_)<;> (try first | contradiction | (exfalso; omega))))
    all_goals try (exfalso; omega)
    obtain ⟨I3, hle3, hm3, hrow3⟩ := (hm.front 0 rfl).freeze
    exact ⟨I3, [], ⟨rfl, a1, cp1, xs1, rfl, hrow3, ExsAt.le hle3 _ _ hxs⟩, hm3.left (H := [])⟩
abbrev ToCpS (l : List Sp.Stm) : Value → Imm → List HItem → Prop := fun v I' H' => H' = [] ∧ ∃ a c xs, v = .slice a l.length c ∧ RowI I' 104 15 (.slice a l.length c) l.length xs ∧ StsAt I' l xs
set_option maxHeartbeats 8000000 in
theorem p_ownStmts : ∀ (n : Nat) (l : List Sp.Stm), SizeOf.sizeOf l ≤ n → l.length ≤ 64 → Sp.stmsSmall l → ∀ (I : Imm) (a : Option Addr) (c : Nat) (xs : List Value), RowI I 104 15 (.slice a l.length c) l.length xs → StsAt I l xs →
    CalM Tryz.prog 77 #[.slice a l.length c] I [] (ToCpS l) := by
  intro n
  induction n with
  | zero => intro l h; cases l <;> simp at h
  | succ n ih =>
  intro l hsz hll hsm I a c xs hr hx
  refine CalM.of fun w E hm => enter (N := 30) Tryz.func77 rfl [(0, .slice a l.length c)] args1 rfl ?_
  repeat' (first|refine op_move (k:=?_)|refine op_assign (k:=?_)|refine op_len_slice (k:=?_)|refine wl_nil ?_|refine at_then_normal ?_|refine wc_seq ?_|refine wc_region ?_|refine wc_block ?_)
  have hm := hm.nil 104 15
  refine wc_loop (fun x : CpX => [(3, .slice x.a x.k x.cp), (6, .slice a l.length c), (7, nt l.length), (8, nt x.k)])
    (fun x w' => Mem E x.I [stRow x.k x.a x.cp x.xs] w' ∧ Le I x.I ∧ StsAt x.I (l.take x.k) x.xs ∧ x.k ≤ l.length)
    (fun x => l.length - x.k) ⟨0, I, none, 0, []⟩ (by exact ⟨rfl, rfl, rfl, rfl, trivial⟩) ⟨hm, Le.refl _, .nil, Nat.zero_le _⟩ ?_
  clear hm
  rintro ⟨k, I1, a1, cp1, xs1⟩ w2 ⟨hm, hle1, hxs, hk⟩
  dsimp only at hm hle1 hxs hk ⊢
  by_cases hlt : k < l.length
  · have hg : l[k]? = some l[k] := List.getElem?_eq_getElem hlt
    have hme := Sp.sizeL_mem (List.getElem_mem hlt)
    obtain ⟨ea2, ec2, ex2, a2, c2, xs2, a3, c3, xs3, hc2, hr2, hx2, hr3, hx3, hr4, hx4⟩ := (hx.get hg).out
    have hsm2 := Sp.stmsSmall_get hsm hg
    generalize l[k] = y at hg hc2 hr2 hx2 hr3 hx3 hr4 hx4 hsm2 hme
    obtain ⟨s1, s2, s3, s4, s5⟩ := Sp.small_parts hsm2
    obtain ⟨z1, z2⟩ := Sp.size_thn (s := y)
    have hce := fun (I' : Imm) (m : Le I I') => p_ownExpr (SizeOf.sizeOf y.e) y.e (Nat.le_refl _) s1 I' ea2 ec2 ex2 (hr2.le m) (ExsAt.le m _ _ hx2)
    have hct := fun (I' : Imm) (m : Le I I') => ih y.thn (by omega) s2 s3 I' a2 c2 xs2 (hr3.le m) (StsAt.le m _ _ hx3)
    have hcl := fun (I' : Imm) (m : Le I I') => ih y.els (by omega) s4 s5 I' a3 c3 xs3 (hr4.le m) (StsAt.le m _ _ hx4)
    have htk : l.take (k + 1) = l.take k ++ [y] := by rw [List.take_add_one, hg]; rfl
    have hri := hr.le hle1
    repeat' (first|(refine wc_mix_mem (id:=5) (hm.perm pm0) [([0,1,3,4,6,7],[2]),([9],[5]),([],[8])] 10 (h:=?_); clear hm; intro wd hR hm)|(refine i_indexAddr (hr:=hri) (k:=?_); intro bt ot hpt; rw [show ((k : Int).toNat * 15) = k * 15 from rfl, hc2] at hpt)|(refine mt_call (d:=14) hm (hc:=hce _ hle1) (k:=?_); clear hm; rintro _ I2 _ _ ⟨rfl, ea3, ec3, ex3, rfl, hr5, hx5⟩ hle hm; have hleI2 := hle; try simp only [setn] at hm)|(refine mt_call (d:=17) hm (hc:=hct _ (hle1.trans hleI2)) (k:=?_); clear hm; rintro _ I3 _ _ ⟨rfl, a4, c4, xs4, rfl, hr6, hx6⟩ hle hm; have hleI3 := hle; try simp only [setn] at hm)|(refine mt_call (d:=20) hm (hc:=hcl _ ((hle1.trans hleI2).trans hleI3)) (k:=?_); clear hm; rintro _ I4 _ _ ⟨rfl, a5, c5, xs5, rfl, hr7, hx7⟩ hle hm; have hleI4 := hle; try simp only [setn] at hm)|refine mw_load1 hR (k:=?_)|refine mw_loadN hR (k:=?_)|refine wx_cons ?_|refine wv_nilX ?_|refine ws_nil ?_|refine at_X ?_|(refine wx_nil ?_; replace hm := hR.back hm; clear hR; try simp only [setn] at hm)|(refine m_varS (d:=5) hm (k:=?_); clear hm; intro b5 _ hm)|(refine m_push (d:=27) hm (k:=?_); clear hm; intro a27 cp27 _ _ hm; try simp only [setn] at hm)|refine m_loadAll hm (k:=?_)|refine i_loadN hm (k:=?_)|(refine m_store1 hm (k:=?_); clear hm; intro _ hm; try simp only [setn] at hm)|(refine m_storeN hm (k:=?_); clear hm; intro _ hm; try simp only [setn] at hm)|refine op_move (k:=?_)|refine op_assign (k:=?_)|refine op_lss (k:=?_)|refine op_add (k:=?_)|refine op_fieldAddr (k:=?_)|refine wl_nil ?_|refine at_then_normal ?_|refine at_block_normal ?_|refine wc_seq ?_|refine wc_region ?_|refine wc_block ?_|refine wc_skip ?_|(refine wc_cond_dec (ht:=fun _ => ?_) (hf:=fun _ => ?_)<;> (try first | contradiction | (exfalso; omega)))|refine v_fieldAddr (k:=?_))
    all_goals try (exfalso; omega)
    refine at_round (⟨k + 1, I4, _, _, _⟩ : CpX) (by exact ⟨rfl, rfl, rfl, rfl, trivial⟩) ⟨hm.tl, ((hle1.trans hleI2).trans hleI3).trans hleI4, ?_, by dsimp only; omega⟩ (by dsimp only; omega)
    dsimp only
    rw [htk]
    exact (StsAt.le ((hleI2.trans hleI3).trans hleI4) _ _ hxs).snoc (stAt_cells (hr5.le (hleI3.trans hleI4)) (ExsAt.le (hleI3.trans hleI4) _ _ hx5) (hr6.le hleI4) (StsAt.le hleI4 _ _ hx6) hr7 hx7)
  · obtain rfl : k = l.length := by omega
    rw [List.take_length] at hxs
    repeat' (first|refine op_move (k:=?_)|refine op_assign (k:=?_)|refine op_lss (k:=?_)|refine wl_nil ?_|refine at_then_normal ?_|refine at_then_exit ?_|refine at_block_exit ?_|refine wc_seq ?_|refine wc_region ?_|refine wc_exit ?_|refine wc_ret ?_|refine at_ret1 (h:=?_)|(refine wc_cond_dec (ht:=fun _ => ?_) (hf:=fun _ => ?_)<;> (try first | contradiction | (exfalso; omega))))
    all_goals try (exfalso; omega)
    obtain ⟨I3, hle3, hm3, hrow3⟩ := (hm.front 0 rfl).freeze
    exact ⟨I3, [], ⟨rfl, a1, cp1, xs1, rfl, hrow3, StsAt.le hle3 _ _ hxs⟩, hm3.left (H := [])⟩
end Go.Proofs.YthmdffgiockcbaaGreatDoor
end
section
namespace Go.Fw
open Go
section
variable {P : Program} {N : Nat} {ds : List Deferred} {Q : Exit → Act → World → Prop} {l : Log} {w : World} {ops : Array Oper} {os : List Oper}
variable {d : Nat} {ty : TypeId} {pos : String} {af : Array Edge} {g : Option (Nat × Bool)} {t t' : TypeId} {x y : Operand} {E : Ent} {I : Imm} {H : List HItem}
def mhas (es : Ents) (s : List UInt8) : Bool := (es.find? (fun p => decide (p.1 = s))).isSome
theorem find_idx_isSome (es : Ents) (s : List UInt8) : (es.findIdx? (fun p => decide (p.1 = s))).isSome = mhas es s := by
  rw [mhas]
  induction es with
  | nil => rfl
  | cons p es ih =>
    rw [List.findIdx?_cons, List.find?_cons]
    cases hd : decide (p.1 = s) with
    | true => simp
    | false => simp [ih]
theorem m_lookup2 {kt et : TypeId} [TyMap P t kt et] [TyStr P kt] {i b : Nat} {es : Ents} {s : List UInt8} {zv : Value} (hm : Mem E I H w) (hw : want ops l ⟨some d, .lookup t x y true, ty, pos, af, g⟩ = some true) (hN : Nat.blt d N = true)
    (hx : ev l x = some (.map (some b))) (hy : ev l y = some (str s)) (hi : H[i]? = some (.mp b es)) (_hn : (es.map (·.1)).Nodup) (hz : ∀ w, (zeroValue et).run P w = .ok zv w)
    (k : WL P N ds ops Q os ((d, .tuple #[mlook es s zv, .bool (mhas es s)]) :: l) w) :
    WL P N ds ops Q (⟨some d, .lookup t x y true, ty, pos, af, g⟩ :: os) l w :=
  wl_value rfl hw hN (fun a ha => by
    have h1 := run_underlying (P := P) (w := w) (TyMap.out (P := P) (t := t))
    have hk := TyStr.out (P := P) (t := kt)
    have h2 := run_findKey (P := P) (w := w) hk s es 0
    have h3 := fun b => run_checkKey (P := P) (w := w) hk s b
    have h4 := MapKept.run_getObj_map (P := P) (hm.get hi)
    have h5 := find_idx es s
    have h6 := find_idx_isSome es s
    rw [mlook, ← h5, ← h6]
    cases hf : es.findIdx? (fun p => decide (p.1 = s)) with
    | none =>
      rw [hf] at h2
      simp [execOp, Instr.lookup, ha.ev hx, ha.ev hy, h1, h4, h3, h2, hz]
    | some i =>
      rw [hf] at h2
      have hi : i < es.length := by
        have := List.findIdx?_eq_some_iff_getElem.1 hf
        exact this.1
      have hg : es[i]? = some es[i] := List.getElem?_eq_getElem hi
      simp only [Option.bind_some, hg, Option.map_some] at h2
      simp [execOp, Instr.lookup, ha.ev hx, ha.ev hy, h1, h4, h3, h2, hg]) k
theorem m_ret3_agg {fn : Func} {i tr u u2 n b : Nat} {tc : TypeId} [TyAgg P tc n] {c : List Value} {e : TypeId} {fr : Nat × Nat} {xv xv2 : Value} {Post : Value → World → Prop} (hm : Mem E I H w) (hr : fn.results = #[.cell tr tc, .tmp u, .tmp u2])
    (hx : lk l tr = some (.pointer (some ⟨b, 0, none⟩))) (hu : lk l u = some xv) (hu2 : lk l u2 = some xv2) (hb : H[i]? = some (.obj b (.cells c.toArray e fr))) (hl : c.length = n)
    (h : Post (.tuple #[.agg c.toArray, xv, xv2]) w) : At N [] (bodyPost P fn (Ret Post)) .ret l w :=
  ⟨fun a ha => ⟨ha.defs, _, by
    have hv := run_loadAgg (P := P) (t := tc) (off := 0) (vs := c) (hm.get hb) hl (fun j v hv => by simpa using hv)
    simp [results, hr, ha.vals tr _ hx, ha.vals u _ hu, ha.vals u2 _ hu2, asAddr, hv], h⟩⟩
end
end Go.Fw
namespace Go.Proofs.YthmdffgiockcbaaGreatDoor
open Go.Fw
set_option maxHeartbeats 4000000 in
theorem p_own (it : Sp.Itm) (hs : it.small) (I : Imm) (cs : List Value) (hi : ItAt I it cs) : CalM Tryz.prog 49 #[.agg cs.toArray] I [] (ToIt it) := by
  obtain ⟨ap, cp, as_, cs', ab, cb, ad, cd, xb, rfl, r1, r2, r3, r4, r5⟩ := hi
  have k1 := hs.params
  have k2 := hs.sends
  have k3 := hs.diags
  have k4 := hs.body
  refine CalM.of fun w E hm => enter (N := 20) Tryz.func49 rfl [(0, .agg (itCells it.kind it.name it.label (.slice ap it.params.length cp) (.slice as_ it.sends.length cs') (.slice ab it.body.length cb) it.at_ it.size it.mark (.slice ad it.diags.length cd)).toArray)] args1 rfl ?_
  have c1 := fun (I' : Imm) (m : Le I I') => p_cloneP I' ap it.params.length cp _ (r1.le m) (pars_one _) (by omega)
  have c2 := fun (I' : Imm) (m : Le I I') => p_cloneR I' as_ it.sends.length cs' _ (r2.le m) (rfs_one _) (by omega)
  have c3 := fun (I' : Imm) (m : Le I I') => p_cloneD I' ad it.diags.length cd _ (r5.le m) (dgs_one _) (by omega)
  have c4 := fun (I' : Imm) (m : Le I I') => p_ownStmts (SizeOf.sizeOf it.body) it.body (Nat.le_refl _) (by omega) hs.stms I' ab cb xb (r3.le m) (StsAt.le m _ _ r4)
  repeat' (first|(refine wc_mix_mem (id:=1) (hm.perm pm0) [([0,1,3,4,6,7],[2]),([9],[5]),([],[8])] 10 (h:=?_); clear hm; intro wd hR hm)|(refine mt_call (d:=5) hm (hc:=c1 _ (Le.refl _)) (k:=?_); clear hm; rintro _ I2 _ _ ⟨rfl, a1, d1, rfl, s1⟩ hle hm; have hleI2 := hle; try simp only [setn] at hm)|(refine mt_call (d:=8) hm (hc:=c2 _ hleI2) (k:=?_); clear hm; rintro _ I3 _ _ ⟨rfl, a2, d2, rfl, s2⟩ hle hm; have hleI3 := hle; try simp only [setn] at hm)|(refine mt_call (d:=11) hm (hc:=c3 _ (hleI2.trans hleI3)) (k:=?_); clear hm; rintro _ I4 _ _ ⟨rfl, a3, d3, rfl, s3⟩ hle hm; have hleI4 := hle; try simp only [setn] at hm)|(refine m_call hm (hc:=c4 _ ((hleI2.trans hleI3).trans hleI4)) (k:=?_); clear hm; rintro _ I5 _ _ ⟨rfl, a4, d4, xs4, rfl, s4, t4⟩ hle hm; have hleI5 := hle; try simp only [setn] at hm)|refine mw_load1 hR (k:=?_)|refine wx_cons ?_|refine wv_nilX ?_|refine ws_nil ?_|refine at_X ?_|(refine wx_nil ?_; replace hm := hR.back hm; clear hR; try simp only [setn] at hm)|(refine m_box (d:=1) hm (k:=?_); clear hm; intro b1 _ hm)|(refine m_allocS (d:=2) hm (k:=?_); clear hm; intro b2 _ hm)|refine m_load1 hm (k:=?_)|refine m_loadAll hm (k:=?_)|(refine m_storeAll hm (k:=?_); clear hm; intro _ hm; try simp only [setn] at hm)|(refine m_store1 hm (k:=?_); clear hm; intro _ hm; try simp only [setn] at hm)|refine m_ret_agg hm (h:=?_)|refine op_fieldAddr (k:=?_)|refine wl_nil ?_|refine at_then_normal ?_|refine wc_seq ?_|refine wc_region ?_|refine wc_ret ?_|refine v_fieldAddr (k:=?_))
  exact ⟨I5, [], ⟨_, rfl, ⟨a1, d1, a2, d2, a4, d4, a3, d3, xs4, rfl, ((s1.le hleI3).le hleI4).le hleI5, (s2.le hleI4).le hleI5, s4, t4, s3.le hleI5⟩, rfl⟩, hm.left (H := [])⟩
end Go.Proofs.YthmdffgiockcbaaGreatDoor
end
section
namespace Go.Proofs.YthmdffgiockcbaaGreatDoor
open Go.Fw
structure AgX where
  k : Nat
  I : Imm
  a : Option Addr
  cp : Nat
  xs : List Value
abbrev it0 : List Value := itCells 0 [] 0 nil0 nil0 nil0 0 0 0 nil0
theorem zero_item (w : World) : (zeroValue 47).run Tryz.prog w = .ok (.agg it0.toArray) w := by kernel_rfl
abbrev ToAgain (fresh err : Nat) (its : List Sp.Itm) : Value → Imm → List HItem → Prop := fun v I' H' => ∃ a cp xs, v = .tuple #[.agg [.slice a its.length cp].toArray, nt fresh, nt err] ∧ RowI I' 47 10 (.slice a its.length cp) its.length xs ∧ ItsAt I' its xs ∧ H' = []
theorem cuts_len (s : List UInt8) : (Sp.cuts s).length ≤ s.length := by
  obtain ⟨r, h1, h2⟩ := Sp.cuts_sub s (Sp.tokens s) []
  have e : Sp.cuts s = r := by rw [Sp.cuts, h1]; simp
  have := h2.length_le
  have := toks_len s
  rw [e]
  simp at *
  omega
set_option maxHeartbeats 8000000 in
theorem p_again0 (s : List UInt8) (I : Imm) (hC : Conv I) (hs : s.length ≤ 9223372036854775807) : CalM Tryz.prog 44 #[.agg [.slice none 0 0].toArray, str [], str s] I [] (ToAgain (Sp.fileItems s).length (Sp.fileErr s) (Sp.fileItems s)) := by
  refine CalM.of fun w E hm => enter (N := 127) Tryz.func44 rfl [(0, .agg [.slice none 0 0].toArray), (1, str []), (2, str s)] args3 rfl ?_
  by_cases hl : s.length > 4000
  · have he : Sp.fileErr s = 4 := by rw [Sp.fileErr, if_pos hl]
    have hi : Sp.fileItems s = [] := by rw [Sp.fileItems, he]; rfl
    rw [he, hi]
    repeat' (first|(refine m_ret3_agg hm (by rfl) (by rfl) (by rfl) (by rfl) (by first | exact gt0 | exact gt1 | exact gt2 | exact gt3 | exact gt4 | exact gt5 | exact gt6) (by rfl) ?_)|(refine m_box (d:=3) hm (k:=?_); clear hm; intro b3 _ hm)|(refine m_allocS (d:=6) hm (k:=?_); clear hm; intro b6 _ hm)|(refine m_storeAll hm (k:=?_); clear hm; intro _ hm; try simp only [setn] at hm)|refine op_move (k:=?_)|refine op_assign (k:=?_)|refine op_gtr (k:=?_)|refine op_len_str (k:=?_)|refine op_struct (k:=?_)|refine wl_nil ?_|refine at_then_normal ?_|refine at_then_ret ?_|refine wc_seq ?_|refine wc_region ?_|refine wc_ret ?_|(refine wc_cond_dec (ht:=fun _ => ?_) (hf:=fun _ => ?_)<;> (try first | contradiction | (exfalso; omega))))
    all_goals try (exfalso; omega)
    exact ⟨_, _, ⟨none, 0, [], rfl, rowI_nil _ _ _ _ _, rfl, rfl⟩, hm.left (H := [])⟩
  have hcl := cuts_len s
  repeat' (first|(refine m_makeMap hm (k:=?_); clear hm; intro bm _ hm)|(refine m_box (d:=3) hm (k:=?_); clear hm; intro b3 _ hm)|(refine m_allocS (d:=6) hm (k:=?_); clear hm; intro b6 _ hm)|refine m_load1 hm (k:=?_)|refine op_move (k:=?_)|refine op_assign (k:=?_)|refine op_gtr (k:=?_)|refine op_len_str (k:=?_)|refine op_len_slice (k:=?_)|refine op_fieldAddr (k:=?_)|refine wl_nil ?_|refine at_then_normal ?_|refine wc_seq ?_|refine wc_region ?_|refine wc_block ?_|refine wc_skip ?_|(refine wc_cond_dec (ht:=fun _ => ?_) (hf:=fun _ => ?_)<;> (try first | contradiction | (exfalso; omega))))
  all_goals try (exfalso; omega)
  refine wc_loop (fun _ : Unit => [(2, str s), (3, ptr b3), (6, ptr b6), (9, .map (some bm)), (26, nt 0), (27, nt 0)]) (fun _ w' => Mem E I [.mp bm [], .cell b6 [.slice none 0 0] 25, .cell b3 [.slice none 0 0] 25] w') (fun _ => 0) () (by exact ⟨rfl, rfl, rfl, rfl, rfl, rfl, trivial⟩) hm ?_
  clear hm
  rintro ⟨⟩ w1 hm
  repeat' (first|(refine op_call (hc:=by exact c_cuts s (by omega) _) (k:=?_); rintro tv wt ⟨hto, hkt⟩; obtain ⟨ta, tc, rfl⟩ := own_val hto; replace hm := hm.add (x := .row (.slice ta (Sp.cuts s).length tc) 3 1 (Sp.cuts s).length ((Sp.cuts s).flatMap encInt)) hkt (ownsRow_base hto (Nat.zero_le _)) (fun b hb => (hto.lt b hb).1))|(refine m_allocS (d:=12) hm (k:=?_); clear hm; intro b12 _ hm)|(refine m_push (d:=73) hm (k:=?_); clear hm; intro a73 cp73 _ _ hm; try simp only [setn] at hm)|refine op_move (k:=?_)|refine op_assign (k:=?_)|refine op_lss (k:=?_)|refine op_len_str (k:=?_)|refine op_len_slice (k:=?_)|refine op_sub (k:=?_)|refine wl_nil ?_|refine at_then_normal ?_|refine at_then_exit ?_|refine at_block_exit ?_|refine wc_seq ?_|refine wc_region ?_|refine wc_block ?_|refine wc_exit ?_|refine wc_cond_false (hf:=?_))
  all_goals try (exfalso; omega)
  obtain ⟨I2, hle2, hm2, hrow⟩ := hm.freeze
  clear hm hto hkt
  have hm := hm2.nil 47 10
  clear hm2
  obtain ⟨n, hn⟩ : ∃ n, n = (Sp.cuts s).length := ⟨_, rfl⟩
  have hcat : ∀ k, k < n → (Sp.cuts s).getD k 0 < (Sp.cuts s).getD (k + 1) s.length ∧ (Sp.cuts s).getD (k + 1) s.length ≤ s.length := fun k hk => Sp.cuts_at s (by omega)
  have hfl : (Sp.cuts s).flatMap encInt ++ [nt s.length] = (Sp.cuts s ++ [s.length]).flatMap encInt := by rw [List.flatMap_append]; rfl
  have hz1 : ∀ k, k < n → (Sp.cuts s ++ [s.length])[k]? = some ((Sp.cuts s).getD k 0) := fun k hk => by
    rw [List.getElem?_append_left (by omega), List.getD_eq_getElem?_getD, List.getElem?_eq_getElem (by omega)]; rfl
  have hz2 : ∀ k, k < n → (Sp.cuts s ++ [s.length])[k + 1]? = some ((Sp.cuts s).getD (k + 1) s.length) := fun k hk => by
    rcases Nat.lt_or_ge (k + 1) (Sp.cuts s).length with h | h
    · rw [List.getElem?_append_left h, List.getD_eq_getElem?_getD, List.getElem?_eq_getElem h]; rfl
    · rw [List.getElem?_append_right h, show k + 1 - (Sp.cuts s).length = 0 by omega, List.getD_eq_getElem?_getD, List.getElem?_eq_none h]; rfl
  have hsm : ∀ k, (Sp.piece s (Sp.cuts s) k).length ≤ 1048576 := fun k => by rw [Sp.piece, List.length_take, List.length_drop]; omega
  have hits0 : Sp.items s (Sp.cuts s) = (List.range n).map (Sp.itemAt s (Sp.cuts s)) := by rw [Sp.items, hn]
  have herr : 30 < n → Sp.fileErr s = 5 ∧ Sp.fileItems s = [] := fun h => by
    have : Sp.fileErr s = 5 := by rw [Sp.fileErr, if_neg hl, if_pos (by omega)]
    exact ⟨this, by rw [Sp.fileItems, this]; rfl⟩
  have hok : n ≤ 30 → Sp.fileErr s = 0 ∧ Sp.fileItems s = Sp.items s (Sp.cuts s) := fun h => by
    have : Sp.fileErr s = 0 := by rw [Sp.fileErr, if_neg hl, if_neg (by omega)]
    exact ⟨this, by rw [Sp.fileItems, this]; rfl⟩
  change RowI I2 3 1 (.slice a73 ((Sp.cuts s).length + 1) cp73) ((Sp.cuts s).length + 1) ((Sp.cuts s).flatMap encInt ++ [nt s.length]) at hrow
  rw [hfl, ← hn] at hrow
  rw [← hn] at hcl ⊢
  generalize Sp.fileErr s = er at herr hok ⊢
  generalize Sp.fileItems s = its at herr hok ⊢
  clear hn hfl
  have hsmall : ∀ k, (Sp.itemAt s (Sp.cuts s) k).small := fun k => Sp.item_small _ _ (hsm k)
  generalize Sp.cuts s = cz at hrow hcat hz1 hz2 hits0 hok hsm hsmall
  refine wc_loop (fun x : AgX => [(2, str s), (6, ptr b6), (9, .map (some bm)), (12, ptr b12), (13, nt x.k), (14, .slice a73 (n + 1) cp73), (76, .int .i64 (((n + 1 : Nat) : Int) - 1)), (77, nt x.k)])
    (fun x w' => Mem E x.I [itRow x.k x.a x.cp x.xs, .cell b12 [.slice x.a x.k x.cp] 25, .mp bm [], .cell b6 [.slice none 0 0] 25, .cell b3 [.slice none 0 0] 25] w' ∧ Le I2 x.I ∧ ItsAt x.I ((List.range x.k).map (Sp.itemAt s cz)) x.xs ∧ x.k ≤ n ∧ x.k ≤ 30)
    (fun x => n - x.k) ⟨0, I2, none, 0, []⟩ (by exact ⟨rfl, rfl, rfl, rfl, rfl, rfl, rfl, rfl, trivial⟩) ⟨hm, Le.refl _, rfl, Nat.zero_le _, by dsimp only; omega⟩ ?_
  clear hm
  rintro ⟨k, I3, a, cp, xs⟩ w2 ⟨hm, hle3, hits, hk, hk30⟩
  dsimp only at hm hle3 hits hk hk30 ⊢
  have hrow2 := hrow.le hle3
  by_cases hlt : k < n
  · by_cases h30 : k = 30
    · obtain ⟨he, hi⟩ := herr (by omega)
      subst he; subst hi
      repeat' (first|(refine m_ret3_agg hm (by rfl) (by rfl) (by rfl) (by rfl) (by first | exact gt0 | exact gt1 | exact gt2 | exact gt3 | exact gt4 | exact gt5 | exact gt6) (by rfl) ?_)|refine m_load1 hm (k:=?_)|(refine m_storeAll hm (k:=?_); clear hm; intro _ hm; try simp only [setn] at hm)|refine op_move (k:=?_)|refine op_assign (k:=?_)|refine op_lss (k:=?_)|refine op_eql (k:=?_)|refine op_len_slice (k:=?_)|refine op_fieldAddr (k:=?_)|refine op_struct (k:=?_)|refine wl_nil ?_|refine at_then_normal ?_|refine at_then_ret ?_|refine at_block_ret ?_|refine wc_seq ?_|refine wc_region ?_|refine wc_block ?_|refine wc_skip ?_|refine wc_ret ?_|(refine wc_cond_dec (ht:=fun _ => ?_) (hf:=fun _ => ?_)<;> (try first | contradiction | (exfalso; omega))))
      all_goals try (exfalso; omega)
      exact ⟨_, _, ⟨none, 0, [], rfl, rowI_nil _ _ _ _ _, rfl, rfl⟩, hm.left (H := [])⟩
    · have hca := hcat k hlt
      have hza : (cz ++ [s.length])[((k : Nat) : Int).toNat]? = some (cz.getD k 0) := by rw [Int.toNat_natCast]; exact hz1 k hlt
      have hzb : (cz ++ [s.length])[(((k : Nat) : Int) + 1).toNat]? = some (cz.getD (k + 1) s.length) := by
        rw [show (((k : Nat) : Int) + 1).toNat = k + 1 by omega]; exact hz2 k hlt
      have hit := p_item (Sp.piece s cz k) ((cz.getD k 0 : Nat) : Int) I3 ((hC.le hle2).le hle3) (hsm k)
      rw [show Sp.item (Sp.piece s cz k) ((cz.getD k 0 : Nat) : Int) = Sp.itemAt s cz k from rfl, Sp.piece] at hit
      have hat : (Sp.itemAt s cz k).at_ = ((cz.getD k 0 : Nat) : Int) := Sp.item_at _ _
      have hsk := hsmall k
      have hsn := Sp.items_snoc s cz k
      generalize Sp.itemAt s cz k = it at hit hat hsk hsn
      generalize cz.getD (k + 1) s.length = e2 at hca hzb hit
      generalize cz.getD k 0 = e1 at hca hza hit hat
      clear hsmall hsm hcat hz1 hz2 hits0 herr hok
      repeat' (first|(refine wc_semi_mem (id:=24) (hm.perm pm1_1) 3 6 (h:=?_); clear hm; intro wd hR hm)|(refine iq_indexFlat (d:=88) (enc:=encInt) (z:=e1) (hr:=hrow2) (he:=fun _ => rfl) (hz:=hza) (k:=?_); intro bt ot hpt)|(refine iq_indexFlat (d:=93) (enc:=encInt) (z:=e2) (hr:=hrow2) (he:=fun _ => rfl) (hz:=hzb) (k:=?_); intro bt2 ot2 hpt2)|(refine m_lookup2 hm (by rfl) (by rfl) (by rfl) (by rfl) (by first | exact gt0 | exact gt1 | exact gt2 | exact gt3 | exact gt4 | exact gt5 | exact gt6) (by exact List.nodup_nil) zero_item ?_)|(refine i_indexFlat (d:=109) (enc:=encInt) (z:=e1) (hr:=hrow2) (he:=fun _ => rfl) (hz:=hza) (k:=?_); intro bt3 ot3 hpt3)|(refine m_call hm (hc:=hit) (k:=?_); clear hm; rintro _ I4 _ _ ⟨_, rfl, ⟨ap, cp1, as_, cs1, ab, cb, ad, cd, xb, rfl, r1, r2, r3, r4, r5⟩, rfl⟩ hle hm; have hleI4 := hle; try simp only [setn] at hm)|(refine i_indexFlat (d:=114) (enc:=encInt) (z:=e1) (hr:=hrow2.le hleI4) (he:=fun _ => rfl) (hz:=hza) (k:=?_); intro bt4 ot4 hpt4)|(refine mt_call (d:=120) hm (hc:=p_own it hsk _ _ ⟨ap, cp1, as_, cs1, ab, cb, ad, cd, xb, by rw [hat], r1, r2, r3, r4, r5⟩) (k:=?_); clear hm; rintro _ I5 _ _ ⟨_, rfl, ⟨ap2, cp2, as2, cs2, ab2, cb2, ad2, cd2, xb2, rfl, q1, q2, q3, q4, q5⟩, rfl⟩ hle hm; have hleI5 := hle; try simp only [setn] at hm)|refine mw_loadAll hR (k:=?_)|refine mw_load1 hR (k:=?_)|(refine mt_push (d:=122) hm (k:=?_); clear hm; intro a122 cp122 _ _ hm; replace hm := hR.back hm; clear hR; try simp only [setn] at hm)|(refine m_varS (d:=17) hm (k:=?_); clear hm; intro b17 _ hm)|refine m_load1 hm (k:=?_)|refine i_load1z hm (k:=?_)|refine iq_load1z hm (k:=?_)|(refine m_storeAll hm (k:=?_); clear hm; intro _ hm; try simp only [setn] at hm)|(refine m_store1 hm (k:=?_); clear hm; intro _ hm; try simp only [setn] at hm)|refine op_move (k:=?_)|refine op_assign (k:=?_)|refine op_lss (k:=?_)|refine op_eql (k:=?_)|refine op_len_slice (k:=?_)|refine op_not (k:=?_)|refine op_extract (k:=?_)|refine op_add (k:=?_)|refine op_fieldAddr (k:=?_)|refine wl_nil ?_|refine at_then_normal ?_|refine at_block_normal ?_|refine wc_seq ?_|refine wc_region ?_|refine wc_block ?_|refine wc_skip ?_|refine wc_quiet (h:=?_)|(refine wq_nil ?_; intro _ hkq; replace hm := hm.kept0 hkq; clear hkq)|refine wc_cond_true (ht:=?_)|(refine wc_cond_dec (ht:=fun _ => ?_) (hf:=fun _ => ?_)<;> (try first | contradiction | (exfalso; omega)))|refine q_move (k:=?_)|refine q_assign (k:=?_)|refine q_add (k:=?_)|refine q_slice_str (k:=?_)|refine v_fieldAddr (k:=?_)|refine wv_nil ?_)
      all_goals try (exfalso; first | omega | contradiction)
      refine at_round (⟨k + 1, I5, _, _, _⟩ : AgX) (by exact ⟨rfl, rfl, rfl, rfl, rfl, rfl, rfl, rfl, trivial⟩) ⟨(hm.front 1 rfl).tl, (hle3.trans hleI4).trans hleI5, ?_, by dsimp only; omega, by dsimp only; omega⟩ (by dsimp only; omega)
      dsimp only
      rw [hsn]
      exact (hits.le (hleI4.trans hleI5)).snoc ⟨ap2, cp2, as2, cs2, ab2, cb2, ad2, cd2, xb2, rfl, q1, q2, q3, q4, q5⟩
  · obtain rfl : k = n := by omega
    obtain ⟨he, hi⟩ := hok hk30
    subst he; subst hi
    have hln : (Sp.items s cz).length = k := by rw [hits0]; simp
    repeat' (first|(refine m_ret3_agg hm (by rfl) (by rfl) (by rfl) (by rfl) (by first | exact gt0 | exact gt1 | exact gt2 | exact gt3 | exact gt4 | exact gt5 | exact gt6) (by rfl) ?_)|refine m_loadAll hm (k:=?_)|(refine m_storeAll hm (k:=?_); clear hm; intro _ hm; try simp only [setn] at hm)|refine op_move (k:=?_)|refine op_assign (k:=?_)|refine op_lss (k:=?_)|refine wl_nil ?_|refine at_then_normal ?_|refine at_then_exit ?_|refine at_block_exit ?_|refine wc_seq ?_|refine wc_region ?_|refine wc_exit ?_|refine wc_ret ?_|(refine wc_cond_dec (ht:=fun _ => ?_) (hf:=fun _ => ?_)<;> (try first | contradiction | (exfalso; omega))))
    all_goals try (exfalso; omega)
    obtain ⟨I4, hle4, hm4, hrow4⟩ := (hm.front 0 rfl).freeze
    refine ⟨I4, [], ⟨a, cp, xs, ?_, ?_, by rw [hits0]; exact hits.le hle4, rfl⟩, hm4.left (H := [])⟩
    · rw [hln]; rfl
    · rw [hln]; exact hrow4
theorem p_file (s : List UInt8) (I : Imm) (hC : Conv I) (hs : s.length ≤ 9223372036854775807) : CalM Tryz.prog 17 #[str s] I [] (ToFile (Sp.fileErr s) (Sp.fileItems s)) := by
  refine CalM.of fun w E hm => enter (N := 16) Tryz.func17 rfl [(0, str s)] args1 rfl ?_
  repeat' (first|(refine m_call hm (hc:=p_again0 s I hC hs) (k:=?_); clear hm; rintro _ I2 _ _ ⟨a, cp, xs, rfl, hrow, hits, rfl⟩ hle hm; have hleI2 := hle; try simp only [setn] at hm)|(refine m_allocS (d:=2) hm (k:=?_); clear hm; intro b2 _ hm)|(refine m_varS (d:=4) hm (k:=?_); clear hm; intro b4 _ hm)|refine m_loadAll hm (k:=?_)|(refine m_storeAll hm (k:=?_); clear hm; intro _ hm; try simp only [setn] at hm)|refine m_ret2_agg hm (h:=?_)|refine op_move (k:=?_)|refine op_assign (k:=?_)|refine op_extract (k:=?_)|refine op_struct (k:=?_)|refine wl_nil ?_|refine at_then_normal ?_|refine wc_seq ?_|refine wc_region ?_|refine wc_ret ?_)
  exact ⟨I2, [], ⟨a, cp, xs, rfl, hrow, hits, rfl⟩, hm.left (H := [])⟩
end Go.Proofs.YthmdffgiockcbaaGreatDoor
end
section

end
section
namespace Go.Sp
def stands (s : List UInt8) (a : Nat) (n : List UInt8) : Prop := a + n.length ≤ s.length ∧ (s.drop a).take n.length = n
theorem stands_nil {s : List UInt8} {a : Nat} (h : a ≤ s.length) : stands s a [] := ⟨by simpa using h, by simp⟩
def stE (s : List UInt8) : PE := fun k nm _ _ f _ => (k = 2 ∨ k = 4) → stands s f nm
def stS (s : List UInt8) : PS := fun k nm a _ _ _ _ => (k = 1 ∨ k = 2 ∨ k = 5) → stands s a nm
theorem tok_stands (src : List UInt8) (i : Nat) : stands src ((⟨tokens src, src.length⟩ : Src).tok i).pos ((⟨tokens src, src.length⟩ : Src).tok i).text := by
  rw [Src.tok]
  by_cases h : i < (tokens src).length
  · have hk := tokens_ok src (tokens src)[i] (List.getElem_mem h)
    simp only [List.getD_eq_getElem?_getD, List.getElem?_eq_getElem h, Option.getD_some]
    exact ⟨hk.fit, hk.text.symm⟩
  · simp only [List.getD_eq_getElem?_getD, List.getElem?_eq_none (Nat.le_of_not_lt h), Option.getD_none]
    exact stands_nil (Nat.le_refl _)
theorem named_stands (src : List UInt8) (s : St) : stands src ((⟨tokens src, src.length⟩ : Src).tok s.i).pos (s.named ⟨tokens src, src.length⟩).1 := by
  have h := tok_stands src s.i
  have h0 : stands src ((⟨tokens src, src.length⟩ : Src).tok s.i).pos [] := stands_nil (by have := h.1; omega)
  rw [St.named]
  split
  · exact h
  · split
    · exact h0
    · exact h0
theorem stE_at (src : List UInt8) : AtE ⟨tokens src, src.length⟩ (stE src) :=
  ⟨fun h => (by omega), fun i h => (by omega), fun i n _ _ h => (by omega), fun i _ _ => tok_stands src i, fun i j m _ _ _ => tok_stands src i, fun i k1 n1 v1 m1 f1 t1 k2 n2 v2 m2 f2 t2 _ _ _ h => (by omega)⟩
theorem stS_at (src : List UInt8) : AtS ⟨tokens src, src.length⟩ (stS src) :=
  ⟨fun h => (by omega), fun i s lb o j _ _ => named_stands src s, fun i j _ _ => tok_stands src i, fun k i j hk h => (by omega), fun i s j _ => named_stands src s⟩
structure ItS (s : List UInt8) (p : Nat) (q : List UInt8) (it : Itm) : Prop where
  at_ : it.at_ = p
  sub : ∀ a n, stands q a n → stands s (p + a) n
  body : stmsAll (stE q) (stS q) it.body
  params : ∀ x ∈ it.params, stands q x.at_ x.name
  sends : ∀ x ∈ it.sends, stands q x.at_ x.name
  mark : stands q it.mark it.name
def ItS0 (s : List UInt8) (it : Itm) : Prop := ∃ p q, ItS s p q it
theorem piece_stands (s : List UInt8) {c e : Nat} (hc : c ≤ s.length) (he : e ≤ s.length) {a : Nat} {n : List UInt8} (h : stands ((s.drop c).take (e - c)) a n) : stands s (c + a) n := by
  obtain ⟨h1, h2⟩ := h
  rw [List.length_take, List.length_drop] at h1
  refine ⟨by omega, ?_⟩
  rw [List.drop_take, List.take_take, List.drop_drop, Nat.min_eq_left (by omega)] at h2
  exact h2
theorem file_its (s : List UInt8) : ∀ it ∈ fileItems s, ItS0 s it := by
  intro it hit
  rw [fileItems] at hit
  split at hit
  · rw [items, List.mem_map] at hit
    obtain ⟨i, hi, rfl⟩ := hit
    have hi := List.mem_range.1 hi
    obtain ⟨c1, c2⟩ := cuts_at s hi
    have hall := item_all (src := piece s (cuts s) i) ((cuts s).getD i 0 : Nat) (stE_at _) (stS_at _) (r := fun x => stands (piece s (cuts s) i) x.at_ x.name) (t := fun x => stands (piece s (cuts s) i) x.at_ x.name) (fun s _ _ => named_stands _ s) (fun s => named_stands _ s)
    refine ⟨(cuts s).getD i 0, piece s (cuts s) i, ?_⟩
    rw [itemAt]
    refine ⟨item_at _ _, fun a n h => piece_stands s (by omega) c2 h, hall.body, hall.params, hall.sends, ?_⟩
    rcases hall.mark with ⟨h1, h2⟩ | ⟨st, h1, h2⟩
    · rw [h1]
      rcases h2 with ⟨j, h2⟩ | h2
      · rw [h2]; exact stands_nil (by have := (tok_stands (piece s (cuts s) i) j).1; omega)
      · rw [h2]; exact stands_nil (Nat.zero_le _)
    · rw [h1, h2]; exact named_stands _ st
  · cases hit
def UseOk (s : List UInt8) (u : Us) : Prop := ∃ f d n, u.fr = ((f : Nat) : Int) ∧ u.to = ((f + n.length : Nat) : Int) ∧ u.df = ((d : Nat) : Int) ∧ n ≠ [] ∧ stands s f n ∧ stands s d n
def NW.ok (s : List UInt8) (w : NW) : Prop := ∀ u ∈ w.us, UseOk s u
def scOk (q : List UInt8) (sc : List Lc) : Prop := ∀ l ∈ sc, l.name ≠ [] ∧ stands q l.at_ l.name
theorem findIt_ok {s : List UInt8} {its : List Itm} (h : ∀ x ∈ its, ItS0 s x) {k : Int} {n : List UInt8} {j : Nat} (hf : findIt its k n = some j) : n ≠ [] ∧ ∃ d : Nat, (itNo its j).at_ + (itNo its j).mark = (d : Int) ∧ stands s d n := by
  obtain ⟨hj, h1, h2, h3, h4⟩ := findIt_lt hf
  obtain ⟨p, q, hi⟩ := h _ h4
  refine ⟨h3, p + (itNo its j).mark, by rw [hi.at_]; omega, ?_⟩
  have := hi.sub _ _ hi.mark
  rw [h2] at this
  exact this
end Go.Sp
end
section
namespace Go.Sp
section
variable {s q : List UInt8} {p : Nat} {its : List Itm} {sc : List Lc}
theorem scOk_snoc (h : scOk q sc) {n : List UInt8} {a : Nat} (hn : n ≠ []) (hst : stands q a n) : scOk q (sc ++ [⟨n, a⟩]) := fun l hl => by
  rcases List.mem_append.1 hl with hl | hl
  · exact h l hl
  · obtain rfl := List.mem_singleton.1 hl
    exact ⟨hn, hst⟩
theorem scOk_nil : scOk q [] := fun l h => by cases h
end
end Go.Sp
end
section
namespace Go.Sp
theorem findLn_cut (n : List UInt8) {l : List Lc} {k : Nat} {x : Lc} (h : l[k]? = some x) : findLc (l.take (k + 1)) n = if x.name = n then some x else findLc (l.take k) n := by
  rw [take_succ_get h, findLc_snoc]
end Go.Sp
namespace Go.Fw
theorem sub4_0 {R : List HItem} {a b c d : HItem} : ∀ h ∈ [a, b, c, d], h ∈ a :: b :: c :: d :: R := by simp
theorem pm4_0 {R : List HItem} {a b c d : HItem} : (a :: b :: c :: d :: R).Perm ([a, b, c, d] ++ R) := .refl _
theorem pm4_1 {R : List HItem} {a b c d x : HItem} : (x :: a :: b :: c :: d :: R).Perm ([a, b, c, d] ++ (x :: R)) :=
  (pm3_1 (R := d :: R)).trans (((List.Perm.swap d x R).cons c).cons b |>.cons a)
end Go.Fw
namespace Go.Proofs.YthmdffgiockcbaaGreatDoor
open Go.Fw
abbrev encLn (l : Sp.Lc) : List Value := [str l.name, nt l.at_]
abbrev encUs (u : Sp.Us) : List Value := [.int .i64 u.fr, .int .i64 u.to, .int .i64 u.df]
abbrev lnRow (sc : List Sp.Lc) (sa : Option Addr) (sp : Nat) : HItem := .row (.slice sa sc.length sp) 211 2 sc.length (sc.flatMap encLn)
abbrev usRow (us : List Sp.Us) (ua : Option Addr) (up : Nat) : HItem := .row (.slice ua us.length up) 38 3 us.length (us.flatMap encUs)
abbrev nObj (bc bf : Nat) (pi : Value) (sc : List Sp.Lc) (sa : Option Addr) (sp : Nat) (s : Sp.NW) (da : Option Addr) (dp : Nat) (ua : Option Addr) (up : Nat) : HItem :=
  .obj bc (.cells [ptr bf, pi, .slice sa sc.length sp, .slice da s.ds.length dp, .slice ua s.us.length up].toArray 119 (0, 0))
abbrev NSt (bc bf : Nat) (pi : Value) (sc : List Sp.Lc) (sa : Option Addr) (sp : Nat) (s : Sp.NW) (da : Option Addr) (dp : Nat) (ua : Option Addr) (up : Nat) : List HItem :=
  [nObj bc bf pi sc sa sp s da dp ua up, usRow s.us ua up, lnRow sc sa sp, dgRow s.ds da dp]
abbrev ToN (bc bf : Nat) (pi : Value) (sc : List Sp.Lc) (s : Sp.NW) (val : Value) : Value → Imm → List HItem → Prop :=
  fun v _ H' => v = val ∧ ∃ sa sp da dp ua up, H' = NSt bc bf pi sc sa sp s da dp ua up
structure NRd (J : Imm) (bc bf : Nat) (pi : Value) (sc : List Sp.Lc) (sa : Option Addr) (sp : Nat) (v3 v4 : Value) : Prop where
  ptr : PtrI J bc 0 119 [ptr bf, pi, .slice sa sc.length sp, v3, v4]
  row : RowI J 211 2 (.slice sa sc.length sp) sc.length (sc.flatMap encLn)
theorem NRd.le {I J : Imm} (m : Le I J) {bc bf : Nat} {pi : Value} {sc : List Sp.Lc} {sa : Option Addr} {sp : Nat} {v3 v4 : Value} (h : NRd I bc bf pi sc sa sp v3 v4) : NRd J bc bf pi sc sa sp v3 v4 := ⟨h.ptr.le m, h.row.le m⟩
def lcV : Option Sp.Lc → Value
  | some l => .tuple #[.agg [str l.name, nt l.at_].toArray, .bool true]
  | none => .tuple #[.agg [str [], nt 0].toArray, .bool false]
structure NC (I : Imm) (src : List UInt8) (p : Nat) (q : List UInt8) (its : List Sp.Itm) (it : Sp.Itm) (bf : Nat) (a : Option Addr) (cp : Nat) (xs : List Value) (pi : Value) : Prop where
  file : PtrI I bf 0 25 [.slice a its.length cp]
  fe : FE I its a cp xs
  item : ∃ bi oi tc ci, pi = .pointer (some ⟨bi, oi, none⟩) ∧ PtrI I bi oi tc ci ∧ ItAt I it ci
  len : src.length ≤ 4000
  st : Sp.ItS src p q it
  sts : ∀ x ∈ its, Sp.ItS0 src x
theorem NC.le {I J : Imm} (m : Le I J) {src : List UInt8} {p : Nat} {q : List UInt8} {its : List Sp.Itm} {it : Sp.Itm} {bf : Nat} {a : Option Addr} {cp : Nat} {xs : List Value} {pi : Value} (h : NC I src p q its it bf a cp xs pi) : NC J src p q its it bf a cp xs pi := by
  obtain ⟨h1, h2, ⟨bi, oi, tc, ci, e, h3, h4⟩, h5, h6, h7⟩ := h
  exact ⟨h1.le m, h2.le m, ⟨bi, oi, tc, ci, e, h3.le m, h4.le m⟩, h5, h6, h7⟩
section
variable {I : Imm} {bc bf sp dp up : Nat} {pi : Value} {sc : List Sp.Lc} {sa da ua : Option Addr} {s : Sp.NW}
theorem CalR.walker {f : FuncId} {args : Array Value} {v : Value} (h : ∀ J, Le I J → NRd J bc bf pi sc sa sp (.slice da s.ds.length dp) (.slice ua s.us.length up) → CalR Tryz.prog f args J [] v) :
    CalR Tryz.prog f args I (NSt bc bf pi sc sa sp s da dp ua up) v :=
  CalR.of fun w J hm hl hH hJ => by
    have h1 := immOf_ptr (hH (nObj bc bf pi sc sa sp s da dp ua up) (by simp))
    have h2 := immOf_row (hH (lnRow sc sa sp) (by simp))
    rw [← hJ] at h1 h2
    exact (h J hl ⟨h1, h2⟩).run w hm.inv (fun _ h => by cases h)
theorem n_lfind {J : Imm} {v3 v4 : Value} (n : List UInt8) (hs : sc.length ≤ 1099511627776) (h : NRd J bc bf pi sc sa sp v3 v4) : CalM Tryz.prog 131 #[ptr bc, str n] J [] (fun v _ H' => v = lcV (Sp.findLc sc n) ∧ H' = []) := by
  refine CalM.of fun w E hm => enter (N := 35) Tryz.func131 rfl [(0, ptr bc), (1, str n)] args2 rfl ?_
  obtain ⟨hp, hr⟩ := h
  repeat' (first|(refine m_allocS (d:=4) hm (k:=?_); clear hm; intro b4 _ hm)|refine i_load1 hm (k:=?_)|refine op_move (k:=?_)|refine op_assign (k:=?_)|refine op_len_slice (k:=?_)|refine op_nilCheck (k:=?_)|refine op_sub (k:=?_)|refine op_fieldAddr (k:=?_)|refine wl_nil ?_|refine at_then_normal ?_|refine wc_seq ?_|refine wc_region ?_|refine wc_block ?_)
  refine wc_loop (fun k : Nat => [(0, ptr bc), (1, str n), (4, ptr b4), (6, .int .i64 ((k : Int) - 1))]) (fun k w' => Mem E J [.cell b4 [str [], nt 0] 211] w' ∧ k ≤ sc.length ∧ Sp.findLc sc n = Sp.findLc (sc.take k) n) (fun k => k) sc.length (by exact ⟨rfl, rfl, rfl, rfl, trivial⟩) ⟨hm, Nat.le_refl _, by rw [List.take_length]⟩ ?_
  clear hm
  rintro k w1 ⟨hm, hk, hf⟩
  try dsimp only at hm hk hf ⊢
  by_cases h0 : 0 < k
  · have hg : sc[k - 1]? = some sc[k - 1] := List.getElem?_eq_getElem (by omega)
    have hcut := Sp.findLn_cut n hg
    rw [show k - 1 + 1 = k by omega] at hcut
    generalize sc[k - 1] = x at hg hcut
    rw [hcut] at hf
    have hi : sc[((k : Int) - 1).toNat]? = some x := by rw [show ((k : Int) - 1).toNat = k - 1 by omega]; exact hg
    by_cases hx : x.name = n
    · rw [if_pos hx] at hf
      repeat' (first|(refine i_indexFlat (d:=22) (enc:=encLn) (z:=x) (hr:=hr) (he:=fun _ => rfl) (hz:=hi) (k:=?_); intro b1 o1 p1)|(refine i_indexFlat (d:=32) (enc:=encLn) (z:=x) (hr:=hr) (he:=fun _ => rfl) (hz:=hi) (k:=?_); intro b2 o2 p2)|refine i_load1 hm (k:=?_)|refine i_loadN hm (k:=?_)|(refine m_storeAll hm (k:=?_); clear hm; intro _ hm; try simp only [setn] at hm)|refine m_ret2_agg hm (h:=?_)|refine op_move (k:=?_)|refine op_assign (k:=?_)|refine op_geq (k:=?_)|refine op_eql_str (k:=?_)|refine op_nilCheck (k:=?_)|refine op_fieldAddr (k:=?_)|refine wl_nil ?_|refine at_then_normal ?_|refine at_then_ret ?_|refine at_block_ret ?_|refine wc_seq ?_|refine wc_region ?_|refine wc_block ?_|refine wc_skip ?_|refine wc_ret ?_|(refine wc_cond_dec (ht:=fun _ => ?_) (hf:=fun _ => ?_)<;> (try first | contradiction | (exfalso; omega))))
      all_goals try (exfalso; first | omega | contradiction)
      exact ⟨J, [], ⟨by rw [hf]; rfl, rfl⟩, hm.left (H := [])⟩
    · rw [if_neg hx] at hf
      repeat' (first|(refine i_indexFlat (d:=22) (enc:=encLn) (z:=x) (hr:=hr) (he:=fun _ => rfl) (hz:=hi) (k:=?_); intro b1 o1 p1)|refine i_load1 hm (k:=?_)|refine op_move (k:=?_)|refine op_assign (k:=?_)|refine op_geq (k:=?_)|refine op_eql_str (k:=?_)|refine op_nilCheck (k:=?_)|refine op_sub (k:=?_)|refine op_fieldAddr (k:=?_)|refine wl_nil ?_|refine at_then_normal ?_|refine at_block_normal ?_|refine wc_seq ?_|refine wc_region ?_|refine wc_block ?_|refine wc_skip ?_|(refine wc_cond_dec (ht:=fun _ => ?_) (hf:=fun _ => ?_)<;> (try first | contradiction | (exfalso; omega))))
      all_goals try (exfalso; first | omega | contradiction)
      refine at_round (k - 1 : Nat) (by exact ⟨rfl, rfl, rfl, by rw [show (((k - 1 : Nat) : Int) - 1) = (k : Int) - 1 - 1 by omega]; rfl, trivial⟩) ⟨hm, by omega, hf⟩ (by omega)
  · obtain rfl : k = 0 := by omega
    repeat' (first|(refine m_storeAll hm (k:=?_); clear hm; intro _ hm; try simp only [setn] at hm)|refine m_ret2_agg hm (h:=?_)|refine op_move (k:=?_)|refine op_assign (k:=?_)|refine op_geq (k:=?_)|refine op_struct (k:=?_)|refine wl_nil ?_|refine at_then_normal ?_|refine at_then_exit ?_|refine at_block_exit ?_|refine wc_seq ?_|refine wc_region ?_|refine wc_exit ?_|refine wc_ret ?_|refine wc_cond_false (hf:=?_))
    all_goals try (exfalso; omega)
    exact ⟨J, [], ⟨by rw [hf]; rfl, rfl⟩, hm.left (H := [])⟩
theorem NSt_tell (bc bf : Nat) (pi : Value) (sc : List Sp.Lc) (sa : Option Addr) (sp : Nat) (s : Sp.NW) (f e : Nat) (n : List UInt8) (da : Option Addr) (dp : Nat) (ua : Option Addr) (up : Nat) :
    [.obj bc (.cells [ptr bf, pi, .slice sa sc.length sp, .slice da (s.ds.length + 1) dp, .slice ua s.us.length up].toArray 119 (0, 0)), usRow s.us ua up, lnRow sc sa sp, .row (.slice da (s.ds.length + 1) dp) 154 4 (s.ds.length + 1) (s.ds.flatMap encDg ++ encDg ⟨f, f + n.length, e, n⟩)] = NSt bc bf pi sc sa sp (s.tell f e n) da dp ua up := by
  simp [Sp.NW.tell, List.flatMap_append]
theorem NSt_use (bc bf : Nat) (pi : Value) (sc : List Sp.Lc) (sa : Option Addr) (sp : Nat) (s : Sp.NW) (b : Int) (f : Nat) (n : List UInt8) (d : Int) (da : Option Addr) (dp : Nat) (ua : Option Addr) (up : Nat) :
    [.obj bc (.cells [ptr bf, pi, .slice sa sc.length sp, .slice da s.ds.length dp, .slice ua (s.us.length + 1) up].toArray 119 (0, 0)), .row (.slice ua (s.us.length + 1) up) 38 3 (s.us.length + 1) (s.us.flatMap encUs ++ encUs ⟨b + f, b + f + n.length, d⟩), lnRow sc sa sp, dgRow s.ds da dp] = NSt bc bf pi sc sa sp (s.use b f n d) da dp ua up := by
  simp [Sp.NW.use, List.flatMap_append]
theorem n_tell (n : List UInt8) (f e : Nat) (hf : f + n.length ≤ 1099511627776) (hd : s.n ≤ 1000000000) :
    CalM Tryz.prog 82 #[ptr bc, nt f, nt e, str n] I (NSt bc bf pi sc sa sp s da dp ua up) (ToN bc bf pi sc (s.tell f e n) (.tuple #[])) := by
  have hn : s.n = s.ds.length + s.us.length := rfl
  refine CalM.of fun w E hm => enter (N := 25) Tryz.func82 rfl [(0, ptr bc), (1, nt f), (2, nt e), (3, str n)] args4 rfl ?_
  repeat' (first|(refine m_push (d:=22) hm (k:=?_); clear hm; intro a22 cp22 _ _ hm; try simp only [setn] at hm)|refine m_load1 hm (k:=?_)|(refine m_store1 hm (k:=?_); clear hm; intro _ hm; try simp only [setn] at hm)|refine op_move (k:=?_)|refine op_len_str (k:=?_)|refine op_nilCheck (k:=?_)|refine op_add (k:=?_)|refine op_fieldAddr (k:=?_)|refine op_struct (k:=?_)|refine wl_nil ?_|refine wc_region ?_|refine at_end0 (h:=?_))
  exact ⟨I, _, ⟨rfl, _, _, _, _, _, _, NSt_tell _ _ _ _ _ _ s f e n _ _ _ _⟩, hm⟩
theorem n_use {src : List UInt8} {p : Nat} {q : List UInt8} {its : List Sp.Itm} {it : Sp.Itm} {a : Option Addr} {cp : Nat} {xs : List Value} (hC : NC I src p q its it bf a cp xs pi) (f : Nat) (n : List UInt8) (d : Int) (hst : Sp.stands q f n) (hd : s.n ≤ 1000000000) :
    CalM Tryz.prog 132 #[ptr bc, nt f, str n, .int .i64 d] I (NSt bc bf pi sc sa sp s da dp ua up) (ToN bc bf pi sc (s.use p f n d) (.tuple #[])) := by
  have hn : s.n = s.ds.length + s.us.length := rfl
  have hb := (hC.st.sub _ _ hst).1
  have hlen := hC.len
  have hat := hC.st.at_
  refine CalM.of fun w E hm => enter (N := 40) Tryz.func132 rfl [(0, ptr bc), (1, nt f), (2, str n), (3, .int .i64 d)] args4 rfl ?_
  obtain ⟨bi, oi, tci, ci, rfl, hpi, hati⟩ := hC.item
  obtain ⟨pa, pc, sa9, sc9, ba, bc9, da9, dc9, xb, rfl, _⟩ := hati
  rw [hat] at hpi
  repeat' (first|(refine wc_semi_mem (id:=0) (hm.perm pm1_1) 28 30 (h:=?_); clear hm; intro wd hR hm)|refine mw_load1 hR (k:=?_)|refine iw_load1 hR (k:=?_)|(refine mt_push (d:=37) hm (k:=?_); clear hm; intro a37 cp37 _ _ hm; replace hm := hR.back hm; clear hR; try simp only [setn] at hm)|(refine m_store1 hm (k:=?_); clear hm; intro _ hm; try simp only [setn] at hm)|refine op_nilCheck (k:=?_)|refine op_fieldAddr (k:=?_)|refine wl_nil ?_|refine at_end0 (h:=?_)|refine v_move (k:=?_)|refine v_len_str (k:=?_)|refine v_nilCheck (k:=?_)|refine v_add (k:=?_)|refine v_fieldAddr (k:=?_)|refine v_struct (k:=?_)|refine wv_nil ?_)
  all_goals try (exfalso; omega)
  exact ⟨I, _, ⟨rfl, _, _, _, _, _, _, NSt_use _ _ _ _ _ _ s p f n d _ _ _ _⟩, hm.swap⟩
end
end Go.Proofs.YthmdffgiockcbaaGreatDoor
end
