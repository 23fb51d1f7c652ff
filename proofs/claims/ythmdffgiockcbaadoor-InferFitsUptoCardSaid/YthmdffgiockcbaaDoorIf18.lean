/- Own work: texts PpP, PpQ, PpR, one behind the other. -/
import Derived.Test.YthmdffgiockcbaaDoorIf17
section
namespace Go.Sp
end Go.Sp
namespace Go.Proofs.YthmdffgiockcbaaDoor
open Go.Fw
structure CpX where
  k : Nat
  I : Imm
  a : Option Addr
  cp : Nat
  xs : List Value
/-- an expression like one that was there. -/
abbrev ToCpE (e : Sp.Ex) : Value → Imm → List HItem → Prop := fun v I' H' => H' = [] ∧ ∃ ea ec xs, v = .agg (exCells e ea ec).toArray ∧ RowI I' 41 6 (.slice ea e.args.length ec) e.args.length xs ∧ ExsAt I' e.args xs
set_option maxHeartbeats 4000000 in
theorem p_ownExpr : ∀ (n : Nat) (e : Sp.Ex), SizeOf.sizeOf e ≤ n → e.small → ∀ (I : Imm) (ea : Option Addr) (ec : Nat) (xs : List Value), RowI I 41 6 (.slice ea e.args.length ec) e.args.length xs → ExsAt I e.args xs →
    CalM Tryd.prog 35 #[.agg (exCells e ea ec).toArray] I [] (ToCpE e) := by
  intro n
  induction n with
  | zero => intro e h; cases e; simp at h
  | succ n ih =>
  intro e hsz hsm I ea ec xs hr hx
  obtain ⟨hal, hasm⟩ := Sp.small_args hsm
  refine CalM.of fun w E hm => enter (N := 22) Tryd.func35 rfl [(0, .agg (exCells e ea ec).toArray)] args1 rfl ?_
  repeat' (first
  | (refine m_box (d:=1) hm (k:=?_); clear hm; intro b1 _ hm)
  | (refine m_allocS (d:=2) hm (k:=?_); clear hm; intro b2 _ hm)
  | refine m_load1 hm (k:=?_)
  | refine op_move (k:=?_)
  | refine op_assign (k:=?_)
  | refine op_len_slice (k:=?_)
  | refine op_fieldAddr (k:=?_)
  | refine wl_nil ?_
  | refine at_then_normal ?_
  | refine wc_seq ?_
  | refine wc_region ?_
  | refine wc_block ?_)
  have hm := hm.nil 41 6
  refine wc_loop (fun x : CpX => [(1, ptr b1), (2, ptr b2), (3, .slice x.a x.k x.cp), (7, .slice ea e.args.length ec), (8, nt e.args.length), (9, nt x.k)])
    (fun x w' => Mem E x.I [argRow x.k x.a x.cp x.xs, .cell b2 ex0 41, .cell b1 (exCells e ea ec) 41] w' ∧ Le I x.I ∧ ExsAt x.I (e.args.take x.k) x.xs ∧ x.k ≤ e.args.length)
    (fun x => e.args.length - x.k) ⟨0, I, none, 0, []⟩ (by exact ⟨rfl, rfl, rfl, rfl, rfl, rfl, trivial⟩) ⟨hm, Le.refl _, .nil, Nat.zero_le _⟩ ?_
  clear hm
  rintro ⟨k, I1, a1, cp1, xs1⟩ w2 ⟨hm, hle1, hxs, hk⟩
  dsimp only at hm hle1 hxs hk ⊢
  by_cases hlt : k < e.args.length
  · have hg : e.args[k]? = some e.args[k] := List.getElem?_eq_getElem hlt
    have hme : e.args[k] ∈ e.args := List.getElem_mem hlt
    obtain ⟨ea2, ec2, xs2, hc2, hr2, hx2⟩ := (hx.get hg).out
    have hsm2 := Sp.exsSmall_get hasm hg
    have hsz2 := Sp.size_args hme
    generalize e.args[k] = y at hg hc2 hr2 hx2 hsm2 hsz2
    have hcall := fun (I' : Imm) (m : Le I I') => ih y (by omega) hsm2 I' ea2 ec2 xs2 (hr2.le m) (ExsAt.le m _ _ hx2)
    have htk : e.args.take (k + 1) = e.args.take k ++ [y] := by rw [List.take_add_one, hg]; rfl
    have hri := hr.le hle1
    repeat' (first
    | (refine i_indexAddr (hr:=hri) (k:=?_); intro bt ot hpt; rw [show ((k : Int).toNat * 6) = k * 6 from rfl, hc2] at hpt)
    | (refine m_call hm (hc:=hcall _ hle1) (k:=?_); clear hm; rintro _ I2 _ _ ⟨rfl, ea3, ec3, xs3, rfl, hr3, hx3⟩ hle hm; have hleI2 := hle; try simp only [setn] at hm)
    | (refine m_varS (d:=5) hm (k:=?_); clear hm; intro b5 _ hm)
    | (refine m_push (d:=17) hm (k:=?_); clear hm; intro a17 cp17 _ _ hm; try simp only [setn] at hm)
    | refine m_loadAll hm (k:=?_)
    | refine i_loadN hm (k:=?_)
    | refine op_move (k:=?_)
    | refine op_assign (k:=?_)
    | refine op_lss (k:=?_)
    | refine op_add (k:=?_)
    | refine wl_nil ?_
    | refine at_then_normal ?_
    | refine at_block_normal ?_
    | refine wc_seq ?_
    | refine wc_region ?_
    | refine wc_block ?_
    | refine wc_skip ?_
    | (refine wc_cond_dec (ht:=fun _ => ?_) (hf:=fun _ => ?_)<;> (try first | contradiction | (exfalso; omega))))
    all_goals try (exfalso; omega)
    refine at_round (⟨k + 1, I2, _, _, _⟩ : CpX) (by exact ⟨rfl, rfl, rfl, rfl, rfl, rfl, trivial⟩) ⟨hm.tl, hle1.trans hleI2, ?_, by dsimp only; omega⟩ (by dsimp only; omega)
    dsimp only
    rw [htk]
    exact (ExsAt.le hleI2 _ _ hxs).snoc (exAt_cells hr3 hx3)
  · obtain rfl : k = e.args.length := by omega
    rw [List.take_length] at hxs
    repeat' (first
    | refine m_loadAll hm (k:=?_)
    | (refine m_storeAll hm (k:=?_); clear hm; intro _ hm; try simp only [setn] at hm)
    | (refine m_store1 hm (k:=?_); clear hm; intro _ hm; try simp only [setn] at hm)
    | refine m_ret_agg hm (h:=?_)
    | refine op_move (k:=?_)
    | refine op_lss (k:=?_)
    | refine op_fieldAddr (k:=?_)
    | refine wl_nil ?_
    | refine at_then_normal ?_
    | refine at_then_exit ?_
    | refine at_block_exit ?_
    | refine wc_seq ?_
    | refine wc_region ?_
    | refine wc_exit ?_
    | refine wc_ret ?_
    | (refine wc_cond_dec (ht:=fun _ => ?_) (hf:=fun _ => ?_)<;> (try first | contradiction | (exfalso; omega))))
    all_goals try (exfalso; omega)
    obtain ⟨I3, hle3, hm3, hrow3⟩ := (hm.front 0 rfl).freeze
    exact ⟨I3, [], ⟨rfl, a1, cp1, xs1, rfl, hrow3, ExsAt.le hle3 _ _ hxs⟩, hm3.left (H := [])⟩
/-- statements like those that were there. -/
abbrev ToCpS (l : List Sp.Stm) : Value → Imm → List HItem → Prop := fun v I' H' => H' = [] ∧ ∃ a c xs, v = .slice a l.length c ∧ RowI I' 43 15 (.slice a l.length c) l.length xs ∧ StsAt I' l xs
set_option maxHeartbeats 8000000 in
theorem p_ownStmts : ∀ (n : Nat) (l : List Sp.Stm), SizeOf.sizeOf l ≤ n → l.length ≤ 64 → Sp.stmsSmall l → ∀ (I : Imm) (a : Option Addr) (c : Nat) (xs : List Value), RowI I 43 15 (.slice a l.length c) l.length xs → StsAt I l xs →
    CalM Tryd.prog 21 #[.slice a l.length c] I [] (ToCpS l) := by
  intro n
  induction n with
  | zero => intro l h; cases l <;> simp at h
  | succ n ih =>
  intro l hsz hll hsm I a c xs hr hx
  refine CalM.of fun w E hm => enter (N := 30) Tryd.func21 rfl [(0, .slice a l.length c)] args1 rfl ?_
  repeat' (first
  | refine op_move (k:=?_)
  | refine op_assign (k:=?_)
  | refine op_len_slice (k:=?_)
  | refine wl_nil ?_
  | refine at_then_normal ?_
  | refine wc_seq ?_
  | refine wc_region ?_
  | refine wc_block ?_)
  have hm := hm.nil 43 15
  refine wc_loop (fun x : CpX => [(3, .slice x.a x.k x.cp), (6, .slice a l.length c), (7, nt l.length), (8, nt x.k)])
    (fun x w' => Mem E x.I [stRow x.k x.a x.cp x.xs] w' ∧ Le I x.I ∧ StsAt x.I (l.take x.k) x.xs ∧ x.k ≤ l.length)
    (fun x => l.length - x.k) ⟨0, I, none, 0, []⟩ (by exact ⟨rfl, rfl, rfl, rfl, trivial⟩) ⟨hm, Le.refl _, .nil, Nat.zero_le _⟩ ?_
  clear hm
  rintro ⟨k, I1, a1, cp1, xs1⟩ w2 ⟨hm, hle1, hxs, hk⟩
  dsimp only at hm hle1 hxs hk ⊢
  by_cases hlt : k < l.length
  · have hg : l[k]? = some l[k] := List.getElem?_eq_getElem hlt
    have hme := Sp.sizeL_mem (List.getElem_mem hlt)
    obtain ⟨ea2, ec2, ex2, a2, c2, xs2, a3, c3, xs3, hc2, hr2, hx2, hr3, hx3, hr4, hx4⟩ := (hx.get hg).out
    have hsm2 := Sp.stmsSmall_get hsm hg
    generalize l[k] = y at hg hc2 hr2 hx2 hr3 hx3 hr4 hx4 hsm2 hme
    obtain ⟨s1, s2, s3, s4, s5⟩ := Sp.small_parts hsm2
    obtain ⟨z1, z2⟩ := Sp.size_thn (s := y)
    have hce := fun (I' : Imm) (m : Le I I') => p_ownExpr (SizeOf.sizeOf y.e) y.e (Nat.le_refl _) s1 I' ea2 ec2 ex2 (hr2.le m) (ExsAt.le m _ _ hx2)
    have hct := fun (I' : Imm) (m : Le I I') => ih y.thn (by omega) s2 s3 I' a2 c2 xs2 (hr3.le m) (StsAt.le m _ _ hx3)
    have hcl := fun (I' : Imm) (m : Le I I') => ih y.els (by omega) s4 s5 I' a3 c3 xs3 (hr4.le m) (StsAt.le m _ _ hx4)
    have htk : l.take (k + 1) = l.take k ++ [y] := by rw [List.take_add_one, hg]; rfl
    have hri := hr.le hle1
    repeat' (first
    | (refine wc_mix_mem (id:=5) (hm.perm pm0) [([0,1,3,4,6,7],[2]),([9],[5]),([],[8])] 10 (h:=?_); clear hm; intro wd hR hm)
    | (refine i_indexAddr (hr:=hri) (k:=?_); intro bt ot hpt; rw [show ((k : Int).toNat * 15) = k * 15 from rfl, hc2] at hpt)
    | (refine mt_call (d:=14) hm (hc:=hce _ hle1) (k:=?_); clear hm; rintro _ I2 _ _ ⟨rfl, ea3, ec3, ex3, rfl, hr5, hx5⟩ hle hm; have hleI2 := hle; try simp only [setn] at hm)
    | (refine mt_call (d:=17) hm (hc:=hct _ (hle1.trans hleI2)) (k:=?_); clear hm; rintro _ I3 _ _ ⟨rfl, a4, c4, xs4, rfl, hr6, hx6⟩ hle hm; have hleI3 := hle; try simp only [setn] at hm)
    | (refine mt_call (d:=20) hm (hc:=hcl _ ((hle1.trans hleI2).trans hleI3)) (k:=?_); clear hm; rintro _ I4 _ _ ⟨rfl, a5, c5, xs5, rfl, hr7, hx7⟩ hle hm; have hleI4 := hle; try simp only [setn] at hm)
    | refine mw_load1 hR (k:=?_)
    | refine mw_loadN hR (k:=?_)
    | refine wx_cons ?_
    | refine wv_nilX ?_
    | refine ws_nil ?_
    | refine at_X ?_
    | (refine wx_nil ?_; replace hm := hR.back hm; clear hR; try simp only [setn] at hm)
    | (refine m_varS (d:=5) hm (k:=?_); clear hm; intro b5 _ hm)
    | (refine m_push (d:=27) hm (k:=?_); clear hm; intro a27 cp27 _ _ hm; try simp only [setn] at hm)
    | refine m_loadAll hm (k:=?_)
    | refine i_loadN hm (k:=?_)
    | (refine m_store1 hm (k:=?_); clear hm; intro _ hm; try simp only [setn] at hm)
    | (refine m_storeN hm (k:=?_); clear hm; intro _ hm; try simp only [setn] at hm)
    | refine op_move (k:=?_)
    | refine op_assign (k:=?_)
    | refine op_lss (k:=?_)
    | refine op_add (k:=?_)
    | refine op_fieldAddr (k:=?_)
    | refine wl_nil ?_
    | refine at_then_normal ?_
    | refine at_block_normal ?_
    | refine wc_seq ?_
    | refine wc_region ?_
    | refine wc_block ?_
    | refine wc_skip ?_
    | (refine wc_cond_dec (ht:=fun _ => ?_) (hf:=fun _ => ?_)<;> (try first | contradiction | (exfalso; omega)))
    | refine v_fieldAddr (k:=?_))
    all_goals try (exfalso; omega)
    refine at_round (⟨k + 1, I4, _, _, _⟩ : CpX) (by exact ⟨rfl, rfl, rfl, rfl, trivial⟩) ⟨hm.tl, ((hle1.trans hleI2).trans hleI3).trans hleI4, ?_, by dsimp only; omega⟩ (by dsimp only; omega)
    dsimp only
    rw [htk]
    exact (StsAt.le ((hleI2.trans hleI3).trans hleI4) _ _ hxs).snoc (stAt_cells (hr5.le (hleI3.trans hleI4)) (ExsAt.le (hleI3.trans hleI4) _ _ hx5) (hr6.le hleI4) (StsAt.le hleI4 _ _ hx6) hr7 hx7)
  · obtain rfl : k = l.length := by omega
    rw [List.take_length] at hxs
    repeat' (first
    | refine op_move (k:=?_)
    | refine op_assign (k:=?_)
    | refine op_lss (k:=?_)
    | refine wl_nil ?_
    | refine at_then_normal ?_
    | refine at_then_exit ?_
    | refine at_block_exit ?_
    | refine wc_seq ?_
    | refine wc_region ?_
    | refine wc_exit ?_
    | refine wc_ret ?_
    | refine at_ret1 (h:=?_)
    | (refine wc_cond_dec (ht:=fun _ => ?_) (hf:=fun _ => ?_)<;> (try first | contradiction | (exfalso; omega))))
    all_goals try (exfalso; omega)
    obtain ⟨I3, hle3, hm3, hrow3⟩ := (hm.front 0 rfl).freeze
    exact ⟨I3, [], ⟨rfl, a1, cp1, xs1, rfl, hrow3, StsAt.le hle3 _ _ hxs⟩, hm3.left (H := [])⟩
end Go.Proofs.YthmdffgiockcbaaDoor
end
section
namespace Go.Fw
open Go
section
variable {P : Program} {N : Nat} {ds : List Deferred} {Q : Exit → Act → World → Prop} {l : Log} {w : World} {ops : Array Oper} {os : List Oper}
variable {d : Nat} {ty : TypeId} {pos : String} {af : Array Edge} {g : Option (Nat × Bool)} {t t' : TypeId} {x y : Operand} {E : Ent} {I : Imm} {H : List HItem}
/-- whether there is such an entry. -/
def mhas (es : Ents) (s : List UInt8) : Bool := (es.find? (fun p => decide (p.1 = s))).isSome
theorem find_idx_isSome (es : Ents) (s : List UInt8) : (es.findIdx? (fun p => decide (p.1 = s))).isSome = mhas es s := by
  rw [mhas]
  induction es with
  | nil => rfl
  | cons p es ih =>
    rw [List.findIdx?_cons, List.find?_cons]
    cases hd : decide (p.1 = s) with
    | true => simp
    | false => simp [ih]
theorem m_lookup2 {kt et : TypeId} [TyMap P t kt et] [TyStr P kt] {i b : Nat} {es : Ents} {s : List UInt8} {zv : Value} (hm : Mem E I H w) (hw : want ops l ⟨some d, .lookup t x y true, ty, pos, af, g⟩ = some true) (hN : Nat.blt d N = true)
    (hx : ev l x = some (.map (some b))) (hy : ev l y = some (str s)) (hi : H[i]? = some (.mp b es)) (_hn : (es.map (·.1)).Nodup) (hz : ∀ w, (zeroValue et).run P w = .ok zv w)
    (k : WL P N ds ops Q os ((d, .tuple #[mlook es s zv, .bool (mhas es s)]) :: l) w) :
    WL P N ds ops Q (⟨some d, .lookup t x y true, ty, pos, af, g⟩ :: os) l w :=
  wl_value rfl hw hN (fun a ha => by
    have h1 := run_underlying (P := P) (w := w) (TyMap.out (P := P) (t := t))
    have hk := TyStr.out (P := P) (t := kt)
    have h2 := run_findKey (P := P) (w := w) hk s es 0
    have h3 := fun b => run_checkKey (P := P) (w := w) hk s b
    have h4 := MapKept.run_getObj_map (P := P) (hm.get hi)
    have h5 := find_idx es s
    have h6 := find_idx_isSome es s
    rw [mlook, ← h5, ← h6]
    cases hf : es.findIdx? (fun p => decide (p.1 = s)) with
    | none =>
      rw [hf] at h2
      simp [execOp, Instr.lookup, ha.ev hx, ha.ev hy, h1, h4, h3, h2, hz]
    | some i =>
      rw [hf] at h2
      have hi : i < es.length := by
        have := List.findIdx?_eq_some_iff_getElem.1 hf
        exact this.1
      have hg : es[i]? = some es[i] := List.getElem?_eq_getElem hi
      simp only [Option.bind_some, hg, Option.map_some] at h2
      simp [execOp, Instr.lookup, ha.ev hx, ha.ev hy, h1, h4, h3, h2, hg]) k
theorem m_ret3_agg {fn : Func} {i tr u u2 n b : Nat} {tc : TypeId} [TyAgg P tc n] {c : List Value} {e : TypeId} {fr : Nat × Nat} {xv xv2 : Value} {Post : Value → World → Prop} (hm : Mem E I H w) (hr : fn.results = #[.cell tr tc, .tmp u, .tmp u2])
    (hx : lk l tr = some (.pointer (some ⟨b, 0, none⟩))) (hu : lk l u = some xv) (hu2 : lk l u2 = some xv2) (hb : H[i]? = some (.obj b (.cells c.toArray e fr))) (hl : c.length = n)
    (h : Post (.tuple #[.agg c.toArray, xv, xv2]) w) : At N [] (bodyPost P fn (Ret Post)) .ret l w :=
  ⟨fun a ha => ⟨ha.defs, _, by
    have hv := run_loadAgg (P := P) (t := tc) (off := 0) (vs := c) (hm.get hb) hl (fun j v hv => by simpa using hv)
    simp [results, hr, ha.vals tr _ hx, ha.vals u _ hu, ha.vals u2 _ hu2, asAddr, hv], h⟩⟩
end
end Go.Fw
namespace Go.Proofs.YthmdffgiockcbaaDoor
open Go.Fw
set_option maxHeartbeats 4000000 in
theorem p_own (it : Sp.Itm) (hs : it.small) (I : Imm) (cs : List Value) (hi : ItAt I it cs) : CalM Tryd.prog 11 #[.agg cs.toArray] I [] (ToIt it) := by
  obtain ⟨ap, cp, as_, cs', ab, cb, ad, cd, xb, rfl, r1, r2, r3, r4, r5⟩ := hi
  have k1 := hs.params
  have k2 := hs.sends
  have k3 := hs.diags
  have k4 := hs.body
  refine CalM.of fun w E hm => enter (N := 20) Tryd.func11 rfl [(0, .agg (itCells it.kind it.name it.label (.slice ap it.params.length cp) (.slice as_ it.sends.length cs') (.slice ab it.body.length cb) it.at_ it.size it.mark (.slice ad it.diags.length cd)).toArray)] args1 rfl ?_
  have c1 := fun (I' : Imm) (m : Le I I') => p_cloneP I' ap it.params.length cp _ (r1.le m) (pars_one _) (by omega)
  have c2 := fun (I' : Imm) (m : Le I I') => p_cloneR I' as_ it.sends.length cs' _ (r2.le m) (rfs_one _) (by omega)
  have c3 := fun (I' : Imm) (m : Le I I') => p_cloneD I' ad it.diags.length cd _ (r5.le m) (dgs_one _) (by omega)
  have c4 := fun (I' : Imm) (m : Le I I') => p_ownStmts (SizeOf.sizeOf it.body) it.body (Nat.le_refl _) (by omega) hs.stms I' ab cb xb (r3.le m) (StsAt.le m _ _ r4)
  repeat' (first
  | (refine wc_mix_mem (id:=1) (hm.perm pm0) [([0,1,3,4,6,7],[2]),([9],[5]),([],[8])] 10 (h:=?_); clear hm; intro wd hR hm)
  | (refine mt_call (d:=5) hm (hc:=c1 _ (Le.refl _)) (k:=?_); clear hm; rintro _ I2 _ _ ⟨rfl, a1, d1, rfl, s1⟩ hle hm; have hleI2 := hle; try simp only [setn] at hm)
  | (refine mt_call (d:=8) hm (hc:=c2 _ hleI2) (k:=?_); clear hm; rintro _ I3 _ _ ⟨rfl, a2, d2, rfl, s2⟩ hle hm; have hleI3 := hle; try simp only [setn] at hm)
  | (refine mt_call (d:=11) hm (hc:=c3 _ (hleI2.trans hleI3)) (k:=?_); clear hm; rintro _ I4 _ _ ⟨rfl, a3, d3, rfl, s3⟩ hle hm; have hleI4 := hle; try simp only [setn] at hm)
  | (refine m_call hm (hc:=c4 _ ((hleI2.trans hleI3).trans hleI4)) (k:=?_); clear hm; rintro _ I5 _ _ ⟨rfl, a4, d4, xs4, rfl, s4, t4⟩ hle hm; have hleI5 := hle; try simp only [setn] at hm)
  | refine mw_load1 hR (k:=?_)
  | refine wx_cons ?_
  | refine wv_nilX ?_
  | refine ws_nil ?_
  | refine at_X ?_
  | (refine wx_nil ?_; replace hm := hR.back hm; clear hR; try simp only [setn] at hm)
  | (refine m_box (d:=1) hm (k:=?_); clear hm; intro b1 _ hm)
  | (refine m_allocS (d:=2) hm (k:=?_); clear hm; intro b2 _ hm)
  | refine m_load1 hm (k:=?_)
  | refine m_loadAll hm (k:=?_)
  | (refine m_storeAll hm (k:=?_); clear hm; intro _ hm; try simp only [setn] at hm)
  | (refine m_store1 hm (k:=?_); clear hm; intro _ hm; try simp only [setn] at hm)
  | refine m_ret_agg hm (h:=?_)
  | refine op_fieldAddr (k:=?_)
  | refine wl_nil ?_
  | refine at_then_normal ?_
  | refine wc_seq ?_
  | refine wc_region ?_
  | refine wc_ret ?_
  | refine v_fieldAddr (k:=?_))
  exact ⟨I5, [], ⟨_, rfl, ⟨a1, d1, a2, d2, a4, d4, a3, d3, xs4, rfl, ((s1.le hleI3).le hleI4).le hleI5, (s2.le hleI4).le hleI5, s4, t4, s3.le hleI5⟩, rfl⟩, hm.left (H := [])⟩
end Go.Proofs.YthmdffgiockcbaaDoor
end
section
namespace Go.Proofs.YthmdffgiockcbaaDoor
open Go.Fw
structure AgX where
  k : Nat
  I : Imm
  a : Option Addr
  cp : Nat
  xs : List Value
abbrev it0 : List Value := itCells 0 [] 0 nil0 nil0 nil0 0 0 0 nil0
theorem zero_item (w : World) : (zeroValue 34).run Tryd.prog w = .ok (.agg it0.toArray) w := by kernel_rfl
/-- what comes of a text and a file. -/
abbrev ToAgain (fresh err : Nat) (its : List Sp.Itm) : Value → Imm → List HItem → Prop := fun v I' H' => ∃ a cp xs, v = .tuple #[.agg [.slice a its.length cp].toArray, nt fresh, nt err] ∧ RowI I' 34 10 (.slice a its.length cp) its.length xs ∧ ItsAt I' its xs ∧ H' = []
theorem cuts_len (s : List UInt8) : (Sp.cuts s).length ≤ s.length := by
  obtain ⟨r, h1, h2⟩ := Sp.cuts_sub s (Sp.tokens s) []
  have e : Sp.cuts s = r := by rw [Sp.cuts, h1]; simp
  have := h2.length_le
  have := toks_len s
  rw [e]
  simp at *
  omega
set_option maxHeartbeats 8000000 in
theorem p_again0 (s : List UInt8) (I : Imm) (hC : Conv I) (hs : s.length ≤ 9223372036854775807) : CalM Tryd.prog 10 #[.agg [.slice none 0 0].toArray, str [], str s] I [] (ToAgain (Sp.fileItems s).length (Sp.fileErr s) (Sp.fileItems s)) := by
  refine CalM.of fun w E hm => enter (N := 127) Tryd.func10 rfl [(0, .agg [.slice none 0 0].toArray), (1, str []), (2, str s)] args3 rfl ?_
  by_cases hl : s.length > 4000
  · have he : Sp.fileErr s = 4 := by rw [Sp.fileErr, if_pos hl]
    have hi : Sp.fileItems s = [] := by rw [Sp.fileItems, he]; rfl
    rw [he, hi]
    repeat' (first
    | (refine m_ret3_agg hm (by rfl) (by rfl) (by rfl) (by rfl) (by first | exact gt0 | exact gt1 | exact gt2 | exact gt3 | exact gt4 | exact gt5 | exact gt6) (by rfl) ?_)
    | (refine m_box (d:=3) hm (k:=?_); clear hm; intro b3 _ hm)
    | (refine m_allocS (d:=6) hm (k:=?_); clear hm; intro b6 _ hm)
    | (refine m_storeAll hm (k:=?_); clear hm; intro _ hm; try simp only [setn] at hm)
    | refine op_move (k:=?_)
    | refine op_assign (k:=?_)
    | refine op_gtr (k:=?_)
    | refine op_len_str (k:=?_)
    | refine op_struct (k:=?_)
    | refine wl_nil ?_
    | refine at_then_normal ?_
    | refine at_then_ret ?_
    | refine wc_seq ?_
    | refine wc_region ?_
    | refine wc_ret ?_
    | (refine wc_cond_dec (ht:=fun _ => ?_) (hf:=fun _ => ?_)<;> (try first | contradiction | (exfalso; omega))))
    all_goals try (exfalso; omega)
    exact ⟨_, _, ⟨none, 0, [], rfl, rowI_nil _ _ _ _ _, rfl, rfl⟩, hm.left (H := [])⟩
  have hcl := cuts_len s
  repeat' (first
  | (refine m_makeMap hm (k:=?_); clear hm; intro bm _ hm)
  | (refine m_box (d:=3) hm (k:=?_); clear hm; intro b3 _ hm)
  | (refine m_allocS (d:=6) hm (k:=?_); clear hm; intro b6 _ hm)
  | refine m_load1 hm (k:=?_)
  | refine op_move (k:=?_)
  | refine op_assign (k:=?_)
  | refine op_gtr (k:=?_)
  | refine op_len_str (k:=?_)
  | refine op_len_slice (k:=?_)
  | refine op_fieldAddr (k:=?_)
  | refine wl_nil ?_
  | refine at_then_normal ?_
  | refine wc_seq ?_
  | refine wc_region ?_
  | refine wc_block ?_
  | refine wc_skip ?_
  | (refine wc_cond_dec (ht:=fun _ => ?_) (hf:=fun _ => ?_)<;> (try first | contradiction | (exfalso; omega))))
  all_goals try (exfalso; omega)
  refine wc_loop (fun _ : Unit => [(2, str s), (3, ptr b3), (6, ptr b6), (9, .map (some bm)), (26, nt 0), (27, nt 0)]) (fun _ w' => Mem E I [.mp bm [], .cell b6 [.slice none 0 0] 25, .cell b3 [.slice none 0 0] 25] w') (fun _ => 0) () (by exact ⟨rfl, rfl, rfl, rfl, rfl, rfl, trivial⟩) hm ?_
  clear hm
  rintro ⟨⟩ w1 hm
  repeat' (first
  | (refine op_call (hc:=by exact c_cuts s (by omega) _) (k:=?_); rintro tv wt ⟨hto, hkt⟩; obtain ⟨ta, tc, rfl⟩ := own_val hto; replace hm := hm.add (x := .row (.slice ta (Sp.cuts s).length tc) 3 1 (Sp.cuts s).length ((Sp.cuts s).flatMap encInt)) hkt (ownsRow_base hto (Nat.zero_le _)) (fun b hb => (hto.lt b hb).1))
  | (refine m_allocS (d:=12) hm (k:=?_); clear hm; intro b12 _ hm)
  | (refine m_push (d:=73) hm (k:=?_); clear hm; intro a73 cp73 _ _ hm; try simp only [setn] at hm)
  | refine op_move (k:=?_)
  | refine op_assign (k:=?_)
  | refine op_lss (k:=?_)
  | refine op_len_str (k:=?_)
  | refine op_len_slice (k:=?_)
  | refine op_sub (k:=?_)
  | refine wl_nil ?_
  | refine at_then_normal ?_
  | refine at_then_exit ?_
  | refine at_block_exit ?_
  | refine wc_seq ?_
  | refine wc_region ?_
  | refine wc_block ?_
  | refine wc_exit ?_
  | refine wc_cond_false (hf:=?_))
  all_goals try (exfalso; omega)
  obtain ⟨I2, hle2, hm2, hrow⟩ := hm.freeze
  clear hm hto hkt
  have hm := hm2.nil 34 10
  clear hm2
  obtain ⟨n, hn⟩ : ∃ n, n = (Sp.cuts s).length := ⟨_, rfl⟩
  have hcat : ∀ k, k < n → (Sp.cuts s).getD k 0 < (Sp.cuts s).getD (k + 1) s.length ∧ (Sp.cuts s).getD (k + 1) s.length ≤ s.length := fun k hk => Sp.cuts_at s (by omega)
  have hfl : (Sp.cuts s).flatMap encInt ++ [nt s.length] = (Sp.cuts s ++ [s.length]).flatMap encInt := by rw [List.flatMap_append]; rfl
  have hz1 : ∀ k, k < n → (Sp.cuts s ++ [s.length])[k]? = some ((Sp.cuts s).getD k 0) := fun k hk => by
    rw [List.getElem?_append_left (by omega), List.getD_eq_getElem?_getD, List.getElem?_eq_getElem (by omega)]; rfl
  have hz2 : ∀ k, k < n → (Sp.cuts s ++ [s.length])[k + 1]? = some ((Sp.cuts s).getD (k + 1) s.length) := fun k hk => by
    rcases Nat.lt_or_ge (k + 1) (Sp.cuts s).length with h | h
    · rw [List.getElem?_append_left h, List.getD_eq_getElem?_getD, List.getElem?_eq_getElem h]; rfl
    · rw [List.getElem?_append_right h, show k + 1 - (Sp.cuts s).length = 0 by omega, List.getD_eq_getElem?_getD, List.getElem?_eq_none h]; rfl
  have hsm : ∀ k, (Sp.piece s (Sp.cuts s) k).length ≤ 1048576 := fun k => by rw [Sp.piece, List.length_take, List.length_drop]; omega
  have hits0 : Sp.items s (Sp.cuts s) = (List.range n).map (Sp.itemAt s (Sp.cuts s)) := by rw [Sp.items, hn]
  have herr : 30 < n → Sp.fileErr s = 5 ∧ Sp.fileItems s = [] := fun h => by
    have : Sp.fileErr s = 5 := by rw [Sp.fileErr, if_neg hl, if_pos (by omega)]
    exact ⟨this, by rw [Sp.fileItems, this]; rfl⟩
  have hok : n ≤ 30 → Sp.fileErr s = 0 ∧ Sp.fileItems s = Sp.items s (Sp.cuts s) := fun h => by
    have : Sp.fileErr s = 0 := by rw [Sp.fileErr, if_neg hl, if_neg (by omega)]
    exact ⟨this, by rw [Sp.fileItems, this]; rfl⟩
  change RowI I2 3 1 (.slice a73 ((Sp.cuts s).length + 1) cp73) ((Sp.cuts s).length + 1) ((Sp.cuts s).flatMap encInt ++ [nt s.length]) at hrow
  rw [hfl, ← hn] at hrow
  rw [← hn] at hcl ⊢
  generalize Sp.fileErr s = er at herr hok ⊢
  generalize Sp.fileItems s = its at herr hok ⊢
  clear hn hfl
  have hsmall : ∀ k, (Sp.itemAt s (Sp.cuts s) k).small := fun k => Sp.item_small _ _ (hsm k)
  generalize Sp.cuts s = cz at hrow hcat hz1 hz2 hits0 hok hsm hsmall
  refine wc_loop (fun x : AgX => [(2, str s), (6, ptr b6), (9, .map (some bm)), (12, ptr b12), (13, nt x.k), (14, .slice a73 (n + 1) cp73), (76, .int .i64 (((n + 1 : Nat) : Int) - 1)), (77, nt x.k)])
    (fun x w' => Mem E x.I [itRow x.k x.a x.cp x.xs, .cell b12 [.slice x.a x.k x.cp] 25, .mp bm [], .cell b6 [.slice none 0 0] 25, .cell b3 [.slice none 0 0] 25] w' ∧ Le I2 x.I ∧ ItsAt x.I ((List.range x.k).map (Sp.itemAt s cz)) x.xs ∧ x.k ≤ n ∧ x.k ≤ 30)
    (fun x => n - x.k) ⟨0, I2, none, 0, []⟩ (by exact ⟨rfl, rfl, rfl, rfl, rfl, rfl, rfl, rfl, trivial⟩) ⟨hm, Le.refl _, rfl, Nat.zero_le _, by dsimp only; omega⟩ ?_
  clear hm
  rintro ⟨k, I3, a, cp, xs⟩ w2 ⟨hm, hle3, hits, hk, hk30⟩
  dsimp only at hm hle3 hits hk hk30 ⊢
  have hrow2 := hrow.le hle3
  by_cases hlt : k < n
  · by_cases h30 : k = 30
    · obtain ⟨he, hi⟩ := herr (by omega)
      subst he; subst hi
      repeat' (first
      | (refine m_ret3_agg hm (by rfl) (by rfl) (by rfl) (by rfl) (by first | exact gt0 | exact gt1 | exact gt2 | exact gt3 | exact gt4 | exact gt5 | exact gt6) (by rfl) ?_)
      | refine m_load1 hm (k:=?_)
      | (refine m_storeAll hm (k:=?_); clear hm; intro _ hm; try simp only [setn] at hm)
      | refine op_move (k:=?_)
      | refine op_assign (k:=?_)
      | refine op_lss (k:=?_)
      | refine op_eql (k:=?_)
      | refine op_len_slice (k:=?_)
      | refine op_fieldAddr (k:=?_)
      | refine op_struct (k:=?_)
      | refine wl_nil ?_
      | refine at_then_normal ?_
      | refine at_then_ret ?_
      | refine at_block_ret ?_
      | refine wc_seq ?_
      | refine wc_region ?_
      | refine wc_block ?_
      | refine wc_skip ?_
      | refine wc_ret ?_
      | (refine wc_cond_dec (ht:=fun _ => ?_) (hf:=fun _ => ?_)<;> (try first | contradiction | (exfalso; omega))))
      all_goals try (exfalso; omega)
      exact ⟨_, _, ⟨none, 0, [], rfl, rowI_nil _ _ _ _ _, rfl, rfl⟩, hm.left (H := [])⟩
    · have hca := hcat k hlt
      have hza : (cz ++ [s.length])[((k : Nat) : Int).toNat]? = some (cz.getD k 0) := by rw [Int.toNat_natCast]; exact hz1 k hlt
      have hzb : (cz ++ [s.length])[(((k : Nat) : Int) + 1).toNat]? = some (cz.getD (k + 1) s.length) := by
        rw [show (((k : Nat) : Int) + 1).toNat = k + 1 by omega]; exact hz2 k hlt
      have hit := p_item (Sp.piece s cz k) ((cz.getD k 0 : Nat) : Int) I3 ((hC.le hle2).le hle3) (hsm k)
      rw [show Sp.item (Sp.piece s cz k) ((cz.getD k 0 : Nat) : Int) = Sp.itemAt s cz k from rfl, Sp.piece] at hit
      have hat : (Sp.itemAt s cz k).at_ = ((cz.getD k 0 : Nat) : Int) := Sp.item_at _ _
      have hsk := hsmall k
      have hsn := Sp.items_snoc s cz k
      generalize Sp.itemAt s cz k = it at hit hat hsk hsn
      generalize cz.getD (k + 1) s.length = e2 at hca hzb hit
      generalize cz.getD k 0 = e1 at hca hza hit hat
      clear hsmall hsm hcat hz1 hz2 hits0 herr hok
      repeat' (first
      | (refine wc_semi_mem (id:=24) (hm.perm pm1_1) 3 6 (h:=?_); clear hm; intro wd hR hm)
      | (refine iq_indexFlat (d:=88) (enc:=encInt) (z:=e1) (hr:=hrow2) (he:=fun _ => rfl) (hz:=hza) (k:=?_); intro bt ot hpt)
      | (refine iq_indexFlat (d:=93) (enc:=encInt) (z:=e2) (hr:=hrow2) (he:=fun _ => rfl) (hz:=hzb) (k:=?_); intro bt2 ot2 hpt2)
      | (refine m_lookup2 hm (by rfl) (by rfl) (by rfl) (by rfl) (by first | exact gt0 | exact gt1 | exact gt2 | exact gt3 | exact gt4 | exact gt5 | exact gt6) (by exact List.nodup_nil) zero_item ?_)
      | (refine i_indexFlat (d:=109) (enc:=encInt) (z:=e1) (hr:=hrow2) (he:=fun _ => rfl) (hz:=hza) (k:=?_); intro bt3 ot3 hpt3)
      | (refine m_call hm (hc:=hit) (k:=?_); clear hm; rintro _ I4 _ _ ⟨_, rfl, ⟨ap, cp1, as_, cs1, ab, cb, ad, cd, xb, rfl, r1, r2, r3, r4, r5⟩, rfl⟩ hle hm; have hleI4 := hle; try simp only [setn] at hm)
      | (refine i_indexFlat (d:=114) (enc:=encInt) (z:=e1) (hr:=hrow2.le hleI4) (he:=fun _ => rfl) (hz:=hza) (k:=?_); intro bt4 ot4 hpt4)
      | (refine mt_call (d:=120) hm (hc:=p_own it hsk _ _ ⟨ap, cp1, as_, cs1, ab, cb, ad, cd, xb, by rw [hat], r1, r2, r3, r4, r5⟩) (k:=?_); clear hm; rintro _ I5 _ _ ⟨_, rfl, ⟨ap2, cp2, as2, cs2, ab2, cb2, ad2, cd2, xb2, rfl, q1, q2, q3, q4, q5⟩, rfl⟩ hle hm; have hleI5 := hle; try simp only [setn] at hm)
      | refine mw_loadAll hR (k:=?_)
      | refine mw_load1 hR (k:=?_)
      | (refine mt_push (d:=122) hm (k:=?_); clear hm; intro a122 cp122 _ _ hm; replace hm := hR.back hm; clear hR; try simp only [setn] at hm)
      | (refine m_varS (d:=17) hm (k:=?_); clear hm; intro b17 _ hm)
      | refine m_load1 hm (k:=?_)
      | refine i_load1z hm (k:=?_)
      | refine iq_load1z hm (k:=?_)
      | (refine m_storeAll hm (k:=?_); clear hm; intro _ hm; try simp only [setn] at hm)
      | (refine m_store1 hm (k:=?_); clear hm; intro _ hm; try simp only [setn] at hm)
      | refine op_move (k:=?_)
      | refine op_assign (k:=?_)
      | refine op_lss (k:=?_)
      | refine op_eql (k:=?_)
      | refine op_len_slice (k:=?_)
      | refine op_not (k:=?_)
      | refine op_extract (k:=?_)
      | refine op_add (k:=?_)
      | refine op_fieldAddr (k:=?_)
      | refine wl_nil ?_
      | refine at_then_normal ?_
      | refine at_block_normal ?_
      | refine wc_seq ?_
      | refine wc_region ?_
      | refine wc_block ?_
      | refine wc_skip ?_
      | refine wc_quiet (h:=?_)
      | (refine wq_nil ?_; intro _ hkq; replace hm := hm.kept0 hkq; clear hkq)
      | refine wc_cond_true (ht:=?_)
      | (refine wc_cond_dec (ht:=fun _ => ?_) (hf:=fun _ => ?_)<;> (try first | contradiction | (exfalso; omega)))
      | refine q_move (k:=?_)
      | refine q_assign (k:=?_)
      | refine q_add (k:=?_)
      | refine q_slice_str (k:=?_)
      | refine v_fieldAddr (k:=?_)
      | refine wv_nil ?_)
      all_goals try (exfalso; first | omega | contradiction)
      refine at_round (⟨k + 1, I5, _, _, _⟩ : AgX) (by exact ⟨rfl, rfl, rfl, rfl, rfl, rfl, rfl, rfl, trivial⟩) ⟨(hm.front 1 rfl).tl, (hle3.trans hleI4).trans hleI5, ?_, by dsimp only; omega, by dsimp only; omega⟩ (by dsimp only; omega)
      dsimp only
      rw [hsn]
      exact (hits.le (hleI4.trans hleI5)).snoc ⟨ap2, cp2, as2, cs2, ab2, cb2, ad2, cd2, xb2, rfl, q1, q2, q3, q4, q5⟩
  · obtain rfl : k = n := by omega
    obtain ⟨he, hi⟩ := hok hk30
    subst he; subst hi
    have hln : (Sp.items s cz).length = k := by rw [hits0]; simp
    repeat' (first
    | (refine m_ret3_agg hm (by rfl) (by rfl) (by rfl) (by rfl) (by first | exact gt0 | exact gt1 | exact gt2 | exact gt3 | exact gt4 | exact gt5 | exact gt6) (by rfl) ?_)
    | refine m_loadAll hm (k:=?_)
    | (refine m_storeAll hm (k:=?_); clear hm; intro _ hm; try simp only [setn] at hm)
    | refine op_move (k:=?_)
    | refine op_assign (k:=?_)
    | refine op_lss (k:=?_)
    | refine wl_nil ?_
    | refine at_then_normal ?_
    | refine at_then_exit ?_
    | refine at_block_exit ?_
    | refine wc_seq ?_
    | refine wc_region ?_
    | refine wc_exit ?_
    | refine wc_ret ?_
    | (refine wc_cond_dec (ht:=fun _ => ?_) (hf:=fun _ => ?_)<;> (try first | contradiction | (exfalso; omega))))
    all_goals try (exfalso; omega)
    obtain ⟨I4, hle4, hm4, hrow4⟩ := (hm.front 0 rfl).freeze
    refine ⟨I4, [], ⟨a, cp, xs, ?_, ?_, by rw [hits0]; exact hits.le hle4, rfl⟩, hm4.left (H := [])⟩
    · rw [hln]; rfl
    · rw [hln]; exact hrow4
theorem p_file (s : List UInt8) (I : Imm) (hC : Conv I) (hs : s.length ≤ 9223372036854775807) : CalM Tryd.prog 5 #[str s] I [] (ToFile (Sp.fileErr s) (Sp.fileItems s)) := by
  refine CalM.of fun w E hm => enter (N := 16) Tryd.func5 rfl [(0, str s)] args1 rfl ?_
  repeat' (first
  | (refine m_call hm (hc:=p_again0 s I hC hs) (k:=?_); clear hm; rintro _ I2 _ _ ⟨a, cp, xs, rfl, hrow, hits, rfl⟩ hle hm; have hleI2 := hle; try simp only [setn] at hm)
  | (refine m_allocS (d:=2) hm (k:=?_); clear hm; intro b2 _ hm)
  | (refine m_varS (d:=4) hm (k:=?_); clear hm; intro b4 _ hm)
  | refine m_loadAll hm (k:=?_)
  | (refine m_storeAll hm (k:=?_); clear hm; intro _ hm; try simp only [setn] at hm)
  | refine m_ret2_agg hm (h:=?_)
  | refine op_move (k:=?_)
  | refine op_assign (k:=?_)
  | refine op_extract (k:=?_)
  | refine op_struct (k:=?_)
  | refine wl_nil ?_
  | refine at_then_normal ?_
  | refine wc_seq ?_
  | refine wc_region ?_
  | refine wc_ret ?_)
  exact ⟨I2, [], ⟨a, cp, xs, rfl, hrow, hits, rfl⟩, hm.left (H := [])⟩
end Go.Proofs.YthmdffgiockcbaaDoor
end
