/- Own work: texts InfG, InfH, one behind the other. -/
import Derived.Test.YtjfkjpbkmpofkaaIt19
section
namespace Go.Fw
open Go
section
variable {P : Program} {N : Nat} {ds : List Deferred} {Q : Exit → Act → World → Prop} {l : Log} {w : World} {ops : Array Oper} {os : List Oper}
variable {d : Nat} {ty : TypeId} {pos : String} {af : Array Edge} {g : Option (Nat × Bool)} {t : TypeId}
/-- an array of two. -/
theorem op_arr2 {e by_ : Nat} [TyArr P t 2 e] [Elem P e 1 by_] {z : List Value} (hz : (P.info? t).bind (·.zero) = some (.agg z.toArray)) (hzl : z.length = 2) {ps : List (Nat × Operand)} {u v : Value} (hw : want ops l ⟨some d, .build t ps.toArray, ty, pos, af, g⟩ = some true) (hN : Nat.blt d N = true)
    (hx : evp l ps = some [(0, u), (1, v)]) (hu : u.cells.toList = [u]) (hv : v.cells.toList = [v]) (k : WL P N ds ops Q os ((d, .agg [u, v].toArray) :: l) w) :
    WL P N ds ops Q (⟨some d, .build t ps.toArray, ty, pos, af, g⟩ :: os) l w :=
  wl_value rfl hw hN (fun a ha => by
    have e1 := ha.evp hx
    obtain ⟨i', z', hi', _, hs', _, _, _⟩ := Elem.out (P := P) (e := e)
    have h4 := run_underlying (P := P) (w := w) (TyArr.out (P := P) (t := t))
    have hf := fill_all 1 [(0, u), (1, v)] 0 z rfl (by rw [hzl]; rfl) (fun p hp => by
      rcases List.mem_cons.1 hp with rfl | hp
      · rw [hu]; rfl
      · obtain rfl := List.mem_singleton.1 hp
        rw [hv]; rfl)
    simp only [Nat.zero_mul, List.take_zero, List.nil_append, List.flatMap_cons, List.flatMap_nil, hu, hv, List.append_nil, List.singleton_append, Nat.mul_one] at hf
    cases hi : P.info? t with
    | none => simp [hi] at hz
    | some i =>
      simp only [hi, Option.bind_some] at hz
      simp [execOp, Instr.build, e1, zeroValue, typeInfo, hi, hz, h4, sizeOf, hi', hs', Value.cells, hf]) k
end
end Go.Fw
namespace Go.Proofs.Ytjfkjpbkmpofkaa
open Go.Fw
theorem encEv_of {sc : List Sp.Li} {es : Ents} (h : EvAt sc es) (hn : (es.map (·.1)).Nodup) {j : Nat} {u : List UInt8} {v : Value} (hj : es[j]? = some (u, v)) : ∃ x y : Value, v = .agg [x, y].toArray ∧ x.oneCell' = true ∧ y.oneCell' = true := by
  have h1 := mget_at hn hj
  rw [h] at h1
  cases hf : Sp.findLi sc u with
  | none => rw [hf] at h1; cases h1
  | some l =>
    rw [hf] at h1
    obtain rfl := (Option.some.inj h1).symm
    exact ⟨_, _, rfl, rfl, rfl⟩
theorem zero68 : (Try.prog.info? 68).bind (·.zero) = some (.agg [.int .i64 0, .int .i64 0].toArray) := by kernel_rfl
theorem _root_.Go.Fw.pmG {b z m c : HItem} : [b, z, m, c].Perm [m, b, z, c] := (List.perm_append_comm (l₁ := [b, z]) (l₂ := [m])).append_right [c]
theorem _root_.Go.Fw.pmG2 {b z x m c : HItem} : [b, z, x, m, c].Perm [m, b, z, x, c] := (List.perm_append_comm (l₁ := [b, z, x]) (l₂ := [m])).append_right [c]
theorem EvAt.put2 {sc : List Sp.Li} {es : Ents} (h : EvAt sc es) (hn : (es.map (·.1)).Nodup) (l : Sp.Li) {nm : List UInt8} (hl : l.name = nm) (v : Value) : EvAt (sc ++ [l]) (mput (mput es nm v) nm (encEv l)) := fun m => by
  rw [mget_mput m (mput_nodup hn), mget_mput m hn, Sp.findLi_snoc, h]
  by_cases e : m = nm
  · subst e; rw [if_pos rfl, if_pos hl]; rfl
  · rw [if_neg e, if_neg e, if_neg (fun h => e (by rw [← hl]; exact h.symm))]
theorem raise_zero {p : Sp.LP} {op : Option Nat} {n : Nat} (h : ∀ f, op = some f → f ≠ 0) (h0 : p.1 0 = 0) : (Sp.raiseO p op n).1 0 = 0 := by
  cases op with
  | none => exact h0
  | some f =>
    show (Sp.raiseI p f n).1 0 = 0
    rw [Sp.raiseI_fst]
    show (if 0 = f then _ else p.1 0) = 0
    rw [if_neg (fun e => h f rfl e.symm)]; exact h0
structure TgW where
  S : List Nat
  es : Ents
structure TgY where
  k : Nat
  I : Imm
  sc : List Sp.Li
  p : Sp.LP
  es : Ents
  zs : EntsZ
section
variable {bt bo : Nat} {its : List Sp.Itm} {a : Option Addr} {cp : Nat} {xs : List Value}
set_option maxHeartbeats 64000000 in
theorem g_walk (hlab : Sp.itLab its) : ∀ (n : Nat) (l : List Sp.Stm), SizeOf.sizeOf l ≤ n → l.length ≤ 64 → Sp.stmsSmall l → Sp.stmsAll Sp.twoP Sp.labS l → 0 ∉ Sp.letsS l → ∀ (I : Imm) (ab : Option Addr) (cb : Nat) (xb : List Value) (be : Nat) (es : Ents) (sc : List Sp.Li) (un : Nat) (p : Sp.LP) (zs : EntsZ),
    un < 256 → Sp.okL p → p.1 0 = 0 → Sp.okSc sc → 0 ∉ Sp.opsL sc → OpenN zs p.1 → EvAt sc es →
    FE I its a cp xs → MapI I be es → RowI I 113 15 (.slice ab l.length cb) l.length xb → StsAt I l xb →
    CalM Try.prog 23 #[ptr bt, .map (some be), .slice ab l.length cb, nt un] I (TgSt bt a its.length cp p.2 bo zs) (fun v _ H' => v = .tuple #[] ∧ ∃ zs', OpenN zs' (Sp.stmsI its l sc un p).2.1 ∧ (Sp.stmsI its l sc un p).2.1 0 = 0 ∧
      H' = TgSt bt a its.length cp (Sp.stmsI its l sc un p).2.2 bo zs') := by
  intro n
  induction n with
  | zero => intro l h; cases l <;> simp at h
  | succ n ih =>
  intro l hsz hll hsm hall hno0 I ab cb xb be es sc un p zs hun hok0 h00 hos0 hops0 hz0 hev hfe hme hr hx
  have hallA : Sp.stmsAll Sp.anyP Sp.labS l := Sp.stmsAll_mono (fun _ _ _ _ _ _ _ => trivial) (fun _ _ _ _ _ _ _ h => h) l hall
  refine CalM.of fun w E hm => enter (N := 94) Try.func23 rfl [(0, ptr bt), (1, .map (some be)), (2, .slice ab l.length cb), (3, nt un)] args4 rfl ?_
  repeat' (first
  | (refine m_makeMap (d:=16) hm (k:=?_); clear hm; intro bm _ hm)
  | (refine wc_cut_regN 1 (fun _ : TgW => [(0, ptr bt), (2, .slice ab l.length cb), (3, nt un), (8, .map (some bm))]) (fun x w' => Mem E I (.mp bm x.es :: TgSt bt a its.length cp p.2 bo zs) w' ∧ (x.es.map (·.1)).Nodup ∧ ∀ m, mget x.es m = mget es m) ?_ ?_)
  | refine op_assign (k:=?_)
  | refine wl_nil ?_
  | refine at_then_normal ?_
  | refine wc_seq ?_
  | refine wc_region ?_)
  · refine ⟨?_⟩
    repeat' (first
    | (refine m_range (d := 18) hm (by rfl) (by rfl) (by rfl) (hm.mapI hme) ?_; clear hm; intro r _ hm)
    | refine op_move (k:=?_)
    | refine wl_nil ?_
    | refine at_then_normal ?_
    | refine wc_seq ?_
    | refine wc_region ?_
    | refine wc_block ?_)
    refine wc_loop (fun _ : TgW => [(0, ptr bt), (2, .slice ab l.length cb), (3, nt un), (8, .map (some bm)), (18, ptr r)])
      (fun x w' => Mem E I (.it r be es.length x.S :: .mp bm x.es :: TgSt bt a its.length cp p.2 bo zs) w' ∧ Copied es x.S x.es) (fun x => leftN es.length x.S) ⟨[], []⟩
      (by exact ⟨rfl, rfl, rfl, rfl, rfl, trivial⟩) ⟨hm, Copied.start es⟩ ?_
    clear hm
    rintro ⟨S, es2⟩ w1 ⟨hm, hcp⟩
    dsimp only at hm hcp ⊢
    repeat' (first
    | (refine m_next (d := 19) hm (by rfl) (by rfl) (by rfl) (by first | exact gt0 | exact gt1 | exact gt2 | exact gt3 | exact gt4 | exact gt5 | exact gt6) (hm.mapI hme) (fun hall => ?_) ?_; rotate_left; intro j ku kv w2 hj hS hm2; obtain ⟨v1, v2, rfl, o1, o2⟩ := encEv_of hev hme.nodup hj)
    | (refine m_entry (d := 21) hm2 (by rfl) (by rfl) (by rfl) (by first | exact gt0 | exact gt1 | exact gt2 | exact gt3 | exact gt4 | exact gt5 | exact gt6) (hm2.mapI hme) hj ?_; clear hm; have hm := hm2; clear hm2; try simp only [setn] at hm)
    | (refine m_alloc (d := 10) hm (by rfl) (by rfl) zero68 ?_; clear hm; intro b10 _ hm)
    | (refine m_storeAll hm (hb:=gt0) (h1:=by simp [o1, o2]) (k:=?_); clear hm; intro _ hm; try simp only [setn] at hm)
    | (refine wl_mapUpdate ?_; refine m_put hm (by rfl) (by rfl) (by rfl) (by rfl) (by rfl) gt2 hcp.nodup ?_; clear hm; intro _ hm; try simp only [setn] at hm)
    | refine m_loadAll hm (k:=?_)
    | refine op_move (k:=?_)
    | refine op_assign (k:=?_)
    | refine op_extract (k:=?_)
    | refine wl_nil ?_
    | refine at_then_normal ?_
    | refine at_then_exit ?_
    | refine at_block_normal ?_
    | refine at_block_exit ?_
    | refine wc_seq ?_
    | refine wc_region ?_
    | refine wc_block ?_
    | refine wc_skip ?_
    | refine wc_exit ?_
    | refine wc_cond_true (ht:=?_)
    | refine wc_cond_false (hf:=?_))
    · exact at_round (⟨S ++ [j], mput es2 ku (.agg [v1, v2].toArray)⟩ : TgW) (by exact ⟨rfl, rfl, rfl, rfl, rfl, trivial⟩) ⟨hm.tl, hcp.put hme.nodup hj⟩ (leftN_step (List.getElem?_eq_some_iff.1 hj).1 hS)
    · exact at_cut (⟨S, es2⟩ : TgW) (by exact ⟨rfl, rfl, rfl, rfl, trivial⟩) ⟨hm.tl, hcp.nodup, hcp.done hme.nodup hall⟩
  · clear hm
    rintro ⟨_, es0⟩ w1 ⟨hm, hnd0, hsame⟩
    dsimp only at hm hnd0 hsame ⊢
    have hev0 : EvAt sc es0 := fun m => (hsame m).trans (hev m)
    clear hsame
    repeat' (first
    | refine op_move (k:=?_)
    | refine op_len_slice (k:=?_)
    | refine wl_nil ?_
    | refine at_then_normal ?_
    | refine wc_seq ?_
    | refine wc_region ?_
    | refine wc_block ?_)
    refine wc_loop (fun x : TgY => [(0, ptr bt), (3, nt un), (8, .map (some bm)), (27, .slice ab l.length cb), (28, nt l.length), (29, nt x.k)])
      (fun x w' => Mem E x.I (.mp bm x.es :: TgSt bt a its.length cp x.p.2 bo x.zs) w' ∧ (x.es.map (·.1)).Nodup ∧ EvAt x.sc x.es ∧ OpenN x.zs x.p.1 ∧ x.p.1 0 = 0 ∧ Le I x.I ∧ x.k ≤ l.length ∧ Sp.stmsI its (l.take x.k) sc un p = (x.sc, x.p) ∧ 0 ∉ Sp.opsL x.sc) (fun x => l.length - x.k) ⟨0, I, sc, p, es0, zs⟩
      (by exact ⟨rfl, rfl, rfl, rfl, rfl, rfl, trivial⟩) ⟨hm, hnd0, hev0, hz0, h00, Le.refl _, Nat.zero_le _, by dsimp only; rw [List.take_zero, Sp.stmsI], hops0⟩ ?_
    clear hm hnd0 hev0 es0
    rintro ⟨k, I1, sc1, p1, es1, zs1⟩ w1 ⟨hm, hnd, hev1, hz, h01, hle1, hk, hinv, hops⟩
    dsimp only at hm hnd hev1 hz h01 hle1 hk hinv hops ⊢
    have hok := Sp.stmsI_ok hlab (l.take k) (Sp.stmsAll_take k hallA) hok0 hos0 hun
    rw [hinv] at hok
    obtain ⟨hokp, hoks⟩ := hok
    dsimp only at hokp hoks
    have hrow := hr.le hle1
    by_cases hlt : k < l.length
    · have hg : l[k]? = some l[k] := List.getElem?_eq_getElem hlt
      have hme2 := Sp.sizeL_mem (List.getElem_mem hlt)
      obtain ⟨cs, hcs⟩ : ∃ cs, (xb.drop (k * 15)).take 15 = cs := ⟨_, rfl⟩
      have hat := hx.get hg
      rw [hcs] at hat
      have hsmy := Sp.stmsSmall_get hsm hg
      have haly := Sp.stmsAll_get hall hg
      have hy0 : 0 ∉ (l[k]).lets := fun h => hno0 (Sp.lets_sub (List.getElem_mem hlt) h)
      generalize l[k] = y at hg hme2 hat hsmy haly hy0
      have hst := Sp.stmsI_step its hg sc un p
      rw [hinv, Sp.stmI_eq] at hst
      dsimp only at hst
      rw [Sp.lets_eq] at hy0
      have hyT : 0 ∉ Sp.letsS y.thn := fun h => hy0 (List.mem_append_right _ (List.mem_append_left _ h))
      have hyE : 0 ∉ Sp.letsS y.els := fun h => hy0 (List.mem_append_right _ (List.mem_append_right _ h))
      have hyF : y.kind = 1 → y.fr ≠ 0 := fun h e => hy0 (by rw [if_pos h, e]; exact List.mem_append_left _ List.mem_cons_self)
      obtain ⟨s1, s2, s3, s4, s5⟩ := Sp.small_parts hsmy
      obtain ⟨n1, n2, n3, n4⟩ := Sp.Stm.all_node haly
      obtain ⟨z1, z2⟩ := Sp.size_thn (s := y)
      obtain ⟨ea, ec, ex, a1', c1, xs1, a2', c2, xs2, rfl, hr3, hx3, hr4, hx4, hr5, hx5⟩ := hat.out
      have hsl := Sp.lcOf_lab hokp hoks
      have hE := CalM.borrow (I := I1) (b := bm) hnd (fun J m2 hmap => g_of (bt := bt) (bo := bo) (a := a) (cp := cp) (xs := xs) hlab (sc := sc1) (o := p1.1) hsl h01 hz (more := p1.2) (es := es1) (be := bm) hev1 _ y.e (Nat.le_refl _) s1 n2 J ea ec ex ((hfe.le hle1).le m2) hmap ((hr3.le hle1).le m2) (ExsAt.le m2 _ _ (ExsAt.le hle1 _ _ hx3)))
      have hav0 := Sp.plainF_lt hlab hsl y.e
      generalize Sp.plainF its (Sp.lcOf p1.1 sc1) y.e = a0 at hE hav0 hst
      have hJ := fun (J : Imm) => bothI J a0 un hav0 hun
      have hav := Sp.or_lt hav0 hun
      generalize a0 ||| un = av at hJ hav hst
      repeat' (first
      | (refine i_indexAddr (d:=31) (hr:=hrow) (k:=?_); intro bu ou hpt; rw [show ((k : Int).toNat * 15) = k * 15 from rfl, hcs] at hpt)
      | (refine i_loadN (d:=32) hm (hp:=hpt) (k:=?_))
      | (refine m_loadN (n := 6) (d := 36) (vs := exCells y.e ea ec) hm (by rfl) (by rfl) (by rfl) (by first | exact gt0 | exact gt1 | exact gt2 | exact gt3 | exact gt4 | exact gt5 | exact gt6) (by rfl) (by rfl) ?_)
      | (refine m_call (d:=37) hm (hp:=pm3_1) (hc:=hE) (k:=?_); clear hm; rintro _ I2 _ _ ⟨_, rfl, rfl, rfl⟩ hleI2 hm; try simp only [setn] at hm)
      | (refine m_readC (d:=39) hm (hc:=hJ _) (k:=?_); clear hm; intro _ hm)
      | refine wc_hold 9 ?_
      | (refine m_varS (d:=12) hm (k:=?_); clear hm; intro b12 _ hm)
      | refine op_move (k:=?_)
      | refine op_assign (k:=?_)
      | refine op_lss (k:=?_)
      | refine op_fieldAddr (k:=?_)
      | refine wl_nil ?_
      | refine at_then_normal ?_
      | refine wc_seq ?_
      | refine wc_region ?_
      | refine wc_block ?_
      | refine wc_skip ?_
      | (refine wc_cond_dec (ht:=fun _ => ?_) (hf:=fun _ => ?_)<;> (try first | contradiction | (exfalso; omega))))
      all_goals try (exfalso; omega)
      have hle2 := hle1.trans hleI2
      refine ⟨?_⟩
      by_cases k1 : y.kind = 1
      · rw [if_pos k1] at hst
        cases ho : y.opn with
        | true =>
          rw [ho] at hst hm
          have hR := fun (J : Imm) => g_raise (bt := bt) (bo := bo) (its := its) (a := a) (cp := cp) (some y.fr) av hav p1 zs1 hz hokp J
          have h02 := raise_zero (p := p1) (op := some y.fr) (n := av) (fun f hf => by cases hf; exact hyF k1) h01
          have e9 : Sp.raiseO p1 (Sp.opOf true y.fr) av = Sp.raiseO p1 (some y.fr) av := rfl
          rw [e9] at hst
          generalize Sp.raiseO p1 (some y.fr) av = q at hR h02 hst
          repeat' (first
          | (refine op_arr2 (d := 49) zero68 (by rfl) (by rfl) (by rfl) (by rfl) (by rfl) (by rfl) ?_)
          | (refine op_arr2 (d := 57) zero68 (by rfl) (by rfl) (by rfl) (by rfl) (by rfl) (by rfl) ?_)
          | (refine wl_mapUpdate ?_; refine m_put hm (by rfl) (by rfl) (by rfl) (by rfl) (by rfl) gt0 (by first | exact hnd | exact mput_nodup hnd) ?_; clear hm; intro _ hm; try simp only [setn] at hm)
          | (refine m_call (d:=62) hm (hp:=pm2_1) (hc:=hR _) (k:=?_); clear hm; rintro _ I3 _ _ ⟨rfl, zs3, hz3, rfl⟩ hleI3 hm; try simp only [setn] at hm)
          | refine m_load1 hm (k:=?_)
          | refine op_move (k:=?_)
          | refine op_assign (k:=?_)
          | refine op_eql (k:=?_)
          | refine op_add (k:=?_)
          | refine op_fieldAddr (k:=?_)
          | refine wl_nil ?_
          | refine at_then_normal ?_
          | refine at_block_normal ?_
          | refine wc_seq ?_
          | refine wc_region ?_
          | refine wc_block ?_
          | refine wc_cond_true (ht:=?_)
          | (refine wc_cond_dec (ht:=fun _ => ?_) (hf:=fun _ => ?_)<;> (try first | contradiction | (exfalso; omega))))
          all_goals try (exfalso; first | omega | contradiction)
          refine at_round (⟨k + 1, I3, sc1 ++ [⟨y.name, y.label, Sp.opOf true y.fr⟩], q, _, zs3⟩ : TgY) (by exact ⟨rfl, rfl, rfl, rfl, rfl, rfl, trivial⟩) ⟨(hm.perm pmG).left (H := [_, _, _]), mput_nodup (mput_nodup hnd), hev1.put2 hnd ⟨y.name, y.label, Sp.opOf true y.fr⟩ rfl _, hz3, h02, hle2.trans hleI3, by dsimp only; omega, hst, fun h => ?_⟩ (by dsimp only; omega)
          rw [Sp.opsL_snoc] at h
          rcases List.mem_append.1 h with h | h
          · exact hops h
          · exact hyF k1 (List.mem_singleton.1 h).symm
        | false =>
          rw [ho] at hst hm
          repeat' (first
          | (refine op_arr2 (d := 49) zero68 (by rfl) (by rfl) (by rfl) (by rfl) (by rfl) (by rfl) ?_)
          | (refine wl_mapUpdate ?_; refine m_put hm (by rfl) (by rfl) (by rfl) (by rfl) (by rfl) gt0 hnd ?_; clear hm; intro _ hm; try simp only [setn] at hm)
          | refine m_load1 hm (k:=?_)
          | refine op_move (k:=?_)
          | refine op_assign (k:=?_)
          | refine op_eql (k:=?_)
          | refine op_add (k:=?_)
          | refine op_fieldAddr (k:=?_)
          | refine wl_nil ?_
          | refine at_then_normal ?_
          | refine at_block_normal ?_
          | refine wc_seq ?_
          | refine wc_region ?_
          | refine wc_block ?_
          | refine wc_skip ?_
          | refine wc_cond_false (hf:=?_)
          | (refine wc_cond_dec (ht:=fun _ => ?_) (hf:=fun _ => ?_)<;> (try first | contradiction | (exfalso; omega))))
          all_goals try (exfalso; first | omega | contradiction)
          rw [show Sp.raiseO p1 (Sp.opOf false y.fr) av = p1 from rfl] at hst
          refine at_round (⟨k + 1, I2, sc1 ++ [⟨y.name, y.label, Sp.opOf false y.fr⟩], p1, _, zs1⟩ : TgY) (by exact ⟨rfl, rfl, rfl, rfl, rfl, rfl, trivial⟩) ⟨hm.left (H := [_, _, _]), mput_nodup hnd, hev1.put hnd ⟨y.name, y.label, Sp.opOf false y.fr⟩ rfl, hz, h01, hle2, by dsimp only; omega, hst, fun h => ?_⟩ (by dsimp only; omega)
          rw [Sp.opsL_snoc] at h
          rcases List.mem_append.1 h with h | h
          · exact hops h
          · cases h
      rw [if_neg k1] at hst
      by_cases k2 : y.kind = 2
      · rw [if_pos k2] at hst
        have hmap := hm.mapH gt0 hnd
        have hlk : (mget es1 y.name).getD ev0 = (match Sp.findLi sc1 y.name with | some l => encEv l | none => ev0) := by
          rw [hev1]; cases Sp.findLi sc1 y.name <;> rfl
        have hls : (mget es1 y.name).isSome = (Sp.findLi sc1 y.name).isSome := by rw [hev1, Option.isSome_map]
        rw [Sp.setI] at hst
        cases hf0 : Sp.findLi sc1 y.name with
        | none =>
          rw [hf0] at hst hlk hls
          dsimp only at hst hlk
          repeat' (first
          | (refine op_lookup2 (d := 69) (by rfl) (by rfl) (by rfl) (by rfl) hmap zero_arr ?_; rw [hlk, hls])
          | (refine m_varS (d:=14) hm (k:=?_); clear hm; intro b14 _ hm)
          | refine m_load1 hm (k:=?_)
          | refine op_move (k:=?_)
          | refine op_assign (k:=?_)
          | refine op_eql (k:=?_)
          | refine op_extract (k:=?_)
          | refine op_add (k:=?_)
          | refine op_fieldAddr (k:=?_)
          | refine wl_nil ?_
          | refine at_then_normal ?_
          | refine at_block_normal ?_
          | refine wc_seq ?_
          | refine wc_region ?_
          | refine wc_block ?_
          | refine wc_skip ?_
          | refine wc_cond_false (hf:=?_)
          | (refine wc_cond_dec (ht:=fun _ => ?_) (hf:=fun _ => ?_)<;> (try first | contradiction | (exfalso; omega))))
          all_goals try (exfalso; first | omega | contradiction)
          exact at_round (⟨k + 1, I2, sc1, p1, es1, zs1⟩ : TgY) (by exact ⟨rfl, rfl, rfl, rfl, rfl, rfl, trivial⟩) ⟨hm.tl.left (H := [_, _, _]), hnd, hev1, hz, h01, hle2, by dsimp only; omega, hst, hops⟩ (by dsimp only; omega)
        | some q =>
          rw [hf0] at hst hlk hls
          dsimp only at hst hlk
          have hR := fun (J : Imm) => g_raise (bt := bt) (bo := bo) (its := its) (a := a) (cp := cp) q.op av hav p1 zs1 hz hokp J
          repeat' (first
          | (refine op_lookup2 (d := 69) (by rfl) (by rfl) (by rfl) (by rfl) hmap zero_arr ?_; rw [hlk, hls])
          | (refine m_call (d:=77) hm (hp:=pm2_2) (hc:=hR _) (k:=?_); clear hm; rintro _ I3 _ _ ⟨rfl, zs3, hz3, rfl⟩ hleI3 hm; try simp only [setn] at hm)
          | (refine m_varS (d:=14) hm (k:=?_); clear hm; intro b14 _ hm)
          | refine m_load1 hm (k:=?_)
          | refine op_move (k:=?_)
          | refine op_assign (k:=?_)
          | refine op_eql (k:=?_)
          | refine op_extract (k:=?_)
          | refine op_add (k:=?_)
          | refine op_indexAddr_arr (k:=?_)
          | refine op_fieldAddr (k:=?_)
          | refine wl_nil ?_
          | refine at_then_normal ?_
          | refine at_block_normal ?_
          | refine wc_seq ?_
          | refine wc_region ?_
          | refine wc_block ?_
          | refine wc_cond_true (ht:=?_)
          | (refine wc_cond_dec (ht:=fun _ => ?_) (hf:=fun _ => ?_)<;> (try first | contradiction | (exfalso; omega))))
          all_goals try (exfalso; first | omega | contradiction)
          exact at_round (⟨k + 1, I3, sc1, Sp.raiseO p1 q.op av, es1, zs3⟩ : TgY) (by exact ⟨rfl, rfl, rfl, rfl, rfl, rfl, trivial⟩) ⟨(hm.perm pmG2).left (H := [_, _, _]), hnd, hev1, hz3, raise_zero (fun f hf e => hops (Sp.opsL_mem (Sp.findLi_mem hf0).1 (by rw [hf, e]))) h01, hle2.trans hleI3, by dsimp only; omega, hst, hops⟩ (by dsimp only; omega)
      rw [if_neg k2] at hst
      by_cases k34 : y.kind = 3 ∨ y.kind = 4
      · rw [if_pos k34] at hst
        have hT := fun (J0 : Imm) (m : Le I1 J0) => CalM.borrow (I := J0) (b := bm) hnd (fun J m2 hmap => ih y.thn (by omega) s2 s3 n3 hyT J a1' c1 xs1 bm es1 sc1 av p1 zs1 hav hokp h01 hoks hops hz hev1 (((hfe.le hle1).le m).le m2) hmap (((hr4.le hle1).le m).le m2) (StsAt.le m2 _ _ (StsAt.le m _ _ (StsAt.le hle1 _ _ hx4))))
        have hokT := Sp.stmsI_ok hlab y.thn (Sp.stmsAll_mono (fun _ _ _ _ _ _ _ => trivial) (fun _ _ _ _ _ _ _ h => h) _ n3) hokp hoks hav
        generalize (Sp.stmsI its y.thn sc1 av p1).2 = q3 at hT hokT hst
        have hE2 := fun (J0 : Imm) (m : Le I1 J0) (zs : EntsZ) (hzz : OpenN zs q3.1) (hq0 : q3.1 0 = 0) => CalM.borrow (I := J0) (b := bm) hnd (fun J m2 hmap => ih y.els (by omega) s4 s5 n4 hyE J a2' c2 xs2 bm es1 sc1 av q3 zs hav hokT.1 hq0 hoks hops hzz hev1 (((hfe.le hle1).le m).le m2) hmap (((hr5.le hle1).le m).le m2) (StsAt.le m2 _ _ (StsAt.le m _ _ (StsAt.le hle1 _ _ hx5))))
        generalize (Sp.stmsI its y.els sc1 av q3).2 = q4 at hE2 hst
        repeat' (first
        | (refine m_call (d:=86) hm (hp:=pm3_0) (hc:=hT I2 hleI2) (k:=?_); clear hm; rintro _ I3 _ _ ⟨_, rfl, rfl, zs3, hz3, hq0, rfl⟩ hleI3 hm; try simp only [setn] at hm)
        | (refine m_call (d:=92) hm (hp:=pm3_0) (hc:=hE2 I3 (hleI2.trans hleI3) zs3 hz3 hq0) (k:=?_); clear hm; rintro _ I4 _ _ ⟨_, rfl, rfl, zs4, hz4, hq4, rfl⟩ hleI4 hm; try simp only [setn] at hm)
        | refine m_load1 hm (k:=?_)
        | refine op_move (k:=?_)
        | refine op_assign (k:=?_)
        | refine op_eql (k:=?_)
        | refine op_add (k:=?_)
        | refine op_fieldAddr (k:=?_)
        | refine wl_nil ?_
        | refine at_then_normal ?_
        | refine at_block_normal ?_
        | refine wc_seq ?_
        | refine wc_region ?_
        | refine wc_block ?_
        | refine wc_skip ?_
        | (refine wc_cond_dec (ht:=fun _ => ?_) (hf:=fun _ => ?_)<;> (try first | contradiction | (exfalso; omega))))
        all_goals try (exfalso; first | omega | contradiction)
        all_goals exact at_round (⟨k + 1, I4, sc1, q4, es1, zs4⟩ : TgY) (by exact ⟨rfl, rfl, rfl, rfl, rfl, rfl, trivial⟩) ⟨hm.left (H := [_, _, _]), hnd, hev1, hz4, hq4, (hle2.trans hleI3).trans hleI4, by dsimp only; omega, hst, hops⟩ (by dsimp only; omega)
      · rw [if_neg k34] at hst
        repeat' (first
        | refine m_load1 hm (k:=?_)
        | refine op_move (k:=?_)
        | refine op_assign (k:=?_)
        | refine op_eql (k:=?_)
        | refine op_add (k:=?_)
        | refine op_fieldAddr (k:=?_)
        | refine wl_nil ?_
        | refine at_then_normal ?_
        | refine at_block_normal ?_
        | refine wc_seq ?_
        | refine wc_region ?_
        | refine wc_block ?_
        | refine wc_skip ?_
        | (refine wc_cond_dec (ht:=fun _ => ?_) (hf:=fun _ => ?_)<;> (try first | contradiction | (exfalso; omega))))
        all_goals try (exfalso; first | omega | contradiction)
        exact at_round (⟨k + 1, I2, sc1, p1, es1, zs1⟩ : TgY) (by exact ⟨rfl, rfl, rfl, rfl, rfl, rfl, trivial⟩) ⟨hm.left (H := [_, _, _]), hnd, hev1, hz, h01, hle2, by dsimp only; omega, hst, hops⟩ (by dsimp only; omega)
    · obtain rfl : k = l.length := by omega
      rw [List.take_length] at hinv
      rw [hinv]
      repeat' (first
      | refine op_lss (k:=?_)
      | refine wl_nil ?_
      | refine at_then_normal ?_
      | refine at_then_exit ?_
      | refine at_block_exit ?_
      | refine wc_seq ?_
      | refine wc_region ?_
      | refine wc_exit ?_
      | refine at_end0 (h:=?_)
      | (refine wc_cond_dec (ht:=fun _ => ?_) (hf:=fun _ => ?_)<;> (try first | contradiction | (exfalso; omega))))
      all_goals try (exfalso; omega)
      exact ⟨I1, _, ⟨rfl, zs1, hz, h01, rfl⟩, hm.tl⟩
end
end Go.Proofs.Ytjfkjpbkmpofkaa
end
section
namespace Go.Proofs.Ytjfkjpbkmpofkaa
open Go.Fw
set_option maxHeartbeats 32000000 in
theorem g_put {bt bo : Nat} {zs : EntsZ} {o : Sp.Lab} {f0 f2 : Value} (hz : OpenZ zs o) : ∀ (n : Nat) (l : List Sp.Stm), SizeOf.sizeOf l ≤ n → l.length ≤ 64 → Sp.stmsSmall l → ∀ (I : Imm) (ab : Option Addr) (cb : Nat) (xb : List Value), PtrI I bt 0 66 [f0, .map (some bo), f2] → MapIZ I bo zs →
    RowI I 113 15 (.slice ab l.length cb) l.length xb → StsAt I l xb →
    CalM Try.prog 24 #[ptr bt, .slice ab l.length cb] I [] (fun v J H' => H' = [] ∧ ∃ pa pc px, v = .slice pa l.length pc ∧ RowI J 113 15 (.slice pa l.length pc) l.length px ∧ StsAt J (Sp.fillL o l) px) := by
  intro n
  induction n with
  | zero => intro l h; cases l <;> simp at h
  | succ n ih =>
  intro l hsz hll hsm I ab cb xb hpd hmz hr hx
  refine CalM.of fun w E hm => enter (N := 46) Try.func24 rfl [(0, ptr bt), (1, .slice ab l.length cb)] args2 rfl ?_
  repeat' (first
  | refine op_move (k:=?_)
  | refine op_assign (k:=?_)
  | refine op_len_slice (k:=?_)
  | refine wl_nil ?_
  | refine at_then_normal ?_
  | refine wc_seq ?_
  | refine wc_region ?_
  | refine wc_block ?_)
  have hm := hm.nil 113 15
  refine wc_loop (fun x : CpX => [(0, ptr bt), (5, .slice x.a x.k x.cp), (8, .slice ab l.length cb), (9, nt l.length), (10, nt x.k)])
    (fun x w' => Mem E x.I [stRow x.k x.a x.cp x.xs] w' ∧ Le I x.I ∧ StsAt x.I (Sp.fillL o (l.take x.k)) x.xs ∧ x.k ≤ l.length)
    (fun x => l.length - x.k) ⟨0, I, none, 0, []⟩ (by exact ⟨rfl, rfl, rfl, rfl, rfl, trivial⟩) ⟨hm, Le.refl _, by dsimp only; rw [List.take_zero, Sp.fillL]; exact .nil, Nat.zero_le _⟩ ?_
  clear hm
  rintro ⟨k, I1, a1, cp1, xs1⟩ w2 ⟨hm, hle1, hC, hk⟩
  dsimp only at hm hle1 hC hk ⊢
  have hpd1 := hpd.le hle1
  have hmz1 := hmz.le hle1
  have hrow := hr.le hle1
  by_cases hlt : k < l.length
  · have hg : l[k]? = some l[k] := List.getElem?_eq_getElem hlt
    have hme := Sp.sizeL_mem (List.getElem_mem hlt)
    have hsm2 := Sp.stmsSmall_get hsm hg
    obtain ⟨cs, hcs⟩ : ∃ cs, (xb.drop (k * 15)).take 15 = cs := ⟨_, rfl⟩
    have hat := hx.get hg
    rw [hcs] at hat
    generalize l[k] = y at hg hsm2 hme hat
    obtain ⟨s1, s2, s3, s4, s5⟩ := Sp.small_parts hsm2
    obtain ⟨z1, z2⟩ := Sp.size_thn (s := y)
    obtain ⟨ea, ec, ex, b1, c1, xb1, b2, c2, xb2, rfl, hr3, hx3, hr4, hx4, hr5, hx5⟩ := hat.out
    have hct := fun (J : Imm) (m : Le I1 J) => ih y.thn (by omega) s2 s3 J b1 c1 xb1 (hpd1.le m) (hmz1.le m) ((hr4.le hle1).le m) (StsAt.le m _ _ (StsAt.le hle1 _ _ hx4))
    have hcl := fun (J : Imm) (m : Le I1 J) => ih y.els (by omega) s4 s5 J b2 c2 xb2 (hpd1.le m) (hmz1.le m) ((hr5.le hle1).le m) (StsAt.le m _ _ (StsAt.le hle1 _ _ hx5))
    have htk : Sp.fillL o (l.take (k + 1)) = Sp.fillL o (l.take k) ++ [Sp.fillS o y] := by rw [Sp.take_succ_get hg, Sp.fillL_app, Sp.fillL_map o [y]]; rfl
    have hfin : ∀ (I3 : Imm) (p1 p2 : Option Addr) (q1 q2 : Nat) (x1 x2 : List Value), Le I1 I3 → RowI I3 113 15 (.slice p1 y.thn.length q1) y.thn.length x1 → StsAt I3 (Sp.fillL o y.thn) x1 → RowI I3 113 15 (.slice p2 y.els.length q2) y.els.length x2 → StsAt I3 (Sp.fillL o y.els) x2 →
        StsAt I3 (Sp.fillL o (l.take (k + 1))) (xs1 ++ stCells y.kind y.name y.at_ (Sp.lblS o y) (Sp.opnS y) y.e ea ec (.slice p1 y.thn.length q1) (.slice p2 y.els.length q2) y.fr y.to) := fun I3 p1 p2 q1 q2 x1 x2 m h1 h2 h3 h4 => by
      have h := StAt.of (I := I3) (k := y.kind) (a := y.at_) (lb := Sp.lblS o y) (f := y.fr) (t := y.to) (nm := y.name) (o := Sp.opnS y) (e := y.e) (thn := Sp.fillL o y.thn) (els := Sp.fillL o y.els) (a1 := p1) (a2 := p2) (c1 := q1) (c2 := q2) ((hr3.le hle1).le m) (ExsAt.le m _ _ (ExsAt.le hle1 _ _ hx3)) (by rw [Sp.fillL_len]; exact h1) h2 (by rw [Sp.fillL_len]; exact h3) h4
      rw [Sp.fillL_len, Sp.fillL_len] at h
      rw [htk, Sp.fillS_eq]
      exact (StsAt.le m _ _ hC).snoc h
    by_cases hlet : y.kind = 1 ∧ y.opn = true
    · have e1 : Sp.lblS o y = o y.fr := by rw [Sp.lblS, if_pos hlet]
      have e2 : Sp.opnS y = false := by rw [Sp.opnS, if_pos hlet.1]
      rw [e1, e2] at hfin
      have hlk := hz.get y.fr
      have hk1 := hlet.1
      have ho := hlet.2
      rw [ho] at hcs
      repeat' (first
      | (refine i_indexAddr (d:=12) (hr:=hrow) (k:=?_); intro bu ou hpt; rw [show ((k : Int).toNat * 15) = k * 15 from rfl, hcs] at hpt)
      | (refine i_loadN (d:=13) hm (hp:=hpt) (k:=?_))
      | (refine wc_fork_mem (id:=6) (hm.perm pmRow) [0,1,2,3,4] 9 (h:=?_); clear hm; intro wd hR hm)
      | refine wv_nilA ?_
      | (refine mu_load1 (d := 26) hm (by rfl) (by rfl) (by rfl) gt0 (by rfl) ?_)
      | (refine iu_lookupZ (d := 27) hm hmz1 (by rfl) (by rfl) (by rfl) (by rfl) zero_num ?_; rw [hlk])
      | (refine wu_fieldAddr (d := 28) hm.kept (by rfl) (by rfl) (by rfl) ?_)
      | (refine mu_store1 hm (by rfl) (by rfl) (by rfl) (by rfl) gt0 (by rfl) (by rfl) (by rfl) ?_; clear hm; intro _ hm; try simp only [setn] at hm)
      | (refine wa_two (i:=6) (j:=7) (by decide +kernel) (h:=?_) (h2:=?_))
      | (refine wa_two (i:=6) (j:=8) (by decide +kernel) (h:=?_) (h2:=?_))
      | (refine wa_one (i:=5) (by decide +kernel) (h:=?_))
      | (refine wa_one (i:=6) (by decide +kernel) (h:=?_))
      | (refine wa_one (i:=7) (by decide +kernel) (h:=?_))
      | (refine wa_one (i:=8) (by decide +kernel) (h:=?_))
      | (refine wa_nil (by decide +kernel) ?_; replace hm := (hR.back hm).perm pmRow.symm; clear hR)
      | (refine wc_mix_mem (id:=7) (hm.perm pm0) [([0,1,2,4,5,6],[3]),([8],[7])] 9 (h:=?_); clear hm; intro wd hR hm)
      | (refine mt_call (d:=33) hm (hp:=pm0) (hc:=hct I1 (Le.refl _)) (k:=?_); clear hm; rintro _ I2 _ _ ⟨rfl, p1, q1, x1, rfl, hq1, hy1⟩ hleI2 hm; try simp only [setn] at hm)
      | (refine mt_call (d:=37) hm (hp:=pm0) (hc:=hcl I2 hleI2) (k:=?_); clear hm; rintro _ I3 _ _ ⟨rfl, p2, q2, x2, rfl, hq2, hy2⟩ hleI3 hm; try simp only [setn] at hm)
      | refine mw_load1 hR (k:=?_)
      | refine iw_load1 hR (k:=?_)
      | refine wx_cons ?_
      | refine wv_nilX ?_
      | refine ws_nil ?_
      | refine at_X ?_
      | (refine wx_nil ?_; replace hm := hR.back hm; clear hR; try simp only [setn] at hm)
      | (refine m_varS (d:=7) hm (k:=?_); clear hm; intro b7 _ hm)
      | (refine m_push (d:=43) hm (k:=?_); clear hm; intro a43 cp43 _ _ hm; try simp only [setn] at hm)
      | refine m_load1 hm (k:=?_)
      | refine m_loadAll hm (k:=?_)
      | (refine m_store1 hm (k:=?_); clear hm; intro _ hm; try simp only [setn] at hm)
      | refine op_move (k:=?_)
      | refine op_assign (k:=?_)
      | refine op_pick_true (k:=?_)
      | refine op_lss (k:=?_)
      | refine op_eql (k:=?_)
      | refine op_add (k:=?_)
      | refine op_fieldAddr (k:=?_)
      | (refine wl_split_dec (h1:=fun _ => ?_) (h0:=fun _ => ?_)<;> (try first | contradiction | (exfalso; omega)))
      | refine wl_nil ?_
      | refine at_then_normal ?_
      | refine at_block_normal ?_
      | refine wc_seq ?_
      | refine wc_region ?_
      | refine wc_block ?_
      | refine wc_skip ?_
      | refine wc_cond_true (ht:=?_)
      | (refine wc_cond_dec (ht:=fun _ => ?_) (hf:=fun _ => ?_)<;> (try first | contradiction | (exfalso; omega)))
      | refine v_move (k:=?_)
      | refine v_nilCheck (k:=?_)
      | refine v_fieldAddr (k:=?_))
      all_goals try (exfalso; first | omega | contradiction)
      all_goals exact at_round (⟨k + 1, I3, a43, cp43, _⟩ : CpX) (by exact ⟨rfl, rfl, rfl, rfl, rfl, trivial⟩) ⟨hm.tl, (hle1.trans hleI2).trans hleI3, hfin I3 p1 p2 q1 q2 x1 x2 (hleI2.trans hleI3) (hq1.le hleI3) (StsAt.le hleI3 _ _ hy1) hq2 hy2, by dsimp only; omega⟩ (by dsimp only; omega)
    · have e1 : Sp.lblS o y = y.label := by rw [Sp.lblS, if_neg hlet]
      have e2 : Sp.opnS y = y.opn := by
        rw [Sp.opnS]; split
        · rename_i h1
          cases ho : y.opn with
          | true => exact absurd ⟨h1, ho⟩ hlet
          | false => rfl
        · rfl
      rw [e1, e2] at hfin
      by_cases hk1 : y.kind = 1
      · have ho : y.opn = false := by
          cases ho : y.opn with
          | true => exact absurd ⟨hk1, ho⟩ hlet
          | false => rfl
        rw [ho] at hcs hfin
        repeat' (first
        | (refine i_indexAddr (d:=12) (hr:=hrow) (k:=?_); intro bu ou hpt; rw [show ((k : Int).toNat * 15) = k * 15 from rfl, hcs] at hpt)
        | (refine i_loadN (d:=13) hm (hp:=hpt) (k:=?_))
        | (refine wc_mix_mem (id:=7) (hm.perm pm0) [([0,1,2,4,5,6],[3]),([8],[7])] 9 (h:=?_); clear hm; intro wd hR hm)
        | (refine mt_call (d:=33) hm (hp:=pm0) (hc:=hct I1 (Le.refl _)) (k:=?_); clear hm; rintro _ I2 _ _ ⟨rfl, p1, q1, x1, rfl, hq1, hy1⟩ hleI2 hm; try simp only [setn] at hm)
        | (refine mt_call (d:=37) hm (hp:=pm0) (hc:=hcl I2 hleI2) (k:=?_); clear hm; rintro _ I3 _ _ ⟨rfl, p2, q2, x2, rfl, hq2, hy2⟩ hleI3 hm; try simp only [setn] at hm)
        | refine mw_load1 hR (k:=?_)
        | refine wx_cons ?_
        | refine wv_nilX ?_
        | refine ws_nil ?_
        | refine at_X ?_
        | (refine wx_nil ?_; replace hm := hR.back hm; clear hR; try simp only [setn] at hm)
        | (refine m_varS (d:=7) hm (k:=?_); clear hm; intro b7 _ hm)
        | (refine m_push (d:=43) hm (k:=?_); clear hm; intro a43 cp43 _ _ hm; try simp only [setn] at hm)
        | refine m_load1 hm (k:=?_)
        | refine m_loadAll hm (k:=?_)
        | (refine m_store1 hm (k:=?_); clear hm; intro _ hm; try simp only [setn] at hm)
        | refine op_move (k:=?_)
        | refine op_assign (k:=?_)
        | refine op_pick_true (k:=?_)
        | refine op_lss (k:=?_)
        | refine op_eql (k:=?_)
        | refine op_add (k:=?_)
        | refine op_fieldAddr (k:=?_)
        | (refine wl_split_dec (h1:=fun _ => ?_) (h0:=fun _ => ?_)<;> (try first | contradiction | (exfalso; omega)))
        | refine wl_nil ?_
        | refine at_then_normal ?_
        | refine at_block_normal ?_
        | refine wc_seq ?_
        | refine wc_region ?_
        | refine wc_block ?_
        | refine wc_skip ?_
        | refine wc_cond_false (hf:=?_)
        | (refine wc_cond_dec (ht:=fun _ => ?_) (hf:=fun _ => ?_)<;> (try first | contradiction | (exfalso; omega)))
        | refine v_move (k:=?_)
        | refine v_fieldAddr (k:=?_))
        all_goals try (exfalso; first | omega | contradiction)
        all_goals exact at_round (⟨k + 1, I3, a43, cp43, _⟩ : CpX) (by exact ⟨rfl, rfl, rfl, rfl, rfl, trivial⟩) ⟨hm.tl, (hle1.trans hleI2).trans hleI3, hfin I3 p1 p2 q1 q2 x1 x2 (hleI2.trans hleI3) (hq1.le hleI3) (StsAt.le hleI3 _ _ hy1) hq2 hy2, by dsimp only; omega⟩ (by dsimp only; omega)
      · skip
        repeat' (first
        | (refine i_indexAddr (d:=12) (hr:=hrow) (k:=?_); intro bu ou hpt; rw [show ((k : Int).toNat * 15) = k * 15 from rfl, hcs] at hpt)
        | (refine i_loadN (d:=13) hm (hp:=hpt) (k:=?_))
        | (refine wc_mix_mem (id:=7) (hm.perm pm0) [([0,1,2,4,5,6],[3]),([8],[7])] 9 (h:=?_); clear hm; intro wd hR hm)
        | (refine mt_call (d:=33) hm (hp:=pm0) (hc:=hct I1 (Le.refl _)) (k:=?_); clear hm; rintro _ I2 _ _ ⟨rfl, p1, q1, x1, rfl, hq1, hy1⟩ hleI2 hm; try simp only [setn] at hm)
        | (refine mt_call (d:=37) hm (hp:=pm0) (hc:=hcl I2 hleI2) (k:=?_); clear hm; rintro _ I3 _ _ ⟨rfl, p2, q2, x2, rfl, hq2, hy2⟩ hleI3 hm; try simp only [setn] at hm)
        | refine mw_load1 hR (k:=?_)
        | refine wx_cons ?_
        | refine wv_nilX ?_
        | refine ws_nil ?_
        | refine at_X ?_
        | (refine wx_nil ?_; replace hm := hR.back hm; clear hR; try simp only [setn] at hm)
        | (refine m_varS (d:=7) hm (k:=?_); clear hm; intro b7 _ hm)
        | (refine m_push (d:=43) hm (k:=?_); clear hm; intro a43 cp43 _ _ hm; try simp only [setn] at hm)
        | refine m_load1 hm (k:=?_)
        | refine m_loadAll hm (k:=?_)
        | (refine m_store1 hm (k:=?_); clear hm; intro _ hm; try simp only [setn] at hm)
        | refine op_move (k:=?_)
        | refine op_assign (k:=?_)
        | refine op_pick_false (k:=?_)
        | refine op_lss (k:=?_)
        | refine op_eql (k:=?_)
        | refine op_add (k:=?_)
        | refine op_fieldAddr (k:=?_)
        | refine wl_skip (k:=?_)
        | (refine wl_split_dec (h1:=fun _ => ?_) (h0:=fun _ => ?_)<;> (try first | contradiction | (exfalso; omega)))
        | refine wl_nil ?_
        | refine at_then_normal ?_
        | refine at_block_normal ?_
        | refine wc_seq ?_
        | refine wc_region ?_
        | refine wc_block ?_
        | refine wc_skip ?_
        | refine wc_cond_false (hf:=?_)
        | (refine wc_cond_dec (ht:=fun _ => ?_) (hf:=fun _ => ?_)<;> (try first | contradiction | (exfalso; omega)))
        | refine v_move (k:=?_)
        | refine v_fieldAddr (k:=?_))
        all_goals try (exfalso; first | omega | contradiction)
        all_goals exact at_round (⟨k + 1, I3, a43, cp43, _⟩ : CpX) (by exact ⟨rfl, rfl, rfl, rfl, rfl, trivial⟩) ⟨hm.tl, (hle1.trans hleI2).trans hleI3, hfin I3 p1 p2 q1 q2 x1 x2 (hleI2.trans hleI3) (hq1.le hleI3) (StsAt.le hleI3 _ _ hy1) hq2 hy2, by dsimp only; omega⟩ (by dsimp only; omega)
  · obtain rfl : k = l.length := by omega
    rw [List.take_length] at hC
    repeat' (first
    | refine op_move (k:=?_)
    | refine op_assign (k:=?_)
    | refine op_lss (k:=?_)
    | refine wl_nil ?_
    | refine at_then_normal ?_
    | refine at_then_exit ?_
    | refine at_block_exit ?_
    | refine wc_seq ?_
    | refine wc_region ?_
    | refine wc_exit ?_
    | refine wc_ret ?_
    | refine at_ret1 (h:=?_)
    | (refine wc_cond_dec (ht:=fun _ => ?_) (hf:=fun _ => ?_)<;> (try first | contradiction | (exfalso; omega))))
    all_goals try (exfalso; omega)
    obtain ⟨I3, hle3, hm3, hr3⟩ := hm.freeze
    exact ⟨I3, [], ⟨rfl, a1, cp1, xs1, rfl, hr3, StsAt.le hle3 _ _ hC⟩, hm3⟩
end Go.Proofs.Ytjfkjpbkmpofkaa
end
