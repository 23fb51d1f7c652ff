/- Own work: texts FlA, FlB, FlC, one behind the other. -/
import Derived.Test.YthmdffgiockcbaaDoorIf20
section
namespace Go.Sp
theorem findLc_cut (n : List UInt8) {l : List Lc} {k : Nat} {x : Lc} (h : l[k]? = some x) : findLc (l.take (k + 1)) n = if x.name = n then some x else findLc (l.take k) n := by
  rw [take_succ_get h, findLc_snoc]
end Go.Sp
namespace Go.Proofs.YthmdffgiockcbaaDoor
open Go.Fw
abbrev encLc (l : Sp.Lc) : List Value := [str l.name, nt l.at_]
abbrev lcRow (sc : List Sp.Lc) (sa : Option Addr) (sp : Nat) : HItem := .row (.slice sa sc.length sp) 105 2 sc.length (sc.flatMap encLc)
abbrev fCells (bf : Nat) (pi : Value) (sc : List Sp.Lc) (sa : Option Addr) (sp : Nat) (s : Sp.FW) (da : Option Addr) (dp : Nat) (vf : Value) (at_ : Int) : List Value :=
  [ptr bf, pi, .slice sa sc.length sp, .slice da s.ds.length dp, vf, .int .i64 at_, .bool s.hv.isSome, nt (s.hv.getD 0)]
abbrev fObj (bc bf : Nat) (pi : Value) (sc : List Sp.Lc) (sa : Option Addr) (sp : Nat) (s : Sp.FW) (da : Option Addr) (dp : Nat) (vf : Value) (at_ : Int) : HItem :=
  .obj bc (.cells (fCells bf pi sc sa sp s da dp vf at_).toArray 87 (0, 0))
/-- who goes through a function: it, its locals, what it told. -/
abbrev FSt (bc bf : Nat) (pi : Value) (sc : List Sp.Lc) (sa : Option Addr) (sp : Nat) (s : Sp.FW) (da : Option Addr) (dp : Nat) (vf : Value) (at_ : Int) : List HItem :=
  [fObj bc bf pi sc sa sp s da dp vf at_, lcRow sc sa sp, dgRow s.ds da dp]
/-- it comes to 's', with locals 'sc'. -/
abbrev ToF (bc bf : Nat) (pi : Value) (vf : Value) (at_ : Int) (sc : List Sp.Lc) (s : Sp.FW) (val : Value) : Value → Imm → List HItem → Prop :=
  fun v _ H' => v = val ∧ ∃ sa sp da dp, H' = FSt bc bf pi sc sa sp s da dp vf at_
/-- what does not turn of it. -/
structure FRd (J : Imm) (bc bf : Nat) (pi : Value) (sc : List Sp.Lc) (sa : Option Addr) (sp : Nat) (v3 v4 v5 v6 v7 : Value) : Prop where
  ptr : PtrI J bc 0 87 [ptr bf, pi, .slice sa sc.length sp, v3, v4, v5, v6, v7]
  row : RowI J 105 2 (.slice sa sc.length sp) sc.length (sc.flatMap encLc)
theorem FRd.le {I J : Imm} (m : Le I J) {bc bf : Nat} {pi : Value} {sc : List Sp.Lc} {sa : Option Addr} {sp : Nat} {v3 v4 v5 v6 v7 : Value} (h : FRd I bc bf pi sc sa sp v3 v4 v5 v6 v7) : FRd J bc bf pi sc sa sp v3 v4 v5 v6 v7 := ⟨h.ptr.le m, h.row.le m⟩
section
variable {I : Imm} {bc bf sp dp : Nat} {pi vf : Value} {sc : List Sp.Lc} {sa da : Option Addr} {s : Sp.FW} {at_ : Int}
/-- a reader of it, from where all does not turn. -/
theorem CalR.flow {f : FuncId} {args : Array Value} {v : Value} (h : ∀ J, Le I J → FRd J bc bf pi sc sa sp (.slice da s.ds.length dp) vf (.int .i64 at_) (.bool s.hv.isSome) (nt (s.hv.getD 0)) → CalR Tryd.prog f args J [] v) :
    CalR Tryd.prog f args I (FSt bc bf pi sc sa sp s da dp vf at_) v :=
  CalR.of fun w J hm hl hH hJ => by
    have h1 := immOf_ptr (hH (fObj bc bf pi sc sa sp s da dp vf at_) (by simp))
    have h2 := immOf_row (hH (lcRow sc sa sp) (by simp))
    rw [← hJ] at h1 h2
    exact (h J hl ⟨h1, h2⟩).run w hm.inv (fun _ h => by cases h)
theorem f_get0 {J : Imm} {v3 v4 v5 v6 v7 : Value} (n : List UInt8) (hs : sc.length ≤ 1099511627776) (h : FRd J bc bf pi sc sa sp v3 v4 v5 v6 v7) : CalR Tryd.prog 62 #[ptr bc, str n] J [] (nt (Sp.getF sc n)) := by
  refine CalR.of fun w K hm hl _ _ => enter (N := 34) Tryd.func62 rfl [(0, ptr bc), (1, str n)] args2 rfl ?_
  obtain ⟨hp, hr⟩ := h.le hl
  repeat' (first
  | refine i_load1 hm (k:=?_)
  | refine op_move (k:=?_)
  | refine op_assign (k:=?_)
  | refine op_len_slice (k:=?_)
  | refine op_nilCheck (k:=?_)
  | refine op_sub (k:=?_)
  | refine op_fieldAddr (k:=?_)
  | refine wl_nil ?_
  | refine at_then_normal ?_
  | refine wc_seq ?_
  | refine wc_region ?_
  | refine wc_block ?_)
  refine wc_loop (fun k : Nat => [(0, ptr bc), (1, str n), (5, .int .i64 ((k : Int) - 1))]) (fun k w' => Mem ⟨w, [], K⟩ K [] w' ∧ k ≤ sc.length ∧ Sp.findLc sc n = Sp.findLc (sc.take k) n) (fun k => k) sc.length (by exact ⟨rfl, rfl, rfl, trivial⟩) ⟨hm, Nat.le_refl _, by rw [List.take_length]⟩ ?_
  clear hm
  rintro k w1 ⟨hm, hk, hf⟩
  try dsimp only at hm hk hf ⊢
  by_cases h0 : 0 < k
  · have hg : sc[k - 1]? = some sc[k - 1] := List.getElem?_eq_getElem (by omega)
    have hcut := Sp.findLc_cut n hg
    rw [show k - 1 + 1 = k by omega] at hcut
    generalize sc[k - 1] = x at hg hcut
    rw [hcut] at hf
    have hi : sc[((k : Int) - 1).toNat]? = some x := by rw [show ((k : Int) - 1).toNat = k - 1 by omega]; exact hg
    by_cases hx : x.name = n
    · rw [if_pos hx] at hf
      repeat' (first
      | (refine i_indexFlat (d:=21) (enc:=encLc) (z:=x) (hr:=hr) (he:=fun _ => rfl) (hz:=hi) (k:=?_); intro b1 o1 p1)
      | (refine i_indexFlat (d:=31) (enc:=encLc) (z:=x) (hr:=hr) (he:=fun _ => rfl) (hz:=hi) (k:=?_); intro b2 o2 p2)
      | refine i_load1 hm (k:=?_)
      | refine op_move (k:=?_)
      | refine op_assign (k:=?_)
      | refine op_geq (k:=?_)
      | refine op_eql_str (k:=?_)
      | refine op_nilCheck (k:=?_)
      | refine op_fieldAddr (k:=?_)
      | refine wl_nil ?_
      | refine at_then_normal ?_
      | refine at_then_ret ?_
      | refine at_block_ret ?_
      | refine wc_seq ?_
      | refine wc_region ?_
      | refine wc_block ?_
      | refine wc_skip ?_
      | refine wc_ret ?_
      | refine at_ret1 (h:=?_)
      | (refine wc_cond_dec (ht:=fun _ => ?_) (hf:=fun _ => ?_)<;> (try first | contradiction | (exfalso; omega))))
      all_goals try (exfalso; first | omega | contradiction)
      exact ⟨by rw [Sp.getF, hf], hm.kept⟩
    · rw [if_neg hx] at hf
      repeat' (first
      | (refine i_indexFlat (d:=21) (enc:=encLc) (z:=x) (hr:=hr) (he:=fun _ => rfl) (hz:=hi) (k:=?_); intro b1 o1 p1)
      | refine i_load1 hm (k:=?_)
      | refine op_move (k:=?_)
      | refine op_assign (k:=?_)
      | refine op_geq (k:=?_)
      | refine op_eql_str (k:=?_)
      | refine op_nilCheck (k:=?_)
      | refine op_sub (k:=?_)
      | refine op_fieldAddr (k:=?_)
      | refine wl_nil ?_
      | refine at_then_normal ?_
      | refine at_block_normal ?_
      | refine wc_seq ?_
      | refine wc_region ?_
      | refine wc_block ?_
      | refine wc_skip ?_
      | (refine wc_cond_dec (ht:=fun _ => ?_) (hf:=fun _ => ?_)<;> (try first | contradiction | (exfalso; omega))))
      all_goals try (exfalso; first | omega | contradiction)
      refine at_round (k - 1 : Nat) (by exact ⟨rfl, rfl, by rw [show (((k - 1 : Nat) : Int) - 1) = (k : Int) - 1 - 1 by omega]; rfl, trivial⟩) ⟨hm, by omega, hf⟩ (by omega)
  · obtain rfl : k = 0 := by omega
    repeat' (first
    | refine op_move (k:=?_)
    | refine op_assign (k:=?_)
    | refine op_geq (k:=?_)
    | refine wl_nil ?_
    | refine at_then_normal ?_
    | refine at_then_exit ?_
    | refine at_block_exit ?_
    | refine wc_seq ?_
    | refine wc_region ?_
    | refine wc_exit ?_
    | refine wc_ret ?_
    | refine at_ret1 (h:=?_)
    | refine wc_cond_false (hf:=?_))
    all_goals try (exfalso; omega)
    exact ⟨by rw [Sp.getF, hf]; rfl, hm.kept⟩
theorem FSt_tell (bc bf : Nat) (pi : Value) (sc : List Sp.Lc) (sa : Option Addr) (sp : Nat) (s : Sp.FW) (f t : Nat) (n : List UInt8) (da : Option Addr) (dp : Nat) (vf : Value) (at_ : Int) :
    [.obj bc (.cells [ptr bf, pi, .slice sa sc.length sp, .slice da (s.ds.length + 1) dp, vf, .int .i64 at_, .bool s.hv.isSome, nt (s.hv.getD 0)].toArray 87 (0, 0)), lcRow sc sa sp, .row (.slice da (s.ds.length + 1) dp) 65 4 (s.ds.length + 1) (s.ds.flatMap encDg ++ encDg ⟨f, t, 9, n⟩)] = FSt bc bf pi sc sa sp (s.tell f t n) da dp vf at_ := by
  simp [Sp.FW.tell, List.flatMap_append]
theorem f_tell (n : List UInt8) (f t : Nat) (hd : s.ds.length < 1099511627776) :
    CalM Tryd.prog 67 #[ptr bc, nt f, nt t, str n] I (FSt bc bf pi sc sa sp s da dp vf at_) (ToF bc bf pi vf at_ sc (s.tell f t n) (.tuple #[])) := by
  refine CalM.of fun w E hm => enter (N := 21) Tryd.func67 rfl [(0, ptr bc), (1, nt f), (2, nt t), (3, str n)] args4 rfl ?_
  repeat' (first
  | (refine m_push (d:=18) hm (k:=?_); clear hm; intro a18 cp18 _ _ hm; try simp only [setn] at hm)
  | refine m_load1 hm (k:=?_)
  | (refine m_store1 hm (k:=?_); clear hm; intro _ hm; try simp only [setn] at hm)
  | refine op_move (k:=?_)
  | refine op_nilCheck (k:=?_)
  | refine op_fieldAddr (k:=?_)
  | refine op_struct (k:=?_)
  | refine wl_nil ?_
  | refine wc_region ?_
  | refine at_end0 (h:=?_))
  exact ⟨I, _, ⟨rfl, _, _, _, _, FSt_tell _ _ _ _ _ _ s f t n _ _ _ _⟩, hm⟩
theorem f_to (x : Sp.Stm) (b o tc : Nat) (cs : List Value) (hp : PtrI I b o tc cs) (hx : StAt I x cs) (a c : Nat) (ha : a < 256) (hc : c < 256) (hd : s.ds.length < 1099511627776) :
    CalM Tryd.prog 61 #[ptr bc, .pointer (some ⟨b, o, none⟩), nt a, nt c] I (FSt bc bf pi sc sa sp s da dp vf at_) (ToF bc bf pi vf at_ sc (s.ask a c x.fr x.to x.name) (.tuple #[])) := by
  refine CalM.of fun w E hm => enter (N := 26) Tryd.func61 rfl [(0, ptr bc), (1, .pointer (some ⟨b, o, none⟩)), (2, nt a), (3, nt c)] args4 rfl ?_
  obtain ⟨ea, ec, ex, a1, c1, xs1, a2, c2, xs2, rfl, _⟩ := hx.out
  have hF := fun w => c_flows a c ha hc w
  rw [Sp.FW.ask]
  cases hb : Sp.flows a c with
  | true =>
    rw [hb] at hF
    repeat' (first
    | (refine op_call (d:=10) (hc:=by exact hF _) (k:=?_); rintro _ _ ⟨rfl, rfl⟩)
    | refine op_move (k:=?_)
    | refine op_not (k:=?_)
    | refine wl_nil ?_
    | refine at_then_normal ?_
    | refine wc_seq ?_
    | refine wc_region ?_
    | refine wc_skip ?_
    | refine at_end0 (h:=?_)
    | refine wc_cond_false (hf:=?_))
    all_goals try (exfalso; first | omega | contradiction)
    exact ⟨I, _, ⟨rfl, _, _, _, _, rfl⟩, hm⟩
  | false =>
    rw [hb] at hF
    have hT := fun J => f_tell (I := J) (bc := bc) (bf := bf) (pi := pi) (sc := sc) (sa := sa) (sp := sp) (s := s) (da := da) (dp := dp) (vf := vf) (at_ := at_) x.name x.fr x.to hd
    repeat' (first
    | (refine op_call (d:=10) (hc:=by exact hF _) (k:=?_); rintro _ _ ⟨rfl, rfl⟩)
    | (refine wc_quiet_tail (id:=1) 13 (h:=?_))
    | (refine m_call (d:=25) hm (hc:=hT _) (k:=?_); clear hm; rintro _ I2 _ _ ⟨rfl, sa2, sp2, da2, dp2, rfl⟩ hle hm; have hleI2 := hle; try simp only [setn] at hm)
    | refine iq_load1 hm (k:=?_)
    | refine op_move (k:=?_)
    | refine op_not (k:=?_)
    | refine wl_nil ?_
    | refine at_then_normal ?_
    | refine wc_seq ?_
    | refine wc_region ?_
    | refine at_end0 (h:=?_)
    | (refine wq_nil_tail ?_; intro _ hkq; replace hm := hm.kept0 hkq; clear hkq)
    | refine wc_cond_true (ht:=?_)
    | refine q_move (k:=?_)
    | refine q_nilCheck (k:=?_)
    | refine q_fieldAddr (k:=?_))
    all_goals try (exfalso; first | omega | contradiction)
    exact ⟨I2, _, ⟨rfl, _, _, _, _, rfl⟩, hm⟩
end
/-- what does not turn beside it. -/
structure FC (I : Imm) (its : List Sp.Itm) (it : Sp.Itm) (bf : Nat) (a : Option Addr) (cp : Nat) (xs : List Value) (pi vf : Value) : Prop where
  file : PtrI I bf 0 25 [.slice a its.length cp]
  fe : FE I its a cp xs
  item : ∃ bi oi tc ci, pi = .pointer (some ⟨bi, oi, none⟩) ∧ PtrI I bi oi tc ci ∧ ItAt I it ci
  floors : ∃ fa fp, vf = .slice fa its.length fp ∧ RowI I 3 1 (.slice fa its.length fp) its.length ((Sp.floorsF its).flatMap encInt)
  lab : Sp.itLab its
  own : it.label < 256
theorem FC.le {I J : Imm} (m : Le I J) {its : List Sp.Itm} {it : Sp.Itm} {bf : Nat} {a : Option Addr} {cp : Nat} {xs : List Value} {pi vf : Value} (h : FC I its it bf a cp xs pi vf) : FC J its it bf a cp xs pi vf := by
  obtain ⟨h1, h2, ⟨bi, oi, tc, ci, e, h3, h4⟩, ⟨fa, fp, e2, h5⟩, h6, h7⟩ := h
  exact ⟨h1.le m, h2.le m, ⟨bi, oi, tc, ci, e, h3.le m, h4.le m⟩, ⟨fa, fp, e2, h5.le m⟩, h6, h7⟩
end Go.Proofs.YthmdffgiockcbaaDoor
end
section
namespace Go.Sp
theorem plainF_eq (its : List Itm) (sc : List Lc) (e : Ex) : plainF its sc e = if e.kind = 2 then getF sc e.name else if e.kind = 3 then plainsF its sc e.args 0 else if e.kind = 4 then callLab its e.name else 0 := by
  cases e; rw [plainF]; rfl
theorem findV_some {its : List Itm} {k : Int} {n : List UInt8} {j : Nat} (h : findIt its k n = some j) : findV its k n = j := by rw [findV, h]
theorem findV_none {its : List Itm} {k : Int} {n : List UInt8} (h : findIt its k n = none) : findV its k n = -1 := by rw [findV, h]
end Go.Sp
namespace Go.Proofs.YthmdffgiockcbaaDoor
open Go.Fw
set_option maxHeartbeats 8000000 in
theorem f_plain0 {its : List Sp.Itm} {it : Sp.Itm} {bc bf sp : Nat} {a : Option Addr} {cp : Nat} {xs : List Value} {pi vf v3 v5 v6 v7 : Value} {sc : List Sp.Lc} {sa : Option Addr} (hs : sc.length ≤ 1099511627776) (hsl : Sp.scLab sc) :
    ∀ (n : Nat) (e : Sp.Ex), SizeOf.sizeOf e ≤ n → e.small → ∀ (J : Imm) (b o tc : Nat) (ea : Option Addr) (ec : Nat) (ys : List Value), FRd J bc bf pi sc sa sp v3 vf v5 v6 v7 → FC J its it bf a cp xs pi vf →
      PtrI J b o tc (exCells e ea ec) → RowI J 41 6 (.slice ea e.args.length ec) e.args.length ys → ExsAt J e.args ys →
      CalR Tryd.prog 59 #[ptr bc, .pointer (some ⟨b, o, none⟩)] J [] (nt (Sp.plainF its sc e)) := by
  intro n
  induction n with
  | zero => intro e h; cases e; simp at h
  | succ n ih =>
  intro e hsz hsm J b o tc ea ec ys hR0 hC0 hp0 hr0 hx0
  obtain ⟨hal, hasm⟩ := Sp.small_args hsm
  refine CalR.of fun w K hm hl _ _ => enter (N := 68) Tryd.func59 rfl [(0, ptr bc), (1, .pointer (some ⟨b, o, none⟩))] args2 rfl ?_
  have hR := hR0.le hl
  have hC := hC0.le hl
  have hp := hp0.le hl
  have hr := hr0.le hl
  have hx := ExsAt.le hl _ _ hx0
  clear hR0 hC0 hp0 hr0 hx0
  obtain ⟨hRp, hRr⟩ := hR
  have hCf := hC.file
  rw [Sp.plainF_eq]
  by_cases k2 : e.kind = 2
  · rw [if_pos k2]
    repeat' (first
    | (refine m_readC (d:=19) hm (hc:=f_get0 e.name hs ⟨hRp, hRr⟩) (k:=?_); clear hm; intro _ hm)
    | refine i_load1 hm (k:=?_)
    | refine op_move (k:=?_)
    | refine op_assign (k:=?_)
    | refine op_eql (k:=?_)
    | refine op_nilCheck (k:=?_)
    | refine op_fieldAddr (k:=?_)
    | refine wl_nil ?_
    | refine at_then_normal ?_
    | refine at_block_normal ?_
    | refine wc_seq ?_
    | refine wc_region ?_
    | refine wc_block ?_
    | refine wc_ret ?_
    | refine at_ret1 (h:=?_)
    | (refine wc_cond_dec (ht:=fun _ => ?_) (hf:=fun _ => ?_)<;> (try first | contradiction | (exfalso; omega))))
    all_goals try (exfalso; omega)
    exact ⟨rfl, hm.kept⟩
  rw [if_neg k2]
  by_cases k3 : e.kind = 3
  · rw [if_pos k3]
    repeat' (first
    | refine i_load1 hm (k:=?_)
    | refine op_move (k:=?_)
    | refine op_assign (k:=?_)
    | refine op_eql (k:=?_)
    | refine op_len_slice (k:=?_)
    | refine op_nilCheck (k:=?_)
    | refine op_fieldAddr (k:=?_)
    | refine wl_nil ?_
    | refine at_then_normal ?_
    | refine wc_seq ?_
    | refine wc_region ?_
    | refine wc_block ?_
    | (refine wc_cond_dec (ht:=fun _ => ?_) (hf:=fun _ => ?_)<;> (try first | contradiction | (exfalso; omega))))
    all_goals try (exfalso; omega)
    refine wc_loop (fun k : Nat => [(0, ptr bc), (1, .pointer (some ⟨b, o, none⟩)), (5, nt (Sp.plainsF its sc (e.args.take k) 0)), (26, nt e.args.length), (27, nt k)]) (fun k w' => Mem ⟨w, [], K⟩ K [] w' ∧ k ≤ e.args.length) (fun k => e.args.length - k) 0
      (by exact ⟨rfl, rfl, by rw [List.take_zero, Sp.plainsF]; rfl, rfl, rfl, trivial⟩) ⟨hm, Nat.zero_le _⟩ ?_
    clear hm
    rintro k w1 ⟨hm, hk⟩
    try dsimp only at hm hk ⊢
    by_cases hlt : k < e.args.length
    · have hg : e.args[k]? = some e.args[k] := List.getElem?_eq_getElem hlt
      have hsz2 := Sp.size_args (List.getElem_mem hlt)
      have hsm2 := Sp.exsSmall_get hasm hg
      obtain ⟨ea2, ec2, ys2, hc2, hr2, hx2⟩ := (hx.get hg).out
      generalize e.args[k] = y at hg hsz2 hsm2 hc2 hr2 hx2
      have hst := Sp.plainsF_step its sc hg 0
      have hl1 := Sp.plainsF_lt hC.lab hsl (e.args.take k) 0 (by omega)
      have hl2 := Sp.plainF_lt hC.lab hsl y
      repeat' (first
      | (refine i_indexAddr (d:=37) (hr:=hr) (k:=?_); intro bt ot hpt; rw [show ((k : Int).toNat * 6) = k * 6 from rfl, hc2] at hpt)
      | (refine m_readC (d:=38) hm (hc:=ih y (by omega) hsm2 K _ _ _ ea2 ec2 ys2 ⟨hRp, hRr⟩ hC hpt hr2 hx2) (k:=?_); clear hm; intro _ hm)
      | (refine op_call (d:=39) (hc:=by exact c_join _ _ hl1 hl2 _) (k:=?_); rintro _ _ ⟨rfl, rfl⟩)
      | refine i_load1 hm (k:=?_)
      | refine op_move (k:=?_)
      | refine op_assign (k:=?_)
      | refine op_lss (k:=?_)
      | refine op_nilCheck (k:=?_)
      | refine op_add (k:=?_)
      | refine op_fieldAddr (k:=?_)
      | refine wl_nil ?_
      | refine at_then_normal ?_
      | refine at_block_normal ?_
      | refine wc_seq ?_
      | refine wc_region ?_
      | refine wc_block ?_
      | refine wc_skip ?_
      | (refine wc_cond_dec (ht:=fun _ => ?_) (hf:=fun _ => ?_)<;> (try first | contradiction | (exfalso; omega))))
      all_goals try (exfalso; omega)
      refine at_round (k + 1 : Nat) (by exact ⟨rfl, rfl, by rw [hst]; rfl, rfl, rfl, trivial⟩) ⟨hm, by omega⟩ (by omega)
    · obtain rfl : k = e.args.length := by omega
      repeat' (first
      | refine op_move (k:=?_)
      | refine op_assign (k:=?_)
      | refine op_lss (k:=?_)
      | refine wl_nil ?_
      | refine at_then_normal ?_
      | refine at_then_exit ?_
      | refine at_block_normal ?_
      | refine at_block_exit ?_
      | refine wc_seq ?_
      | refine wc_region ?_
      | refine wc_exit ?_
      | refine wc_ret ?_
      | refine at_ret1 (h:=?_)
      | (refine wc_cond_dec (ht:=fun _ => ?_) (hf:=fun _ => ?_)<;> (try first | contradiction | (exfalso; omega))))
      all_goals try (exfalso; omega)
      exact ⟨by rw [List.take_length], hm.kept⟩
  rw [if_neg k3]
  by_cases k4 : e.kind = 4
  · rw [if_pos k4]
    have hfind := (n_find 2 e.name its K a cp xs hC.fe).read
    cases hf : Sp.findIt its 2 e.name with
    | some j =>
      obtain ⟨hj, _, _, _, _⟩ := Sp.findIt_lt hf
      obtain ⟨ci, hci, hat, hlc⟩ := hC.fe.get (Sp.itNo_get hj)
      obtain ⟨pa, pc, sa1, sc1, ba, bc1, da, dc, xb, rfl, _⟩ := hat
      have hri := hC.fe.row
      rw [Sp.callLab, hf]
      rw [Sp.findV_some hf] at hfind
      repeat' (first
      | (refine mq_readC (d:=53) hm (hc:=hfind) (k:=?_))
      | (refine i_indexAddr (d:=64) (hr:=hri) (k:=?_); intro bt ot hpt; rw [show ((j : Int).toNat * 10) = j * 10 from rfl, hci] at hpt)
      | refine i_load1 hm (k:=?_)
      | refine iq_load1 hm (k:=?_)
      | refine iq_loadN hm (k:=?_)
      | refine op_move (k:=?_)
      | refine op_assign (k:=?_)
      | refine op_geq (k:=?_)
      | refine op_eql (k:=?_)
      | refine op_nilCheck (k:=?_)
      | refine op_fieldAddr (k:=?_)
      | refine wl_nil ?_
      | refine at_then_normal ?_
      | refine at_block_normal ?_
      | refine wc_seq ?_
      | refine wc_region ?_
      | refine wc_block ?_
      | refine wc_ret ?_
      | refine at_ret1 (h:=?_)
      | refine wc_quiet (h:=?_)
      | (refine wq_nil ?_; intro _ hkq; replace hm := hm.kept0 hkq; clear hkq)
      | refine wc_cond_true (ht:=?_)
      | (refine wc_cond_dec (ht:=fun _ => ?_) (hf:=fun _ => ?_)<;> (try first | contradiction | (exfalso; omega)))
      | refine q_move (k:=?_)
      | refine q_assign (k:=?_)
      | refine q_nilCheck (k:=?_)
      | refine q_fieldAddr (k:=?_))
      all_goals try (exfalso; omega)
      exact ⟨rfl, hm.kept⟩
    | none =>
      rw [Sp.callLab, hf]
      rw [Sp.findV_none hf] at hfind
      repeat' (first
      | (refine mq_readC (d:=53) hm (hc:=hfind) (k:=?_))
      | refine i_load1 hm (k:=?_)
      | refine iq_load1 hm (k:=?_)
      | refine iq_loadN hm (k:=?_)
      | refine op_move (k:=?_)
      | refine op_assign (k:=?_)
      | refine op_geq (k:=?_)
      | refine op_eql (k:=?_)
      | refine op_nilCheck (k:=?_)
      | refine op_fieldAddr (k:=?_)
      | refine wl_nil ?_
      | refine at_then_normal ?_
      | refine at_block_normal ?_
      | refine wc_seq ?_
      | refine wc_region ?_
      | refine wc_block ?_
      | refine wc_skip ?_
      | refine wc_ret ?_
      | refine at_ret1 (h:=?_)
      | refine wc_quiet (h:=?_)
      | (refine wq_nil ?_; intro _ hkq; replace hm := hm.kept0 hkq; clear hkq)
      | refine wc_cond_false (hf:=?_)
      | (refine wc_cond_dec (ht:=fun _ => ?_) (hf:=fun _ => ?_)<;> (try first | contradiction | (exfalso; omega)))
      | refine q_move (k:=?_)
      | refine q_assign (k:=?_)
      | refine q_nilCheck (k:=?_)
      | refine q_fieldAddr (k:=?_))
      all_goals try (exfalso; omega)
      exact ⟨rfl, hm.kept⟩
  · rw [if_neg k4]
    repeat' (first
    | refine i_load1 hm (k:=?_)
    | refine op_move (k:=?_)
    | refine op_assign (k:=?_)
    | refine op_eql (k:=?_)
    | refine op_nilCheck (k:=?_)
    | refine op_fieldAddr (k:=?_)
    | refine wl_nil ?_
    | refine at_then_normal ?_
    | refine at_block_normal ?_
    | refine wc_seq ?_
    | refine wc_region ?_
    | refine wc_block ?_
    | refine wc_skip ?_
    | refine wc_ret ?_
    | refine at_ret1 (h:=?_)
    | (refine wc_cond_dec (ht:=fun _ => ?_) (hf:=fun _ => ?_)<;> (try first | contradiction | (exfalso; omega))))
    all_goals try (exfalso; omega)
    exact ⟨rfl, hm.kept⟩
end Go.Proofs.YthmdffgiockcbaaDoor
end
section
namespace Go.Sp
/-- ahead of what is asked of where it stands. -/
def coreF (its : List Itm) (at_ : Int) (sc : List Lc) (un : Nat) (e : Ex) (s : FW) : Nat × FW :=
  if e.kind = 2 then (getF sc e.name, s) else if e.kind = 3 then opsF its at_ sc un e.args 0 s else
  if e.kind = 4 then (callLab its e.name, askFloor its un e.name e.fr e.to (argsF its at_ sc un e.name e.args 0 s)) else (0, s)
theorem exF_eq (its : List Itm) (at_ : Int) (sc : List Lc) (un : Nat) (e : Ex) (s : FW) : exF its at_ sc un e s = ((coreF its at_ sc un e s).1, (coreF its at_ sc un e s).2.hit at_ e.fr e.to ((coreF its at_ sc un e s).1 ||| un)) := by
  cases e with
  | mk k nm n args f t =>
  rw [exF, coreF]
  show _ = _
  by_cases k2 : k = 2
  · simp [k2, Ex.kind, Ex.name, Ex.fr, Ex.to]
  · by_cases k3 : k = 3
    · simp [k3, Ex.kind, Ex.args, Ex.fr, Ex.to]
    · by_cases k4 : k = 4
      · simp [k4, Ex.kind, Ex.name, Ex.args, Ex.fr, Ex.to]
      · simp [k2, k3, k4, Ex.kind, Ex.fr, Ex.to]
theorem coreF_ds (its : List Itm) (at_ : Int) (sc : List Lc) (un : Nat) (e : Ex) (s : FW) : s.ds.length ≤ (coreF its at_ sc un e s).2.ds.length ∧ (coreF its at_ sc un e s).2.ds.length + 1 ≤ s.ds.length + 2 * e.cnt := by
  have := exF_n its at_ sc un e s
  rw [exF_eq] at this
  dsimp only at this
  rw [hit_ds] at this
  exact this
theorem hit_pos {s : FW} {at_ : Int} {f t n : Nat} (h0 : s.hv = none) (h1 : (f : Int) ≤ at_) (h2 : at_ < t) : s.hit at_ f t n = ⟨s.ds, some n⟩ := by rw [FW.hit, if_pos ⟨h0, h1, h2⟩]
theorem hit_some {s : FW} {at_ : Int} {f t n m : Nat} (h0 : s.hv = some m) : s.hit at_ f t n = s := by rw [FW.hit, if_neg (by rw [h0]; simp)]
theorem hit_neg {s : FW} {at_ : Int} {f t n : Nat} (h1 : ¬ ((f : Int) ≤ at_ ∧ at_ < t)) : s.hit at_ f t n = s := by rw [FW.hit, if_neg (fun h => h1 h.2)]
end Go.Sp
namespace Go.Fw
theorem sub3_0 {R : List HItem} {a b c : HItem} : ∀ h ∈ [a, b, c], h ∈ a :: b :: c :: R := by simp
end Go.Fw
namespace Go.Proofs.YthmdffgiockcbaaDoor
open Go.Fw
structure FX where
  k : Nat
  I : Imm
  sa : Option Addr
  sp : Nat
  da : Option Addr
  dp : Nat
/-- what is shown of an expression's label. -/
def ExprOk (its : List Sp.Itm) (it : Sp.Itm) (bc bf : Nat) (a : Option Addr) (cp : Nat) (xs : List Value) (pi vf : Value) (sc : List Sp.Lc) (at_ : Int) (un : Nat) (e : Sp.Ex) : Prop :=
  ∀ (I : Imm) (b o tc : Nat) (ea : Option Addr) (ec : Nat) (ys : List Value) (s : Sp.FW) (sa : Option Addr) (sp : Nat) (da : Option Addr) (dp : Nat), s.ds.length + 2 * e.cnt ≤ 1000000000 → FC I its it bf a cp xs pi vf →
    PtrI I b o tc (exCells e ea ec) → RowI I 41 6 (.slice ea e.args.length ec) e.args.length ys → ExsAt I e.args ys →
    CalM Tryd.prog 60 #[ptr bc, .pointer (some ⟨b, o, none⟩), nt un] I (FSt bc bf pi sc sa sp s da dp vf at_) (ToF bc bf pi vf at_ sc (Sp.exF its at_ sc un e s).2 (nt (Sp.exF its at_ sc un e s).1))
section
variable {its : List Sp.Itm} {it : Sp.Itm} {bc bf : Nat} {a : Option Addr} {cp : Nat} {xs : List Value} {pi vf : Value} {sc : List Sp.Lc} {at_ : Int} {un : Nat}
set_option maxHeartbeats 16000000 in
theorem f_call (hun : un < 256) (_hsc : sc.length ≤ 1099511627776) (hsl : Sp.scLab sc) (e : Sp.Ex) (hsm : e.small) (hE : ∀ y, y ∈ e.args → ExprOk its it bc bf a cp xs pi vf sc at_ un y)
    (I : Imm) (b o tc : Nat) (ea : Option Addr) (ec : Nat) (ys : List Value) (s : Sp.FW) (sa : Option Addr) (sp : Nat) (da : Option Addr) (dp : Nat) (hn : s.ds.length + 2 * e.cnt ≤ 1000000000) (hC : FC I its it bf a cp xs pi vf)
    (hp : PtrI I b o tc (exCells e ea ec)) (hr : RowI I 41 6 (.slice ea e.args.length ec) e.args.length ys) (hx : ExsAt I e.args ys) :
    CalM Tryd.prog 65 #[ptr bc, .pointer (some ⟨b, o, none⟩), nt un] I (FSt bc bf pi sc sa sp s da dp vf at_)
      (ToF bc bf pi vf at_ sc (Sp.askFloor its un e.name e.fr e.to (Sp.argsF its at_ sc un e.name e.args 0 s)) (nt (Sp.callLab its e.name))) := by
  obtain ⟨hal, hasm⟩ := Sp.small_args hsm
  have hcnt := Sp.Ex.cnt_eq e
  refine CalM.of fun w E hm => enter (N := 149) Tryd.func65 rfl [(0, ptr bc), (1, .pointer (some ⟨b, o, none⟩)), (2, nt un)] args3 rfl ?_
  obtain ⟨fa, fp, rfl, hfl⟩ := hC.floors
  have hCf := hC.file
  have hri := hC.fe.row
  have hfew := hC.fe.few
  have hfind := (n_find 2 e.name its I a cp xs hC.fe).read
  obtain ⟨fv, hfv⟩ : ∃ fv, fv = Sp.findV its 2 e.name := ⟨_, rfl⟩
  rw [← hfv] at hfind
  repeat' (first
  | (refine mq_readC (d:=20) hm (hc:=hfind) (k:=?_))
  | refine i_load1 hm (k:=?_)
  | refine mq_load1 hm (k:=?_)
  | refine iq_load1 hm (k:=?_)
  | refine iq_loadN hm (k:=?_)
  | refine op_move (k:=?_)
  | refine op_assign (k:=?_)
  | refine op_len_slice (k:=?_)
  | refine op_nilCheck (k:=?_)
  | refine op_fieldAddr (k:=?_)
  | refine wl_nil ?_
  | refine at_then_normal ?_
  | refine wc_seq ?_
  | refine wc_region ?_
  | refine wc_block ?_
  | refine wc_quiet (h:=?_)
  | (refine wq_nil ?_; intro _ hkq; replace hm := hm.kept0 hkq; clear hkq)
  | refine q_move (k:=?_)
  | refine q_assign (k:=?_)
  | refine q_nilCheck (k:=?_)
  | refine q_fieldAddr (k:=?_))
  all_goals try (exfalso; omega)
  refine wc_loop (fun x : FX => [(0, ptr bc), (1, .pointer (some ⟨b, o, none⟩)), (2, nt un), (7, .int .i64 fv), (25, nt e.args.length), (26, nt x.k)])
    (fun x w' => Mem E x.I (FSt bc bf pi sc x.sa x.sp (Sp.argsF its at_ sc un e.name (e.args.take x.k) 0 s) x.da x.dp (.slice fa its.length fp) at_) w' ∧ Le I x.I ∧ x.k ≤ e.args.length) (fun x => e.args.length - x.k) ⟨0, I, sa, sp, da, dp⟩
    (by exact ⟨rfl, rfl, rfl, rfl, rfl, rfl, trivial⟩) ⟨by dsimp only; rw [List.take_zero, Sp.argsF]; exact hm, Le.refl _, Nat.zero_le _⟩ ?_
  clear hm
  rintro ⟨k, I1, sa1, sp1, da1, dp1⟩ w1 ⟨hm, hle1, hk⟩
  dsimp only at hm hle1 hk ⊢
  have hC1 := hC.le hle1
  have hCf1 := hC1.file
  have hri1 := hC1.fe.row
  have hp1 := hp.le hle1
  by_cases hlt : k < e.args.length
  · have hg : e.args[k]? = some e.args[k] := List.getElem?_eq_getElem hlt
    have hmem := List.getElem_mem hlt
    obtain ⟨ea2, ec2, ys2, hc2, hr2, hx2⟩ := (hx.get hg).out
    have hEk := hE _ hmem
    generalize e.args[k] = y at hg hmem hc2 hr2 hx2 hEk
    have hst := Sp.argsF_step its at_ sc un e.name hg s
    have hcy := Sp.exsCnt_take_le hg
    have hnn := Sp.argsF_n its at_ sc un e.name (e.args.take k) 0 s
    generalize Sp.argsF its at_ sc un e.name (e.args.take k) 0 s = s1 at hm hst hnn
    have hcl := fun (J : Imm) (m : Le I J) (h1 : FC J its it bf a cp xs pi (.slice fa its.length fp)) b o tc (hpt : PtrI J b o tc (exCells y ea2 ec2)) => hEk J b o tc ea2 ec2 ys2 s1 sa1 sp1 da1 dp1 (by omega) h1 hpt (hr2.le m) (ExsAt.le m _ _ hx2)
    have hl1 := Sp.exF_lt hC.lab at_ hsl un y s1
    have hnx := Sp.exF_n its at_ sc un y s1
    generalize Sp.exF its at_ sc un y s1 = r at hcl hst hl1 hnx
    have hrow := hr.le hle1
    have hl2 := Sp.or_lt hl1 hun
    rw [Sp.askArg] at hst
    cases hf : Sp.findIt its 2 e.name with
    | none =>
      rw [hf] at hst
      rw [Sp.findV_none hf] at hfv
      subst hfv
      repeat' (first
      | (refine i_indexAddr (d:=35) (hr:=hrow) (k:=?_); intro bt ot hpt; rw [show ((k : Int).toNat * 6) = k * 6 from rfl, hc2] at hpt)
      | (refine m_call (d:=37) hm (hc:=hcl I1 hle1 hC1 _ _ _ hpt) (k:=?_); clear hm; rintro _ I2 _ _ ⟨rfl, sa2, sp2, da2, dp2, rfl⟩ hle hm; have hleI2 := hle; try simp only [setn] at hm; have hCf2 := hCf1.le hleI2; have hp2 := hp1.le hleI2)
      | (refine op_call (d:=39) (hc:=by exact c_join _ _ hl1 hun _) (k:=?_); rintro _ _ ⟨rfl, rfl⟩)
      | refine i_load1 hm (k:=?_)
      | refine op_move (k:=?_)
      | refine op_assign (k:=?_)
      | refine op_pick_false (k:=?_)
      | refine op_lss (k:=?_)
      | refine op_geq (k:=?_)
      | refine op_nilCheck (k:=?_)
      | refine op_add (k:=?_)
      | refine op_fieldAddr (k:=?_)
      | refine wl_skip (k:=?_)
      | refine wl_nil ?_
      | refine at_then_normal ?_
      | refine at_block_normal ?_
      | refine wc_seq ?_
      | refine wc_region ?_
      | refine wc_block ?_
      | refine wc_skip ?_
      | refine wc_cond_false (hf:=?_)
      | (refine wc_cond_dec (ht:=fun _ => ?_) (hf:=fun _ => ?_)<;> (try first | contradiction | (exfalso; omega))))
      all_goals try (exfalso; omega)
      exact at_round (⟨k + 1, I2, sa2, sp2, da2, dp2⟩ : FX) (by exact ⟨rfl, rfl, rfl, rfl, rfl, rfl, trivial⟩) ⟨by dsimp only; rw [hst]; exact hm, hle1.trans hleI2, by dsimp only; omega⟩ (by dsimp only; omega)
    | some j =>
      rw [hf] at hst
      rw [Sp.findV_some hf] at hfv
      subst hfv
      obtain ⟨hj, _, _, _, hmemj⟩ := Sp.findIt_lt hf
      obtain ⟨ci, hci, hat, hlc⟩ := hC1.fe.get (Sp.itNo_get hj)
      obtain ⟨pa, pc, sa9, sc9, ba, bc9, da9, dc9, xb, rfl, hpars, _⟩ := hat
      have hplab := (hC.lab _ hmemj).2
      dsimp only at hst
      generalize Sp.itNo its j = itj at hci hpars hplab hst
      by_cases hkp : k < itj.params.length
      · have hgp : itj.params[k]? = some itj.params[k] := List.getElem?_eq_getElem hkp
        have hpl := hplab _ (List.getElem_mem hkp)
        generalize itj.params[k] = q at hgp hpl
        rw [hgp] at hst
        dsimp only at hst
        rw [Sp.FW.ask] at hst
        have hF := fun w => c_flows (r.1 ||| un) q.label hl2 hpl w
        cases hfl2 : Sp.flows (r.1 ||| un) q.label with
        | true =>
          rw [hfl2] at hF hst
          repeat' (first
          | (refine i_indexAddr (d:=35) (hr:=hrow) (k:=?_); intro bt ot hpt; rw [show ((k : Int).toNat * 6) = k * 6 from rfl, hc2] at hpt)
          | (refine m_call (d:=37) hm (hc:=hcl I1 hle1 hC1 _ _ _ hpt) (k:=?_); clear hm; rintro _ I2 _ _ ⟨rfl, sa2, sp2, da2, dp2, rfl⟩ hle hm; have hleI2 := hle; try simp only [setn] at hm; have hCf2 := hCf1.le hleI2; have hp2 := hp1.le hleI2)
          | (refine op_call (d:=39) (hc:=by exact c_join _ _ hl1 hun _) (k:=?_); rintro _ _ ⟨rfl, rfl⟩)
          | (refine i_indexAddr (d:=52) (hr:=hri1.le hleI2) (k:=?_); intro bu ou hpu; rw [show ((j : Int).toNat * 10) = j * 10 from rfl, hci] at hpu)
          | (refine i_indexAddr (d:=68) (hr:=hri1.le hleI2) (k:=?_); intro bv ov hpv; rw [show ((j : Int).toNat * 10) = j * 10 from rfl, hci] at hpv)
          | (refine i_indexFlat (d:=72) (enc:=encPar) (z:=q) (hr:=hpars.le hleI2) (he:=fun _ => rfl) (hz:=by exact hgp) (k:=?_); intro bz oz hpz)
          | (refine op_call (d:=75) (hc:=by exact hF _) (k:=?_); rintro _ _ ⟨rfl, rfl⟩)
          | refine m_load1 hm (k:=?_)
          | refine i_load1 hm (k:=?_)
          | refine op_move (k:=?_)
          | refine op_assign (k:=?_)
          | refine op_pick_true (k:=?_)
          | refine op_lss (k:=?_)
          | refine op_geq (k:=?_)
          | refine op_len_slice (k:=?_)
          | refine op_not (k:=?_)
          | refine op_nilCheck (k:=?_)
          | refine op_add (k:=?_)
          | refine op_fieldAddr (k:=?_)
          | (refine wl_split_dec (h1:=fun _ => ?_) (h0:=fun _ => ?_)<;> (try first | contradiction | (exfalso; omega)))
          | refine wl_nil ?_
          | refine at_then_normal ?_
          | refine at_block_normal ?_
          | refine wc_seq ?_
          | refine wc_region ?_
          | refine wc_block ?_
          | refine wc_skip ?_
          | refine wc_cond_false (hf:=?_)
          | (refine wc_cond_dec (ht:=fun _ => ?_) (hf:=fun _ => ?_)<;> (try first | contradiction | (exfalso; omega))))
          all_goals try (exfalso; omega)
          rw [if_pos rfl] at hst
          exact at_round (⟨k + 1, I2, sa2, sp2, da2, dp2⟩ : FX) (by exact ⟨rfl, rfl, rfl, rfl, rfl, rfl, trivial⟩) ⟨by dsimp only; rw [hst]; exact hm, hle1.trans hleI2, by dsimp only; omega⟩ (by dsimp only; omega)
        | false =>
          rw [hfl2] at hF hst
          rw [if_neg Bool.false_ne_true] at hst
          have hT := fun (J : Imm) (sa : Option Addr) (sp : Nat) (da : Option Addr) (dp : Nat) => f_tell (I := J) (bc := bc) (bf := bf) (pi := pi) (sc := sc) (sa := sa) (sp := sp) (s := r.2) (da := da) (dp := dp) (vf := .slice fa its.length fp) (at_ := at_) q.name y.fr y.to (by omega)
          repeat' (first
          | (refine i_indexAddr (d:=35) (hr:=hrow) (k:=?_); intro bt ot hpt; rw [show ((k : Int).toNat * 6) = k * 6 from rfl, hc2] at hpt)
          | (refine m_call (d:=37) hm (hc:=hcl I1 hle1 hC1 _ _ _ hpt) (k:=?_); clear hm; rintro _ I2 _ _ ⟨rfl, sa2, sp2, da2, dp2, rfl⟩ hle hm; have hleI2 := hle; try simp only [setn] at hm; have hCf2 := hCf1.le hleI2; have hp2 := hp1.le hleI2)
          | (refine op_call (d:=39) (hc:=by exact c_join _ _ hl1 hun _) (k:=?_); rintro _ _ ⟨rfl, rfl⟩)
          | (refine i_indexAddr (d:=52) (hr:=hri1.le hleI2) (k:=?_); intro bu ou hpu; rw [show ((j : Int).toNat * 10) = j * 10 from rfl, hci] at hpu)
          | (refine i_indexAddr (d:=68) (hr:=hri1.le hleI2) (k:=?_); intro bv ov hpv; rw [show ((j : Int).toNat * 10) = j * 10 from rfl, hci] at hpv)
          | (refine i_indexFlat (d:=72) (enc:=encPar) (z:=q) (hr:=hpars.le hleI2) (he:=fun _ => rfl) (hz:=by exact hgp) (k:=?_); intro bz oz hpz)
          | (refine op_call (d:=75) (hc:=by exact hF _) (k:=?_); rintro _ _ ⟨rfl, rfl⟩)
          | (refine wc_quiet_tail (id:=7) 32 (h:=?_))
          | (refine iq_indexAddr (d:=84) (hr:=hrow.le hleI2) (k:=?_); intro bt3 ot3 hpt3; rw [show ((k : Int).toNat * 6) = k * 6 from rfl, hc2] at hpt3)
          | (refine iq_indexAddr (d:=92) (hr:=hrow.le hleI2) (k:=?_); intro bt4 ot4 hpt4; rw [show ((k : Int).toNat * 6) = k * 6 from rfl, hc2] at hpt4)
          | (refine iq_indexAddr (d:=103) (hr:=hri1.le hleI2) (k:=?_); intro bv3 ov3 hpv3; rw [show ((j : Int).toNat * 10) = j * 10 from rfl, hci] at hpv3)
          | (refine iq_indexFlat (d:=107) (enc:=encPar) (z:=q) (hr:=hpars.le hleI2) (he:=fun _ => rfl) (hz:=by exact hgp) (k:=?_); intro bz3 oz3 hpz3)
          | (refine m_call (d:=110) hm (hc:=hT I2 sa2 sp2 da2 dp2) (k:=?_); clear hm; rintro _ I3 _ _ ⟨rfl, sa3, sp3, da3, dp3, rfl⟩ hle hm; have hleI3 := hle; try simp only [setn] at hm)
          | refine m_load1 hm (k:=?_)
          | refine i_load1 hm (k:=?_)
          | refine mq_load1 hm (k:=?_)
          | refine iq_load1 hm (k:=?_)
          | refine op_move (k:=?_)
          | refine op_assign (k:=?_)
          | refine op_pick_true (k:=?_)
          | refine op_lss (k:=?_)
          | refine op_geq (k:=?_)
          | refine op_len_slice (k:=?_)
          | refine op_not (k:=?_)
          | refine op_nilCheck (k:=?_)
          | refine op_add (k:=?_)
          | refine op_fieldAddr (k:=?_)
          | (refine wl_split_dec (h1:=fun _ => ?_) (h0:=fun _ => ?_)<;> (try first | contradiction | (exfalso; omega)))
          | refine wl_nil ?_
          | refine at_then_normal ?_
          | refine at_block_normal ?_
          | refine wc_seq ?_
          | refine wc_region ?_
          | refine wc_block ?_
          | refine wc_skip ?_
          | (refine wq_nil_tail ?_; intro _ hkq; replace hm := hm.kept0 hkq; clear hkq)
          | refine wc_cond_true (ht:=?_)
          | (refine wc_cond_dec (ht:=fun _ => ?_) (hf:=fun _ => ?_)<;> (try first | contradiction | (exfalso; omega)))
          | refine q_move (k:=?_)
          | refine q_nilCheck (k:=?_)
          | refine q_fieldAddr (k:=?_))
          all_goals try (exfalso; omega)
          exact at_round (⟨k + 1, I3, sa3, sp3, da3, dp3⟩ : FX) (by exact ⟨rfl, rfl, rfl, rfl, rfl, rfl, trivial⟩) ⟨by dsimp only; rw [hst]; exact hm, (hle1.trans hleI2).trans hleI3, by dsimp only; omega⟩ (by dsimp only; omega)
      · rw [List.getElem?_eq_none (by omega)] at hst
        dsimp only at hst
        repeat' (first
        | (refine i_indexAddr (d:=35) (hr:=hrow) (k:=?_); intro bt ot hpt; rw [show ((k : Int).toNat * 6) = k * 6 from rfl, hc2] at hpt)
        | (refine m_call (d:=37) hm (hc:=hcl I1 hle1 hC1 _ _ _ hpt) (k:=?_); clear hm; rintro _ I2 _ _ ⟨rfl, sa2, sp2, da2, dp2, rfl⟩ hle hm; have hleI2 := hle; try simp only [setn] at hm; have hCf2 := hCf1.le hleI2; have hp2 := hp1.le hleI2)
        | (refine op_call (d:=39) (hc:=by exact c_join _ _ hl1 hun _) (k:=?_); rintro _ _ ⟨rfl, rfl⟩)
        | (refine i_indexAddr (d:=52) (hr:=hri1.le hleI2) (k:=?_); intro bu ou hpu; rw [show ((j : Int).toNat * 10) = j * 10 from rfl, hci] at hpu)
        | refine m_load1 hm (k:=?_)
        | refine i_load1 hm (k:=?_)
        | refine op_move (k:=?_)
        | refine op_assign (k:=?_)
        | refine op_pick_true (k:=?_)
        | refine op_pick_false (k:=?_)
        | refine op_lss (k:=?_)
        | refine op_geq (k:=?_)
        | refine op_len_slice (k:=?_)
        | refine op_nilCheck (k:=?_)
        | refine op_add (k:=?_)
        | refine op_fieldAddr (k:=?_)
        | refine wl_skip (k:=?_)
        | (refine wl_split_dec (h1:=fun _ => ?_) (h0:=fun _ => ?_)<;> (try first | contradiction | (exfalso; omega)))
        | refine wl_nil ?_
        | refine at_then_normal ?_
        | refine at_block_normal ?_
        | refine wc_seq ?_
        | refine wc_region ?_
        | refine wc_block ?_
        | refine wc_skip ?_
        | refine wc_cond_false (hf:=?_)
        | (refine wc_cond_dec (ht:=fun _ => ?_) (hf:=fun _ => ?_)<;> (try first | contradiction | (exfalso; omega))))
        all_goals try (exfalso; omega)
        exact at_round (⟨k + 1, I2, sa2, sp2, da2, dp2⟩ : FX) (by exact ⟨rfl, rfl, rfl, rfl, rfl, rfl, trivial⟩) ⟨by dsimp only; rw [hst]; exact hm, hle1.trans hleI2, by dsimp only; omega⟩ (by dsimp only; omega)
  · obtain rfl : k = e.args.length := by omega
    have hnn := Sp.argsF_n its at_ sc un e.name e.args 0 s
    rw [List.take_length] at hm
    generalize Sp.argsF its at_ sc un e.name e.args 0 s = s1 at hm hnn ⊢
    cases hf : Sp.findIt its 2 e.name with
    | none =>
      rw [Sp.findV_none hf] at hfv
      subst hfv
      rw [Sp.askFloor, Sp.callLab, hf]
      repeat' (first
      | refine op_move (k:=?_)
      | refine op_assign (k:=?_)
      | refine op_lss (k:=?_)
      | refine wl_nil ?_
      | refine at_then_normal ?_
      | refine at_then_ret ?_
      | refine at_then_exit ?_
      | refine at_block_exit ?_
      | refine wc_seq ?_
      | refine wc_region ?_
      | refine wc_exit ?_
      | refine wc_ret ?_
      | refine at_ret1 (h:=?_)
      | refine wc_cond_true (ht:=?_)
      | (refine wc_cond_dec (ht:=fun _ => ?_) (hf:=fun _ => ?_)<;> (try first | contradiction | (exfalso; omega))))
      all_goals try (exfalso; omega)
      exact ⟨I1, _, ⟨rfl, _, _, _, _, rfl⟩, hm⟩
    | some j =>
      rw [Sp.findV_some hf] at hfv
      subst hfv
      rw [Sp.askFloor, Sp.callLab, hf]
      dsimp only
      obtain ⟨hj, _, _, _, hmemj⟩ := Sp.findIt_lt hf
      obtain ⟨ci, hci, hat, hlc⟩ := hC1.fe.get (Sp.itNo_get hj)
      obtain ⟨pa, pc, sa9, sc9, ba, bc9, da9, dc9, xb, rfl, _⟩ := hat
      have hfg : (Sp.floorsF its)[j]? = some (Sp.meetF its (Sp.itNo its j).sends) := by rw [Sp.floorsF, List.getElem?_map, Sp.itNo_get hj]; rfl
      have hml := Sp.meetF_lt its (Sp.itNo its j).sends
      have hfl1 := hfl.le hle1
      have hF := fun w => c_flows un (Sp.meetF its (Sp.itNo its j).sends) hun hml w
      rw [Sp.FW.ask]
      cases hb : Sp.flows un (Sp.meetF its (Sp.itNo its j).sends) with
      | true =>
        rw [hb] at hF
        rw [if_pos rfl]
        repeat' (first
        | (refine i_indexFlat (d:=120) (enc:=encInt) (z:=Sp.meetF its (Sp.itNo its j).sends) (hr:=hfl1) (he:=fun _ => rfl) (hz:=by exact hfg) (k:=?_); intro bz oz hpz)
        | (refine op_call (d:=122) (hc:=by exact hF _) (k:=?_); rintro _ _ ⟨rfl, rfl⟩)
        | (refine i_indexAddr (d:=146) (hr:=hri1) (k:=?_); intro bu ou hpu; rw [show ((j : Int).toNat * 10) = j * 10 from rfl, hci] at hpu)
        | refine m_load1 hm (k:=?_)
        | refine i_load1 hm (k:=?_)
        | refine i_load1z hm (k:=?_)
        | refine op_move (k:=?_)
        | refine op_assign (k:=?_)
        | refine op_lss (k:=?_)
        | refine op_not (k:=?_)
        | refine op_nilCheck (k:=?_)
        | refine op_fieldAddr (k:=?_)
        | refine wl_nil ?_
        | refine at_then_normal ?_
        | refine at_then_exit ?_
        | refine at_block_exit ?_
        | refine wc_seq ?_
        | refine wc_region ?_
        | refine wc_skip ?_
        | refine wc_exit ?_
        | refine wc_ret ?_
        | refine at_ret1 (h:=?_)
        | refine wc_cond_false (hf:=?_)
        | (refine wc_cond_dec (ht:=fun _ => ?_) (hf:=fun _ => ?_)<;> (try first | contradiction | (exfalso; omega))))
        all_goals try (exfalso; omega)
        exact ⟨I1, _, ⟨rfl, _, _, _, _, rfl⟩, hm⟩
      | false =>
        rw [hb] at hF
        rw [if_neg Bool.false_ne_true]
        have hT := fun (J : Imm) => f_tell (I := J) (bc := bc) (bf := bf) (pi := pi) (sc := sc) (sa := sa1) (sp := sp1) (s := s1) (da := da1) (dp := dp1) (vf := .slice fa its.length fp) (at_ := at_) e.name e.fr e.to (by omega)
        repeat' (first
        | (refine i_indexFlat (d:=120) (enc:=encInt) (z:=Sp.meetF its (Sp.itNo its j).sends) (hr:=hfl1) (he:=fun _ => rfl) (hz:=by exact hfg) (k:=?_); intro bz oz hpz)
        | (refine op_call (d:=122) (hc:=by exact hF _) (k:=?_); rintro _ _ ⟨rfl, rfl⟩)
        | (refine wc_quiet_tail (id:=12) 13 (h:=?_))
        | (refine m_call (d:=137) hm (hc:=hT I1) (k:=?_); clear hm; rintro _ I3 _ _ ⟨rfl, sa3, sp3, da3, dp3, rfl⟩ hle hm; have hleI3 := hle; try simp only [setn] at hm; have hCf3 := hCf1.le hleI3)
        | (refine i_indexAddr (d:=146) (hr:=hri1.le hleI3) (k:=?_); intro bu ou hpu; rw [show ((j : Int).toNat * 10) = j * 10 from rfl, hci] at hpu)
        | refine m_load1 hm (k:=?_)
        | refine i_load1 hm (k:=?_)
        | refine i_load1z hm (k:=?_)
        | refine iq_load1 hm (k:=?_)
        | refine op_move (k:=?_)
        | refine op_assign (k:=?_)
        | refine op_lss (k:=?_)
        | refine op_not (k:=?_)
        | refine op_nilCheck (k:=?_)
        | refine op_fieldAddr (k:=?_)
        | refine wl_nil ?_
        | refine at_then_normal ?_
        | refine at_then_exit ?_
        | refine at_block_exit ?_
        | refine wc_seq ?_
        | refine wc_region ?_
        | refine wc_skip ?_
        | refine wc_exit ?_
        | refine wc_ret ?_
        | refine at_ret1 (h:=?_)
        | (refine wq_nil_tail ?_; intro _ hkq; replace hm := hm.kept0 hkq; clear hkq)
        | refine wc_cond_true (ht:=?_)
        | refine wc_cond_false (hf:=?_)
        | (refine wc_cond_dec (ht:=fun _ => ?_) (hf:=fun _ => ?_)<;> (try first | contradiction | (exfalso; omega)))
        | refine q_move (k:=?_)
        | refine q_nilCheck (k:=?_)
        | refine q_fieldAddr (k:=?_))
        all_goals try (exfalso; omega)
        exact ⟨I3, _, ⟨rfl, _, _, _, _, rfl⟩, hm⟩
end
end Go.Proofs.YthmdffgiockcbaaDoor
end
