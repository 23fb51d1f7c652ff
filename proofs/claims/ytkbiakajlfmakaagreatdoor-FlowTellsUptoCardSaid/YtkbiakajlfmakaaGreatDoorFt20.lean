/- Own work: texts FwCut, NsD, FwCut2, NsE, RnB, Label, FlA, FlB, one behind the other. -/
import Derived.Test.YtkbiakajlfmakaaGreatDoorFt19
section
namespace Go.Fw
open Go
theorem own_cut {w : World} {base e sz n m cp : Nat} {a : Option Addr} {xs : List Value} (ho : w.ownsRow base e sz (.slice a n cp) n xs) (hmn : m ≤ n) :
    w.ownsRow base e sz (.slice a m cp) m (xs.take (m * sz)) ∧ n ≤ cp ∧ (a = none ∨ ∃ g, a = some ⟨g, 0, none⟩) := by
  have h0 := ho.1
  have hle : m * sz ≤ n * sz := Nat.mul_le_mul_right _ hmn
  have hlen : (xs.take (m * sz)).length = m * sz := by rw [List.length_take]; omega
  rcases ho.2 with ⟨hv, hn⟩ | ⟨g, cap, cur, hv, hb, hg, hc, hcm, hs, ht⟩
  · obtain ⟨rfl, rfl, rfl⟩ := Value.slice.inj hv
    obtain rfl : m = 0 := by omega
    exact ⟨⟨hlen, .inl ⟨rfl, rfl⟩⟩, Nat.le_refl _, .inl rfl⟩
  · obtain ⟨rfl, _, rfl⟩ := Value.slice.inj hv
    refine ⟨⟨hlen, .inr ⟨g, cp, cur, rfl, hb, hg, by omega, hcm, hs, ?_⟩⟩, hc, .inr ⟨g, rfl⟩⟩
    rw [← ht, List.take_take, Nat.min_eq_left hle]
section
variable {P : Program} {N : Nat} {ds : List Deferred} {Q : Exit → Act → World → Prop} {l : Log} {w : World} {ops : Array Oper} {os : List Oper}
variable {d : Nat} {ty : TypeId} {pos : String} {af : Array Edge} {g : Option (Nat × Bool)} {t : TypeId} {x y : Operand} {E : Ent} {I : Imm} {H : List HItem}
theorem m_sliceTo {e : TypeId} {sz by_ : Nat} [TySlice P t e] [Elem P e sz by_] {i n m cp : Nat} {a : Option Addr} {xs : List Value} (hm : Mem E I H w)
    (hw : want ops l ⟨some d, .slice t x none (some y) none, ty, pos, af, g⟩ = some true := by rfl) (hN : Nat.blt d N = true := by rfl)
    (hx : ev l x = some (.slice a n cp) := by rfl) (hy : ev l y = some (.int .i64 (m : Int)) := by rfl) (hi : H[i]? = some (.row (.slice a n cp) e sz n xs) := by first | exact gt0 | exact gt1 | exact gt2 | exact gt3 | exact gt4 | exact gt5 | exact gt6) (hmn : m ≤ n)
    (k : Mem E I (H.set i (.row (.slice a m cp) e sz m (xs.take (m * sz)))) w → WL P N ds ops Q os ((d, .slice a m cp) :: l) w) :
    WL P N ds ops Q (⟨some d, .slice t x none (some y) none, ty, pos, af, g⟩ :: os) l w := by
  obtain ⟨h1, h2, h3⟩ := own_cut (hm.ok _ (List.mem_of_getElem? hi)) hmn
  have hm' := hm.turn (h' := .row (.slice a m cp) e sz m (xs.take (m * sz))) hi (Kept.refl _ w) h1 (.inl (by rcases a with _ | a <;> rfl))
  refine wl_value (w' := w) (v := .slice a m cp) rfl hw hN (fun c hc => ?_) (k hm')
  obtain ⟨inf, z, hinf, _, hs, _, _, _⟩ := Elem.out (P := P) (e := e)
  have h6 := run_underlying (P := P) (w := w) (TySlice.out (P := P) (t := t))
  have h7 : m ≤ cp := by omega
  rcases h3 with rfl | ⟨g, rfl⟩
  · simp [execOp, Instr.sliceAt, Instr.slice, Instr.sliceBounds, Instr.sliceBound, hc.ev hx, hc.ev hy, h6, asIntOf, h7, sizeOf, typeInfo, hinf, hs]
  · simp [execOp, Instr.sliceAt, Instr.slice, Instr.sliceBounds, Instr.sliceBound, hc.ev hx, hc.ev hy, h6, asIntOf, h7, sizeOf, typeInfo, hinf, hs, Addr.add_lit]
end
end Go.Fw
end
section
namespace Go.Sp
end Go.Sp
namespace Go.Proofs.YtkbiakajlfmakaaGreatDoor
open Go.Fw
section
variable (src : List UInt8) (p : Nat) (q : List UInt8) (its : List Sp.Itm) (it : Sp.Itm) (bc bf : Nat) (a : Option Addr) (cp : Nat) (xs : List Value) (pi : Value)
end
section
variable {src : List UInt8} {p : Nat} {q : List UInt8} {its : List Sp.Itm} {it : Sp.Itm} {bc bf : Nat} {a : Option Addr} {cp : Nat} {xs : List Value} {pi : Value}
end
end Go.Proofs.YtkbiakajlfmakaaGreatDoor
end
section
namespace Go.Fw
open Go
theorem RowI.take {I : Imm} {e sz n m cp : Nat} {a : Option Addr} {xs : List Value} (h : RowI I e sz (.slice a n cp) n xs) (hmn : m ≤ n) : RowI I e sz (.slice a m cp) m (xs.take (m * sz)) := by
  obtain ⟨h0, a', cap, h1, h2, h3⟩ := h
  obtain ⟨rfl, _, rfl⟩ := Value.slice.inj h1
  have hle : m * sz ≤ n * sz := Nat.mul_le_mul_right _ hmn
  refine ⟨by rw [List.length_take]; omega, a, cp, rfl, by omega, fun hm => ?_⟩
  obtain ⟨b, off, c, fr, e1, e2, e3⟩ := h3 (by omega)
  refine ⟨b, off, c, fr, e1, e2, fun j u hj => e3 j u ?_⟩
  rw [List.getElem?_take] at hj
  split at hj
  · exact hj
  · cases hj
section
variable {P : Program} {N : Nat} {ds : List Deferred} {Q : Exit → Act → World → Prop} {l : Log} {w : World} {ops : Array Oper} {os : List Oper}
variable {d : Nat} {ty : TypeId} {pos : String} {af : Array Edge} {g : Option (Nat × Bool)} {t : TypeId} {x y : Operand} {E : Ent} {I : Imm} {H : List HItem}
end
end Go.Fw
end
section
namespace Go.Sp
end Go.Sp
namespace Go.Proofs.YtkbiakajlfmakaaGreatDoor
open Go.Fw
end Go.Proofs.YtkbiakajlfmakaaGreatDoor
end
section
namespace Go.Proofs.YtkbiakajlfmakaaGreatDoor
open Go.Fw
/-- a map that is copied. -/
structure WX where
  S : List Nat
  es : Ents
section
variable {I : Imm} {bc i cp dp up : Nat} {a da ua : Option Addr} {s : Sp.NW}
variable {src : List UInt8} {p : Nat} {q : List UInt8} {its : List Sp.Itm} {it : Sp.Itm} {xs : List Value}
end
end Go.Proofs.YtkbiakajlfmakaaGreatDoor
end
section
namespace Go.Proofs.YtkbiakajlfmakaaGreatDoor
open Go.Fw

theorem c_flows (a b : Nat) (ha : a < 256) (hb : b < 256) (w : World) : Cal Tryz.prog 96 #[.int .i64 a, .int .i64 b] w fun v w' => v = .bool (Sp.flows a b) ∧ w' = w := by
  refine enter (N := 9) Tryz.func96 rfl [(0, .int .i64 a), (1, .int .i64 b)] args2 rfl ?_
  repeat' (first
  | refine op_move (k:=?_)
  | refine op_assign (k:=?_)
  | refine op_eql (k:=?_)
  | refine op_eql_str (k:=?_)
  | refine op_eql_bool (k:=?_)
  | refine op_eql_flat (k:=?_)
  | refine op_andNot (k:=?_)
  | refine wl_nil ?_
  | refine at_then_normal ?_
  | refine at_then_ret ?_
  | refine wc_seq ?_
  | refine wc_region ?_
  | refine wc_skip ?_
  | refine wc_ret ?_
  | refine at_ret1 (h:=?_))
  refine ⟨congrArg Value.bool ?_, rfl⟩
  rw [Bool.eq_iff_iff, decide_eq_true_eq, Int.toNat_natCast, Int.toNat_natCast, ← Sp.andNot_zero ha hb]
  omega
theorem c_join (a b : Nat) (ha : a < 256) (hb : b < 256) (w : World) : Cal Tryz.prog 77 #[.int .i64 a, .int .i64 b] w fun v w' => v = .int .i64 ((a ||| b : Nat) : Int) ∧ w' = w := by
  refine enter (N := 8) Tryz.func77 rfl [(0, .int .i64 a), (1, .int .i64 b)] args2 rfl ?_
  repeat' (first
  | refine op_move (k:=?_)
  | refine op_assign (k:=?_)
  | refine op_or (k:=?_)
  | refine wl_nil ?_
  | refine at_then_normal ?_
  | refine at_then_ret ?_
  | refine wc_seq ?_
  | refine wc_region ?_
  | refine wc_skip ?_
  | refine wc_ret ?_
  | refine at_ret1 (h:=?_))
  exact ⟨rfl, rfl⟩
theorem c_meet (a b : Nat) (ha : a < 256) (hb : b < 256) (w : World) : Cal Tryz.prog 32 #[.int .i64 a, .int .i64 b] w fun v w' => v = .int .i64 ((a &&& b : Nat) : Int) ∧ w' = w := by
  refine enter (N := 8) Tryz.func32 rfl [(0, .int .i64 a), (1, .int .i64 b)] args2 rfl ?_
  repeat' (first
  | refine op_move (k:=?_)
  | refine op_assign (k:=?_)
  | refine op_and (k:=?_)
  | refine wl_nil ?_
  | refine at_then_normal ?_
  | refine at_then_ret ?_
  | refine wc_seq ?_
  | refine wc_region ?_
  | refine wc_skip ?_
  | refine wc_ret ?_
  | refine at_ret1 (h:=?_))
  exact ⟨rfl, rfl⟩
end Go.Proofs.YtkbiakajlfmakaaGreatDoor
end
section
namespace Go.Sp
theorem findLc_cut (n : List UInt8) {l : List Lc} {k : Nat} {x : Lc} (h : l[k]? = some x) : findLc (l.take (k + 1)) n = if x.name = n then some x else findLc (l.take k) n := by
  rw [take_succ_get h, findLc_snoc]
end Go.Sp
namespace Go.Proofs.YtkbiakajlfmakaaGreatDoor
open Go.Fw
abbrev encLc (l : Sp.Lc) : List Value := [str l.name, nt l.at_]
abbrev lcRow (sc : List Sp.Lc) (sa : Option Addr) (sp : Nat) : HItem := .row (.slice sa sc.length sp) 116 2 sc.length (sc.flatMap encLc)
abbrev fCells (bf : Nat) (pi : Value) (sc : List Sp.Lc) (sa : Option Addr) (sp : Nat) (s : Sp.FW) (da : Option Addr) (dp : Nat) (vf : Value) (at_ : Int) : List Value :=
  [ptr bf, pi, .slice sa sc.length sp, .slice da s.ds.length dp, vf, .int .i64 at_, .bool s.hv.isSome, nt (s.hv.getD 0)]
abbrev fObj (bc bf : Nat) (pi : Value) (sc : List Sp.Lc) (sa : Option Addr) (sp : Nat) (s : Sp.FW) (da : Option Addr) (dp : Nat) (vf : Value) (at_ : Int) : HItem :=
  .obj bc (.cells (fCells bf pi sc sa sp s da dp vf at_).toArray 91 (0, 0))
/-- who goes through a function: it, its locals, what it told. -/
abbrev FSt (bc bf : Nat) (pi : Value) (sc : List Sp.Lc) (sa : Option Addr) (sp : Nat) (s : Sp.FW) (da : Option Addr) (dp : Nat) (vf : Value) (at_ : Int) : List HItem :=
  [fObj bc bf pi sc sa sp s da dp vf at_, lcRow sc sa sp, dgRow s.ds da dp]
/-- it comes to 's', with locals 'sc'. -/
abbrev ToF (bc bf : Nat) (pi : Value) (vf : Value) (at_ : Int) (sc : List Sp.Lc) (s : Sp.FW) (val : Value) : Value → Imm → List HItem → Prop :=
  fun v _ H' => v = val ∧ ∃ sa sp da dp, H' = FSt bc bf pi sc sa sp s da dp vf at_
/-- what does not turn of it. -/
structure FRd (J : Imm) (bc bf : Nat) (pi : Value) (sc : List Sp.Lc) (sa : Option Addr) (sp : Nat) (v3 v4 v5 v6 v7 : Value) : Prop where
  ptr : PtrI J bc 0 91 [ptr bf, pi, .slice sa sc.length sp, v3, v4, v5, v6, v7]
  row : RowI J 116 2 (.slice sa sc.length sp) sc.length (sc.flatMap encLc)
theorem FRd.le {I J : Imm} (m : Le I J) {bc bf : Nat} {pi : Value} {sc : List Sp.Lc} {sa : Option Addr} {sp : Nat} {v3 v4 v5 v6 v7 : Value} (h : FRd I bc bf pi sc sa sp v3 v4 v5 v6 v7) : FRd J bc bf pi sc sa sp v3 v4 v5 v6 v7 := ⟨h.ptr.le m, h.row.le m⟩
section
variable {I : Imm} {bc bf sp dp : Nat} {pi vf : Value} {sc : List Sp.Lc} {sa da : Option Addr} {s : Sp.FW} {at_ : Int}
/-- a reader of it, from where all does not turn. -/
theorem CalR.flow {f : FuncId} {args : Array Value} {v : Value} (h : ∀ J, Le I J → FRd J bc bf pi sc sa sp (.slice da s.ds.length dp) vf (.int .i64 at_) (.bool s.hv.isSome) (nt (s.hv.getD 0)) → CalR Tryz.prog f args J [] v) :
    CalR Tryz.prog f args I (FSt bc bf pi sc sa sp s da dp vf at_) v :=
  CalR.of fun w J hm hl hH hJ => by
    have h1 := immOf_ptr (hH (fObj bc bf pi sc sa sp s da dp vf at_) (by simp))
    have h2 := immOf_row (hH (lcRow sc sa sp) (by simp))
    rw [← hJ] at h1 h2
    exact (h J hl ⟨h1, h2⟩).run w hm.inv (fun _ h => by cases h)
theorem f_get0 {J : Imm} {v3 v4 v5 v6 v7 : Value} (n : List UInt8) (hs : sc.length ≤ 1099511627776) (h : FRd J bc bf pi sc sa sp v3 v4 v5 v6 v7) : CalR Tryz.prog 81 #[ptr bc, str n] J [] (nt (Sp.getF sc n)) := by
  refine CalR.of fun w K hm hl _ _ => enter (N := 34) Tryz.func81 rfl [(0, ptr bc), (1, str n)] args2 rfl ?_
  obtain ⟨hp, hr⟩ := h.le hl
  repeat' (first
  | refine i_load1 hm (k:=?_)
  | refine op_move (k:=?_)
  | refine op_assign (k:=?_)
  | refine op_len_slice (k:=?_)
  | refine op_nilCheck (k:=?_)
  | refine op_sub (k:=?_)
  | refine op_fieldAddr (k:=?_)
  | refine wl_nil ?_
  | refine at_then_normal ?_
  | refine wc_seq ?_
  | refine wc_region ?_
  | refine wc_block ?_)
  refine wc_loop (fun k : Nat => [(0, ptr bc), (1, str n), (5, .int .i64 ((k : Int) - 1))]) (fun k w' => Mem ⟨w, [], K⟩ K [] w' ∧ k ≤ sc.length ∧ Sp.findLc sc n = Sp.findLc (sc.take k) n) (fun k => k) sc.length (by exact ⟨rfl, rfl, rfl, trivial⟩) ⟨hm, Nat.le_refl _, by rw [List.take_length]⟩ ?_
  clear hm
  rintro k w1 ⟨hm, hk, hf⟩
  try dsimp only at hm hk hf ⊢
  by_cases h0 : 0 < k
  · have hg : sc[k - 1]? = some sc[k - 1] := List.getElem?_eq_getElem (by omega)
    have hcut := Sp.findLc_cut n hg
    rw [show k - 1 + 1 = k by omega] at hcut
    generalize sc[k - 1] = x at hg hcut
    rw [hcut] at hf
    have hi : sc[((k : Int) - 1).toNat]? = some x := by rw [show ((k : Int) - 1).toNat = k - 1 by omega]; exact hg
    by_cases hx : x.name = n
    · rw [if_pos hx] at hf
      repeat' (first
      | (refine i_indexFlat (d:=21) (enc:=encLc) (z:=x) (hr:=hr) (he:=fun _ => rfl) (hz:=hi) (k:=?_); intro b1 o1 p1)
      | (refine i_indexFlat (d:=31) (enc:=encLc) (z:=x) (hr:=hr) (he:=fun _ => rfl) (hz:=hi) (k:=?_); intro b2 o2 p2)
      | refine i_load1 hm (k:=?_)
      | refine op_move (k:=?_)
      | refine op_assign (k:=?_)
      | refine op_geq (k:=?_)
      | refine op_eql_str (k:=?_)
      | refine op_nilCheck (k:=?_)
      | refine op_fieldAddr (k:=?_)
      | refine wl_nil ?_
      | refine at_then_normal ?_
      | refine at_then_ret ?_
      | refine at_block_ret ?_
      | refine wc_seq ?_
      | refine wc_region ?_
      | refine wc_block ?_
      | refine wc_skip ?_
      | refine wc_ret ?_
      | refine at_ret1 (h:=?_)
      | (refine wc_cond_dec (ht:=fun _ => ?_) (hf:=fun _ => ?_)<;> (try first | contradiction | (exfalso; omega))))
      all_goals try (exfalso; first | omega | contradiction)
      exact ⟨by rw [Sp.getF, hf], hm.kept⟩
    · rw [if_neg hx] at hf
      repeat' (first
      | (refine i_indexFlat (d:=21) (enc:=encLc) (z:=x) (hr:=hr) (he:=fun _ => rfl) (hz:=hi) (k:=?_); intro b1 o1 p1)
      | refine i_load1 hm (k:=?_)
      | refine op_move (k:=?_)
      | refine op_assign (k:=?_)
      | refine op_geq (k:=?_)
      | refine op_eql_str (k:=?_)
      | refine op_nilCheck (k:=?_)
      | refine op_sub (k:=?_)
      | refine op_fieldAddr (k:=?_)
      | refine wl_nil ?_
      | refine at_then_normal ?_
      | refine at_block_normal ?_
      | refine wc_seq ?_
      | refine wc_region ?_
      | refine wc_block ?_
      | refine wc_skip ?_
      | (refine wc_cond_dec (ht:=fun _ => ?_) (hf:=fun _ => ?_)<;> (try first | contradiction | (exfalso; omega))))
      all_goals try (exfalso; first | omega | contradiction)
      refine at_round (k - 1 : Nat) (by exact ⟨rfl, rfl, by rw [show (((k - 1 : Nat) : Int) - 1) = (k : Int) - 1 - 1 by omega]; rfl, trivial⟩) ⟨hm, by omega, hf⟩ (by omega)
  · obtain rfl : k = 0 := by omega
    repeat' (first
    | refine op_move (k:=?_)
    | refine op_assign (k:=?_)
    | refine op_geq (k:=?_)
    | refine wl_nil ?_
    | refine at_then_normal ?_
    | refine at_then_exit ?_
    | refine at_block_exit ?_
    | refine wc_seq ?_
    | refine wc_region ?_
    | refine wc_exit ?_
    | refine wc_ret ?_
    | refine at_ret1 (h:=?_)
    | refine wc_cond_false (hf:=?_))
    all_goals try (exfalso; omega)
    exact ⟨by rw [Sp.getF, hf]; rfl, hm.kept⟩
theorem FSt_tell (bc bf : Nat) (pi : Value) (sc : List Sp.Lc) (sa : Option Addr) (sp : Nat) (s : Sp.FW) (f t : Nat) (n : List UInt8) (da : Option Addr) (dp : Nat) (vf : Value) (at_ : Int) :
    [.obj bc (.cells [ptr bf, pi, .slice sa sc.length sp, .slice da (s.ds.length + 1) dp, vf, .int .i64 at_, .bool s.hv.isSome, nt (s.hv.getD 0)].toArray 91 (0, 0)), lcRow sc sa sp, .row (.slice da (s.ds.length + 1) dp) 65 4 (s.ds.length + 1) (s.ds.flatMap encDg ++ encDg ⟨f, t, 9, n⟩)] = FSt bc bf pi sc sa sp (s.tell f t n) da dp vf at_ := by
  simp [Sp.FW.tell, List.flatMap_append]
theorem f_tell (n : List UInt8) (f t : Nat) (hd : s.ds.length < 1099511627776) :
    CalM Tryz.prog 97 #[ptr bc, nt f, nt t, str n] I (FSt bc bf pi sc sa sp s da dp vf at_) (ToF bc bf pi vf at_ sc (s.tell f t n) (.tuple #[])) := by
  refine CalM.of fun w E hm => enter (N := 21) Tryz.func97 rfl [(0, ptr bc), (1, nt f), (2, nt t), (3, str n)] args4 rfl ?_
  repeat' (first
  | (refine m_push (d:=18) hm (k:=?_); clear hm; intro a18 cp18 _ _ hm; try simp only [setn] at hm)
  | refine m_load1 hm (k:=?_)
  | (refine m_store1 hm (k:=?_); clear hm; intro _ hm; try simp only [setn] at hm)
  | refine op_move (k:=?_)
  | refine op_nilCheck (k:=?_)
  | refine op_fieldAddr (k:=?_)
  | refine op_struct (k:=?_)
  | refine wl_nil ?_
  | refine wc_region ?_
  | refine at_end0 (h:=?_))
  exact ⟨I, _, ⟨rfl, _, _, _, _, FSt_tell _ _ _ _ _ _ s f t n _ _ _ _⟩, hm⟩
theorem f_to (x : Sp.Stm) (b o tc : Nat) (cs : List Value) (hp : PtrI I b o tc cs) (hx : StAt I x cs) (a c : Nat) (ha : a < 256) (hc : c < 256) (hd : s.ds.length < 1099511627776) :
    CalM Tryz.prog 80 #[ptr bc, .pointer (some ⟨b, o, none⟩), nt a, nt c] I (FSt bc bf pi sc sa sp s da dp vf at_) (ToF bc bf pi vf at_ sc (s.ask a c x.fr x.to x.name) (.tuple #[])) := by
  refine CalM.of fun w E hm => enter (N := 26) Tryz.func80 rfl [(0, ptr bc), (1, .pointer (some ⟨b, o, none⟩)), (2, nt a), (3, nt c)] args4 rfl ?_
  obtain ⟨ea, ec, ex, a1, c1, xs1, a2, c2, xs2, rfl, _⟩ := hx.out
  have hF := fun w => c_flows a c ha hc w
  rw [Sp.FW.ask]
  cases hb : Sp.flows a c with
  | true =>
    rw [hb] at hF
    repeat' (first
    | (refine op_call (d:=10) (hc:=by exact hF _) (k:=?_); rintro _ _ ⟨rfl, rfl⟩)
    | refine op_move (k:=?_)
    | refine op_not (k:=?_)
    | refine wl_nil ?_
    | refine at_then_normal ?_
    | refine wc_seq ?_
    | refine wc_region ?_
    | refine wc_skip ?_
    | refine at_end0 (h:=?_)
    | refine wc_cond_false (hf:=?_))
    all_goals try (exfalso; first | omega | contradiction)
    exact ⟨I, _, ⟨rfl, _, _, _, _, rfl⟩, hm⟩
  | false =>
    rw [hb] at hF
    have hT := fun J => f_tell (I := J) (bc := bc) (bf := bf) (pi := pi) (sc := sc) (sa := sa) (sp := sp) (s := s) (da := da) (dp := dp) (vf := vf) (at_ := at_) x.name x.fr x.to hd
    repeat' (first
    | (refine op_call (d:=10) (hc:=by exact hF _) (k:=?_); rintro _ _ ⟨rfl, rfl⟩)
    | (refine wc_quiet_tail (id:=1) 13 (h:=?_))
    | (refine m_call (d:=25) hm (hc:=hT _) (k:=?_); clear hm; rintro _ I2 _ _ ⟨rfl, sa2, sp2, da2, dp2, rfl⟩ hle hm; have hleI2 := hle; try simp only [setn] at hm)
    | refine iq_load1 hm (k:=?_)
    | refine op_move (k:=?_)
    | refine op_not (k:=?_)
    | refine wl_nil ?_
    | refine at_then_normal ?_
    | refine wc_seq ?_
    | refine wc_region ?_
    | refine at_end0 (h:=?_)
    | (refine wq_nil_tail ?_; intro _ hkq; replace hm := hm.kept0 hkq; clear hkq)
    | refine wc_cond_true (ht:=?_)
    | refine q_move (k:=?_)
    | refine q_nilCheck (k:=?_)
    | refine q_fieldAddr (k:=?_))
    all_goals try (exfalso; first | omega | contradiction)
    exact ⟨I2, _, ⟨rfl, _, _, _, _, rfl⟩, hm⟩
end
/-- what does not turn beside it. -/
structure FC (I : Imm) (its : List Sp.Itm) (it : Sp.Itm) (bf : Nat) (a : Option Addr) (cp : Nat) (xs : List Value) (pi vf : Value) : Prop where
  file : PtrI I bf 0 24 [.slice a its.length cp]
  fe : FE I its a cp xs
  item : ∃ bi oi tc ci, pi = .pointer (some ⟨bi, oi, none⟩) ∧ PtrI I bi oi tc ci ∧ ItAt I it ci
  floors : ∃ fa fp, vf = .slice fa its.length fp ∧ RowI I 3 1 (.slice fa its.length fp) its.length ((Sp.floorsF its).flatMap encInt)
  lab : Sp.itLab its
  own : it.label < 256
theorem FC.le {I J : Imm} (m : Le I J) {its : List Sp.Itm} {it : Sp.Itm} {bf : Nat} {a : Option Addr} {cp : Nat} {xs : List Value} {pi vf : Value} (h : FC I its it bf a cp xs pi vf) : FC J its it bf a cp xs pi vf := by
  obtain ⟨h1, h2, ⟨bi, oi, tc, ci, e, h3, h4⟩, ⟨fa, fp, e2, h5⟩, h6, h7⟩ := h
  exact ⟨h1.le m, h2.le m, ⟨bi, oi, tc, ci, e, h3.le m, h4.le m⟩, ⟨fa, fp, e2, h5.le m⟩, h6, h7⟩
end Go.Proofs.YtkbiakajlfmakaaGreatDoor
end
section
namespace Go.Sp
theorem plainF_eq (its : List Itm) (sc : List Lc) (e : Ex) : plainF its sc e = if e.kind = 2 then getF sc e.name else if e.kind = 3 then plainsF its sc e.args 0 else if e.kind = 4 then callLab its e.name else 0 := by
  cases e; rw [plainF]; rfl
theorem findV_some {its : List Itm} {k : Int} {n : List UInt8} {j : Nat} (h : findIt its k n = some j) : findV its k n = j := by rw [findV, h]
theorem findV_none {its : List Itm} {k : Int} {n : List UInt8} (h : findIt its k n = none) : findV its k n = -1 := by rw [findV, h]
end Go.Sp
namespace Go.Proofs.YtkbiakajlfmakaaGreatDoor
open Go.Fw
set_option maxHeartbeats 8000000 in
theorem f_plain0 {its : List Sp.Itm} {it : Sp.Itm} {bc bf sp : Nat} {a : Option Addr} {cp : Nat} {xs : List Value} {pi vf v3 v5 v6 v7 : Value} {sc : List Sp.Lc} {sa : Option Addr} (hs : sc.length ≤ 1099511627776) (hsl : Sp.scLab sc) :
    ∀ (n : Nat) (e : Sp.Ex), SizeOf.sizeOf e ≤ n → e.small → ∀ (J : Imm) (b o tc : Nat) (ea : Option Addr) (ec : Nat) (ys : List Value), FRd J bc bf pi sc sa sp v3 vf v5 v6 v7 → FC J its it bf a cp xs pi vf →
      PtrI J b o tc (exCells e ea ec) → RowI J 100 6 (.slice ea e.args.length ec) e.args.length ys → ExsAt J e.args ys →
      CalR Tryz.prog 78 #[ptr bc, .pointer (some ⟨b, o, none⟩)] J [] (nt (Sp.plainF its sc e)) := by
  intro n
  induction n with
  | zero => intro e h; cases e; simp at h
  | succ n ih =>
  intro e hsz hsm J b o tc ea ec ys hR0 hC0 hp0 hr0 hx0
  obtain ⟨hal, hasm⟩ := Sp.small_args hsm
  refine CalR.of fun w K hm hl _ _ => enter (N := 68) Tryz.func78 rfl [(0, ptr bc), (1, .pointer (some ⟨b, o, none⟩))] args2 rfl ?_
  have hR := hR0.le hl
  have hC := hC0.le hl
  have hp := hp0.le hl
  have hr := hr0.le hl
  have hx := ExsAt.le hl _ _ hx0
  clear hR0 hC0 hp0 hr0 hx0
  obtain ⟨hRp, hRr⟩ := hR
  have hCf := hC.file
  rw [Sp.plainF_eq]
  by_cases k2 : e.kind = 2
  · rw [if_pos k2]
    repeat' (first
    | (refine m_readC (d:=19) hm (hc:=f_get0 e.name hs ⟨hRp, hRr⟩) (k:=?_); clear hm; intro _ hm)
    | refine i_load1 hm (k:=?_)
    | refine op_move (k:=?_)
    | refine op_assign (k:=?_)
    | refine op_eql (k:=?_)
    | refine op_nilCheck (k:=?_)
    | refine op_fieldAddr (k:=?_)
    | refine wl_nil ?_
    | refine at_then_normal ?_
    | refine at_block_normal ?_
    | refine wc_seq ?_
    | refine wc_region ?_
    | refine wc_block ?_
    | refine wc_ret ?_
    | refine at_ret1 (h:=?_)
    | (refine wc_cond_dec (ht:=fun _ => ?_) (hf:=fun _ => ?_)<;> (try first | contradiction | (exfalso; omega))))
    all_goals try (exfalso; omega)
    exact ⟨rfl, hm.kept⟩
  rw [if_neg k2]
  by_cases k3 : e.kind = 3
  · rw [if_pos k3]
    repeat' (first
    | refine i_load1 hm (k:=?_)
    | refine op_move (k:=?_)
    | refine op_assign (k:=?_)
    | refine op_eql (k:=?_)
    | refine op_len_slice (k:=?_)
    | refine op_nilCheck (k:=?_)
    | refine op_fieldAddr (k:=?_)
    | refine wl_nil ?_
    | refine at_then_normal ?_
    | refine wc_seq ?_
    | refine wc_region ?_
    | refine wc_block ?_
    | (refine wc_cond_dec (ht:=fun _ => ?_) (hf:=fun _ => ?_)<;> (try first | contradiction | (exfalso; omega))))
    all_goals try (exfalso; omega)
    refine wc_loop (fun k : Nat => [(0, ptr bc), (1, .pointer (some ⟨b, o, none⟩)), (5, nt (Sp.plainsF its sc (e.args.take k) 0)), (26, nt e.args.length), (27, nt k)]) (fun k w' => Mem ⟨w, [], K⟩ K [] w' ∧ k ≤ e.args.length) (fun k => e.args.length - k) 0
      (by exact ⟨rfl, rfl, by rw [List.take_zero, Sp.plainsF]; rfl, rfl, rfl, trivial⟩) ⟨hm, Nat.zero_le _⟩ ?_
    clear hm
    rintro k w1 ⟨hm, hk⟩
    try dsimp only at hm hk ⊢
    by_cases hlt : k < e.args.length
    · have hg : e.args[k]? = some e.args[k] := List.getElem?_eq_getElem hlt
      have hsz2 := Sp.size_args (List.getElem_mem hlt)
      have hsm2 := Sp.exsSmall_get hasm hg
      obtain ⟨ea2, ec2, ys2, hc2, hr2, hx2⟩ := (hx.get hg).out
      generalize e.args[k] = y at hg hsz2 hsm2 hc2 hr2 hx2
      have hst := Sp.plainsF_step its sc hg 0
      have hl1 := Sp.plainsF_lt hC.lab hsl (e.args.take k) 0 (by omega)
      have hl2 := Sp.plainF_lt hC.lab hsl y
      repeat' (first
      | (refine i_indexAddr (d:=37) (hr:=hr) (k:=?_); intro bt ot hpt; rw [show ((k : Int).toNat * 6) = k * 6 from rfl, hc2] at hpt)
      | (refine m_readC (d:=38) hm (hc:=ih y (by omega) hsm2 K _ _ _ ea2 ec2 ys2 ⟨hRp, hRr⟩ hC hpt hr2 hx2) (k:=?_); clear hm; intro _ hm)
      | (refine op_call (d:=39) (hc:=by exact c_join _ _ hl1 hl2 _) (k:=?_); rintro _ _ ⟨rfl, rfl⟩)
      | refine i_load1 hm (k:=?_)
      | refine op_move (k:=?_)
      | refine op_assign (k:=?_)
      | refine op_lss (k:=?_)
      | refine op_nilCheck (k:=?_)
      | refine op_add (k:=?_)
      | refine op_fieldAddr (k:=?_)
      | refine wl_nil ?_
      | refine at_then_normal ?_
      | refine at_block_normal ?_
      | refine wc_seq ?_
      | refine wc_region ?_
      | refine wc_block ?_
      | refine wc_skip ?_
      | (refine wc_cond_dec (ht:=fun _ => ?_) (hf:=fun _ => ?_)<;> (try first | contradiction | (exfalso; omega))))
      all_goals try (exfalso; omega)
      refine at_round (k + 1 : Nat) (by exact ⟨rfl, rfl, by rw [hst]; rfl, rfl, rfl, trivial⟩) ⟨hm, by omega⟩ (by omega)
    · obtain rfl : k = e.args.length := by omega
      repeat' (first
      | refine op_move (k:=?_)
      | refine op_assign (k:=?_)
      | refine op_lss (k:=?_)
      | refine wl_nil ?_
      | refine at_then_normal ?_
      | refine at_then_exit ?_
      | refine at_block_normal ?_
      | refine at_block_exit ?_
      | refine wc_seq ?_
      | refine wc_region ?_
      | refine wc_exit ?_
      | refine wc_ret ?_
      | refine at_ret1 (h:=?_)
      | (refine wc_cond_dec (ht:=fun _ => ?_) (hf:=fun _ => ?_)<;> (try first | contradiction | (exfalso; omega))))
      all_goals try (exfalso; omega)
      exact ⟨by rw [List.take_length], hm.kept⟩
  rw [if_neg k3]
  by_cases k4 : e.kind = 4
  · rw [if_pos k4]
    have hfind := (n_find 2 e.name its K a cp xs hC.fe).read
    cases hf : Sp.findIt its 2 e.name with
    | some j =>
      obtain ⟨hj, _, _, _, _⟩ := Sp.findIt_lt hf
      obtain ⟨ci, hci, hat, hlc⟩ := hC.fe.get (Sp.itNo_get hj)
      obtain ⟨pa, pc, sa1, sc1, ba, bc1, da, dc, xb, rfl, _⟩ := hat
      have hri := hC.fe.row
      rw [Sp.callLab, hf]
      rw [Sp.findV_some hf] at hfind
      repeat' (first
      | (refine mq_readC (d:=53) hm (hc:=hfind) (k:=?_))
      | (refine i_indexAddr (d:=64) (hr:=hri) (k:=?_); intro bt ot hpt; rw [show ((j : Int).toNat * 10) = j * 10 from rfl, hci] at hpt)
      | refine i_load1 hm (k:=?_)
      | refine iq_load1 hm (k:=?_)
      | refine iq_loadN hm (k:=?_)
      | refine op_move (k:=?_)
      | refine op_assign (k:=?_)
      | refine op_geq (k:=?_)
      | refine op_eql (k:=?_)
      | refine op_nilCheck (k:=?_)
      | refine op_fieldAddr (k:=?_)
      | refine wl_nil ?_
      | refine at_then_normal ?_
      | refine at_block_normal ?_
      | refine wc_seq ?_
      | refine wc_region ?_
      | refine wc_block ?_
      | refine wc_ret ?_
      | refine at_ret1 (h:=?_)
      | refine wc_quiet (h:=?_)
      | (refine wq_nil ?_; intro _ hkq; replace hm := hm.kept0 hkq; clear hkq)
      | refine wc_cond_true (ht:=?_)
      | (refine wc_cond_dec (ht:=fun _ => ?_) (hf:=fun _ => ?_)<;> (try first | contradiction | (exfalso; omega)))
      | refine q_move (k:=?_)
      | refine q_assign (k:=?_)
      | refine q_nilCheck (k:=?_)
      | refine q_fieldAddr (k:=?_))
      all_goals try (exfalso; omega)
      exact ⟨rfl, hm.kept⟩
    | none =>
      rw [Sp.callLab, hf]
      rw [Sp.findV_none hf] at hfind
      repeat' (first
      | (refine mq_readC (d:=53) hm (hc:=hfind) (k:=?_))
      | refine i_load1 hm (k:=?_)
      | refine iq_load1 hm (k:=?_)
      | refine iq_loadN hm (k:=?_)
      | refine op_move (k:=?_)
      | refine op_assign (k:=?_)
      | refine op_geq (k:=?_)
      | refine op_eql (k:=?_)
      | refine op_nilCheck (k:=?_)
      | refine op_fieldAddr (k:=?_)
      | refine wl_nil ?_
      | refine at_then_normal ?_
      | refine at_block_normal ?_
      | refine wc_seq ?_
      | refine wc_region ?_
      | refine wc_block ?_
      | refine wc_skip ?_
      | refine wc_ret ?_
      | refine at_ret1 (h:=?_)
      | refine wc_quiet (h:=?_)
      | (refine wq_nil ?_; intro _ hkq; replace hm := hm.kept0 hkq; clear hkq)
      | refine wc_cond_false (hf:=?_)
      | (refine wc_cond_dec (ht:=fun _ => ?_) (hf:=fun _ => ?_)<;> (try first | contradiction | (exfalso; omega)))
      | refine q_move (k:=?_)
      | refine q_assign (k:=?_)
      | refine q_nilCheck (k:=?_)
      | refine q_fieldAddr (k:=?_))
      all_goals try (exfalso; omega)
      exact ⟨rfl, hm.kept⟩
  · rw [if_neg k4]
    repeat' (first
    | refine i_load1 hm (k:=?_)
    | refine op_move (k:=?_)
    | refine op_assign (k:=?_)
    | refine op_eql (k:=?_)
    | refine op_nilCheck (k:=?_)
    | refine op_fieldAddr (k:=?_)
    | refine wl_nil ?_
    | refine at_then_normal ?_
    | refine at_block_normal ?_
    | refine wc_seq ?_
    | refine wc_region ?_
    | refine wc_block ?_
    | refine wc_skip ?_
    | refine wc_ret ?_
    | refine at_ret1 (h:=?_)
    | (refine wc_cond_dec (ht:=fun _ => ?_) (hf:=fun _ => ?_)<;> (try first | contradiction | (exfalso; omega))))
    all_goals try (exfalso; omega)
    exact ⟨rfl, hm.kept⟩
end Go.Proofs.YtkbiakajlfmakaaGreatDoor
end
