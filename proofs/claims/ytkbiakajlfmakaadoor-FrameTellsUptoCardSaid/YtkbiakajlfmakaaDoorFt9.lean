/- Own work: texts FrB, FrC, one behind the other. -/
import Derived.Test.YtkbiakajlfmakaaDoorFt8
section
namespace Go.Sp
theorem stepT_le {b : List UInt8} {p : Nat} {ok : Bool} {e : UInt8} (hp : p ≤ b.length) : (stepT b p ok e).2.1 ≤ b.length := by
  rw [stepT]
  split
  · rename_i v q h; exact (numAt_le h).2
  · exact hp
theorem numsT_snoc (b : List UInt8) : ∀ (es : List UInt8) (e : UInt8) (p : Nat) (ok : Bool), numsT b (es ++ [e]) p ok =
    ((numsT b es p ok).1 ++ [(stepT b (numsT b es p ok).2.1 (numsT b es p ok).2.2 e).1], (stepT b (numsT b es p ok).2.1 (numsT b es p ok).2.2 e).2)
  | [], e, p, ok => rfl
  | x :: es, e, p, ok => by
    rw [List.cons_append, numsT, numsT_snoc b es, numsT]
    rfl
theorem oneAt_none {b : List UInt8} {p : Nat} (h : numsAt b hdr p = none) : oneAt b p = .error 2 := by rw [oneAt, h]
theorem oneAt_some {b : List UInt8} {p : Nat} {i k f t n z : Int} {q : Nat} (h : numsAt b hdr p = some ([i, k, f, t, n, z], q)) : oneAt b p =
    if n < 0 ∨ z < 0 then .error 2 else match numsAt b (List.replicate (min n.toNat 6) 10) q with
      | none => .error 2
      | some (us, r) => if z > (b.length : Int) - r then .error 2 else
          if qErr ⟨i, k, f, t, (b.drop r).take z.toNat, us⟩ ≠ 0 then .error (qErr ⟨i, k, f, t, (b.drop r).take z.toNat, us⟩) else .ok (⟨i, k, f, t, (b.drop r).take z.toNat, us⟩, r + z.toNat) := by rw [oneAt, h]; rfl
/-- six numbers, one by one. -/
theorem hdr_steps {b : List UInt8} {p p1 p2 p3 p4 p5 p6 : Nat} {o1 o2 o3 o4 o5 o6 : Bool} {v1 v2 v3 v4 v5 v6 : Int} (h1 : stepT b p true 32 = (v1, p1, o1)) (h2 : stepT b p1 o1 32 = (v2, p2, o2))
    (h3 : stepT b p2 o2 32 = (v3, p3, o3)) (h4 : stepT b p3 o3 32 = (v4, p4, o4)) (h5 : stepT b p4 o4 32 = (v5, p5, o5)) (h6 : stepT b p5 o5 10 = (v6, p6, o6)) :
    (o6 = false ∧ oneAt b p = .error 2) ∨ (o6 = true ∧ oneAt b p =
    if v5 < 0 ∨ v6 < 0 then .error 2 else match numsAt b (List.replicate (min v5.toNat 6) 10) p6 with
      | none => .error 2
      | some (us, r) => if v6 > (b.length : Int) - r then .error 2 else
          if qErr ⟨v1, v2, v3, v4, (b.drop r).take v6.toNat, us⟩ ≠ 0 then .error (qErr ⟨v1, v2, v3, v4, (b.drop r).take v6.toNat, us⟩) else .ok (⟨v1, v2, v3, v4, (b.drop r).take v6.toNat, us⟩, r + v6.toNat)) := by
  have h : numsT b hdr p true = ([v1, v2, v3, v4, v5, v6], p6, o6) := by simp only [numsT, hdr, h1, h2, h3, h4, h5, h6]
  cases hn : numsAt b hdr p with
  | none =>
    have := numsT_none b hdr p hn
    rw [h] at this
    exact .inl ⟨this, oneAt_none hn⟩
  | some r =>
    have h7 := numsT_some b hdr p r hn
    rw [h] at h7
    obtain ⟨us, q⟩ := r
    injection h7 with e1 e2
    injection e2 with e2 e3
    subst e1; subst e2
    exact .inr ⟨e3, oneAt_some hn⟩
end Go.Sp
namespace Go.Fw
open Go
section
variable {P : Program} {N : Nat} {ds : List Deferred} {Q : Exit → Act → World → Prop} {l : Log} {w : World} {ops : Array Oper} {os : List Oper}
variable {d : Nat} {ty : TypeId} {pos : String} {af : Array Edge} {g : Option (Nat × Bool)} {t : TypeId} {x y : Operand} {E : Ent} {I : Imm} {H R G : List HItem}
theorem CalM.rd {f : FuncId} {args : Array Value} {v : Value} (h : CalM P f args I [] (fun u _ H' => u = v ∧ H' = [])) : CalR P f args I [] v :=
  ⟨fun w hI _ => (h.run w (Mem.start hI)).mono (fun u w' ⟨_, _, ⟨h1, _⟩, h2⟩ => ⟨h1, h2.kept⟩)⟩
theorem op_min {ts : Array TypeId} {a b : Int} (hw : want ops l ⟨some d, .call ⟨.builtin .min, #[x, y], ts⟩, ty, pos, af, g⟩ = some true) (hN : Nat.blt d N = true)
    (hx : ev l x = some (.int .i64 a)) (hy : ev l y = some (.int .i64 b)) (k : WL P N ds ops Q os ((d, .int .i64 (min a b)) :: l) w) :
    WL P N ds ops Q (⟨some d, .call ⟨.builtin .min, #[x, y], ts⟩, ty, pos, af, g⟩ :: os) l w :=
  wl_value rfl hw hN (fun c hc => by
    have h := Lib.run_min_ints (P := P) w ts ty .i64 .i64 a b
    simp [execOp, resolve, invoke, builtin, hc.ev hx, hc.ev hy, h]) k
end
end Go.Fw
namespace Go.Proofs.YtkbiakajlfmakaaDoor
open Go.Fw
abbrev encZ (v : Int) : List Value := [.int .i64 v]
abbrev askV (i k f t : Int) (s : List UInt8) (a : Option Addr) (n c : Nat) : List Value := [.int .i64 i, .int .i64 k, .int .i64 f, .int .i64 t, str s, .slice a n c]
/-- a question's cells. -/
def AskAt (I : Imm) (q : Sp.Qn) (c : List Value) : Prop := ∃ a cp, c = askV q.id q.kind q.fr q.to q.text a q.args.length cp ∧ RowI I 3 1 (.slice a q.args.length cp) q.args.length (q.args.flatMap encZ)
theorem AskAt.le {I I' : Imm} {q : Sp.Qn} {c : List Value} (h : AskAt I q c) (m : Le I I') : AskAt I' q c := by
  obtain ⟨a, cp, h1, h2⟩ := h
  exact ⟨a, cp, h1, h2.le m⟩
theorem AskAt.len {I : Imm} {q : Sp.Qn} {c : List Value} (h : AskAt I q c) : c.length = 6 := by
  obtain ⟨a, cp, rfl, _⟩ := h; rfl
set_option maxHeartbeats 4000000 in
theorem fr_wrong (q : Sp.Qn) (a : Option Addr) (cp : Nat) (I : Imm) : CalR Tryd.prog 16 #[.agg (askV q.id q.kind q.fr q.to q.text a q.args.length cp).toArray] I [] (nt (Sp.qErr q)) := by
  refine CalM.rd (CalM.of fun w E hm => enter (N := 19) Tryd.func16 rfl [(0, .agg (askV q.id q.kind q.fr q.to q.text a q.args.length cp).toArray)] args1 rfl ?_)
  have h0 : Sp.qErr q = if q.kind < 1 ∨ 9 < q.kind then 1 else if 5 < q.args.length then 5 else if 4000 < q.text.length then 4 else 0 := rfl
  generalize Sp.qErr q = r at h0
  repeat' (first
    | (refine m_box (d := 1) hm (by rfl) (by rfl) (by rfl) (by rfl) ?_; clear hm; intro b1 _ hm)
    | refine m_load1 hm (by rfl) (by rfl) (by rfl) (by first | exact gt0 | exact gt1 | exact gt2 | exact gt3 | exact gt4 | exact gt5 | exact gt6) (by rfl) ?_
    | refine op_move (by rfl) (by rfl) (by rfl) ?_
    | refine op_assign (by rfl) (by rfl) (by rfl) ?_
    | refine op_pick_true (by rfl) (by rfl) (by rfl) (by rfl) ?_
    | refine op_pick_false (by rfl) (by rfl) (by rfl) (by rfl) ?_
    | refine op_lss (by rfl) (by rfl) (by rfl) (by rfl) ?_
    | refine op_gtr (by rfl) (by rfl) (by rfl) (by rfl) ?_
    | refine op_len_str (by rfl) (by rfl) (by rfl) ?_
    | refine op_len_slice (by rfl) (by rfl) (by rfl) ?_
    | refine op_fieldAddr (by rfl) (by rfl) (by rfl) ?_
    | refine wl_skip (by rfl) (by rfl) (by rfl) ?_
    | (refine wl_split_dec (by rfl) (by rfl) (by rfl) (fun _ => ?_) (fun _ => ?_) <;> (try first | contradiction | (exfalso; omega)))
    | refine wl_nil ?_
    | refine at_then_normal ?_
    | refine at_then_ret ?_
    | refine wc_seq ?_
    | refine wc_region ?_
    | refine wc_skip ?_
    | refine wc_ret ?_
    | refine at_ret1 (by rfl) (by rfl) ?_
    | refine wc_cond_true (by rfl) ?_
    | (refine wc_cond_dec (by rfl) (fun _ => ?_) (fun _ => ?_) <;> (try first | contradiction | (exfalso; omega))))
  all_goals refine ⟨I, [], ⟨?_, rfl⟩, hm.left (H := [])⟩
  all_goals rw [h0]
  all_goals repeat' split
  all_goals first | rfl | (exfalso; omega)
abbrev askO (b : Nat) (v1 v2 v3 v4 : Int) (s : List UInt8) (a : Option Addr) (n c : Nat) : HItem := .cell b (askV v1 v2 v3 v4 s a n c) 41
structure AskL where
  us : List Int
  q : Nat
  o : Bool
  I : Imm
  a : Option Addr
  cp : Nat
/-- what 'one' answers. -/
def ToOne (b : List UInt8) (br : Nat) (ba : Option Addr) (cp p : Nat) : Value → Imm → List HItem → Prop := fun v I' H' => ∃ (v1 v2 v3 v4 : Int) (s : List UInt8) (a : Option Addr) (n c p' : Nat) (ok' : Bool), H' = [rdr br ba b.length cp p' ok'] ∧
  match Sp.oneAt b p with
  | .ok (q, r) => v = .tuple #[.agg (askV v1 v2 v3 v4 s a n c).toArray, nt 0] ∧ AskAt I' q (askV v1 v2 v3 v4 s a n c) ∧ p' = r ∧ ok' = true
  | .error e => v = .tuple #[.agg (askV v1 v2 v3 v4 s a n c).toArray, nt e] ∧ e ≠ 0
theorem toOne_err {b : List UInt8} {br : Nat} {ba : Option Addr} {cp p p' e : Nat} {ok' : Bool} {v1 v2 v3 v4 : Int} {s : List UInt8} {a : Option Addr} {n c : Nat} {I : Imm} (h : Sp.oneAt b p = .error e) (he : e ≠ 0) :
    ToOne b br ba cp p (.tuple #[.agg (askV v1 v2 v3 v4 s a n c).toArray, nt e]) I [rdr br ba b.length cp p' ok'] := ⟨v1, v2, v3, v4, s, a, n, c, p', ok', rfl, by rw [h]; exact ⟨rfl, he⟩⟩
set_option maxHeartbeats 8000000 in
theorem fr_one {I : Imm} {b : List UInt8} {ba : Option Addr} {cp : Nat} (hr : RowI I 5 1 (.slice ba b.length cp) b.length (b.flatMap encB)) (hl : b.length ≤ 1099511627776) (hI : ConvF I) {p : Nat} (hp : p < b.length) (br : Nat) :
    CalM Tryd.prog 50 #[ptr br] I [rdr br ba b.length cp p true] (ToOne b br ba cp p) := by
  refine CalM.of fun w E hm => enter (N := 102) Tryd.func50 rfl [(0, ptr br)] args1 rfl ?_
  obtain ⟨b0, o0, rfl⟩ := hr.addr (by omega)
  have hnum := fun (J : Imm) (m : Le I J) (p : Nat) (hp : p ≤ b.length) (ok : Bool) (e : UInt8) => fr_num (hr.le m) hl (hI.le m) hp ok e br
  obtain ⟨⟨v1, p1, o1⟩, h1⟩ : ∃ r, Sp.stepT b p true 32 = r := ⟨_, rfl⟩
  have g1 := Sp.stepT_le (ok := true) (e := 32) (show p ≤ b.length by omega)
  have n1 := fun J m => hnum J m p (by omega) true 32
  rw [h1] at g1
  simp only [h1] at n1
  obtain ⟨⟨v2, p2, o2⟩, h2⟩ : ∃ r, Sp.stepT b p1 o1 32 = r := ⟨_, rfl⟩
  have g2 := Sp.stepT_le (ok := o1) (e := 32) g1
  have n2 := fun J m => hnum J m p1 g1 o1 32
  rw [h2] at g2
  simp only [h2] at n2
  obtain ⟨⟨v3, p3, o3⟩, h3⟩ : ∃ r, Sp.stepT b p2 o2 32 = r := ⟨_, rfl⟩
  have g3 := Sp.stepT_le (ok := o2) (e := 32) g2
  have n3 := fun J m => hnum J m p2 g2 o2 32
  rw [h3] at g3
  simp only [h3] at n3
  obtain ⟨⟨v4, p4, o4⟩, h4⟩ : ∃ r, Sp.stepT b p3 o3 32 = r := ⟨_, rfl⟩
  have g4 := Sp.stepT_le (ok := o3) (e := 32) g3
  have n4 := fun J m => hnum J m p3 g3 o3 32
  rw [h4] at g4
  simp only [h4] at n4
  obtain ⟨⟨v5, p5, o5⟩, h5⟩ : ∃ r, Sp.stepT b p4 o4 32 = r := ⟨_, rfl⟩
  have g5 := Sp.stepT_le (ok := o4) (e := 32) g4
  have n5 := fun J m => hnum J m p4 g4 o4 32
  rw [h5] at g5
  simp only [h5] at n5
  obtain ⟨⟨v6, p6, o6⟩, h6⟩ : ∃ r, Sp.stepT b p5 o5 10 = r := ⟨_, rfl⟩
  have g6 := Sp.stepT_le (ok := o5) (e := 10) g5
  have n6 := fun J m => hnum J m p5 g5 o5 10
  rw [h6] at g6
  simp only [h6] at n6
  have hone := Sp.hdr_steps h1 h2 h3 h4 h5 h6
  clear h1 h2 h3 h4 h5 h6
  have hbad : o6 = false ∨ v5 < 0 ∨ v6 < 0 → Sp.oneAt b p = .error 2 := fun h => by
    rcases hone with ⟨_, h0⟩ | ⟨h7, h0⟩
    · exact h0
    · rw [h0, if_pos]
      rcases h with h | h
      · rw [h7] at h; cases h
      · exact h
  by_cases hh : o6 = false ∨ v5 < 0 ∨ v6 < 0
  · have hb := hbad hh
    cases o6 with
    | false =>
      repeat' (first
        | (refine m_call (d := 9) hm (by rfl) (by rfl) (by rfl) (by first | exact pm0 | exact pm1_0 | exact pm1_1 | exact pm1_2 | exact pm1_3 | exact pm2_0 | exact pm2_1 | exact pm2_2 | exact pm2_3 | exact pm2_4 | exact pm3_0 | exact pm3_1 | exact pm3_2) (n1 _ (Le.refl _)) ?_; clear hm; rintro _ I1 _ _ ⟨rfl, rfl⟩ hle hm; have hleI1 := hle; try simp only [setn] at hm)
        | (refine m_call (d := 11) hm (by rfl) (by rfl) (by rfl) (by first | exact pm0 | exact pm1_0 | exact pm1_1 | exact pm1_2 | exact pm1_3 | exact pm2_0 | exact pm2_1 | exact pm2_2 | exact pm2_3 | exact pm2_4 | exact pm3_0 | exact pm3_1 | exact pm3_2) (n2 _ hleI1) ?_; clear hm; rintro _ I2 _ _ ⟨rfl, rfl⟩ hle hm; have hleI2 := hle; try simp only [setn] at hm)
        | (refine m_call (d := 13) hm (by rfl) (by rfl) (by rfl) (by first | exact pm0 | exact pm1_0 | exact pm1_1 | exact pm1_2 | exact pm1_3 | exact pm2_0 | exact pm2_1 | exact pm2_2 | exact pm2_3 | exact pm2_4 | exact pm3_0 | exact pm3_1 | exact pm3_2) (n3 _ (hleI1.trans hleI2)) ?_; clear hm; rintro _ I3 _ _ ⟨rfl, rfl⟩ hle hm; have hleI3 := hle; try simp only [setn] at hm)
        | (refine m_call (d := 15) hm (by rfl) (by rfl) (by rfl) (by first | exact pm0 | exact pm1_0 | exact pm1_1 | exact pm1_2 | exact pm1_3 | exact pm2_0 | exact pm2_1 | exact pm2_2 | exact pm2_3 | exact pm2_4 | exact pm3_0 | exact pm3_1 | exact pm3_2) (n4 _ ((hleI1.trans hleI2).trans hleI3)) ?_; clear hm; rintro _ I4 _ _ ⟨rfl, rfl⟩ hle hm; have hleI4 := hle; try simp only [setn] at hm)
        | (refine m_call (d := 21) hm (by rfl) (by rfl) (by rfl) (by first | exact pm0 | exact pm1_0 | exact pm1_1 | exact pm1_2 | exact pm1_3 | exact pm2_0 | exact pm2_1 | exact pm2_2 | exact pm2_3 | exact pm2_4 | exact pm3_0 | exact pm3_1 | exact pm3_2) (n5 _ (((hleI1.trans hleI2).trans hleI3).trans hleI4)) ?_; clear hm; rintro _ I5 _ _ ⟨rfl, rfl⟩ hle hm; have hleI5 := hle; try simp only [setn] at hm)
        | (refine m_call (d := 23) hm (by rfl) (by rfl) (by rfl) (by first | exact pm0 | exact pm1_0 | exact pm1_1 | exact pm1_2 | exact pm1_3 | exact pm2_0 | exact pm2_1 | exact pm2_2 | exact pm2_3 | exact pm2_4 | exact pm3_0 | exact pm3_1 | exact pm3_2) (n6 _ ((((hleI1.trans hleI2).trans hleI3).trans hleI4).trans hleI5)) ?_; clear hm; rintro _ I6 _ _ ⟨rfl, rfl⟩ hle hm; have hleI6 := hle; try simp only [setn] at hm)
        | (refine m_allocS (d := 2) hm (by rfl) (by rfl) ?_; clear hm; intro b2 _ hm)
        | (refine m_allocS (d := 4) hm (by rfl) (by rfl) ?_; clear hm; intro b4 _ hm)
        | refine m_load1 hm (by rfl) (by rfl) (by rfl) (by first | exact gt0 | exact gt1 | exact gt2 | exact gt3 | exact gt4 | exact gt5 | exact gt6) (by rfl) ?_
        | refine m_loadAll hm (by rfl) (by rfl) (by rfl) (by first | exact gt0 | exact gt1 | exact gt2 | exact gt3 | exact gt4 | exact gt5 | exact gt6) (by rfl) ?_
        | (refine m_storeAll hm (by rfl) (by rfl) (by rfl) (by rfl) (by first | exact gt0 | exact gt1 | exact gt2 | exact gt3 | exact gt4 | exact gt5 | exact gt6) (by rfl) (by rfl) (by rfl) ?_; clear hm; intro _ hm; try simp only [setn] at hm)
        | (refine m_store1 hm (by rfl) (by rfl) (by rfl) (by rfl) (by first | exact gt0 | exact gt1 | exact gt2 | exact gt3 | exact gt4 | exact gt5 | exact gt6) (by rfl) (by rfl) (by rfl) ?_; clear hm; intro _ hm; try simp only [setn] at hm)
        | refine m_ret2_agg hm (by rfl) (by rfl) (by rfl) (by first | exact gt0 | exact gt1 | exact gt2 | exact gt3 | exact gt4 | exact gt5 | exact gt6) (by rfl) ?_
        | refine op_move (by rfl) (by rfl) (by rfl) ?_
        | refine op_assign (by rfl) (by rfl) (by rfl) ?_
        | refine op_pick_true (by rfl) (by rfl) (by rfl) (by rfl) ?_
        | refine op_not (by rfl) (by rfl) (by rfl) ?_
        | refine op_nilCheck (by rfl) (by rfl) (by rfl) ?_
        | refine op_fieldAddr (by rfl) (by rfl) (by rfl) ?_
        | refine wl_skip (by rfl) (by rfl) (by rfl) ?_
        | refine wl_nil ?_
        | refine at_then_normal ?_
        | refine at_then_ret ?_
        | refine wc_seq ?_
        | refine wc_region ?_
        | refine wc_ret ?_
        | refine wc_cond_true (by rfl) ?_)
      all_goals exact ⟨I6, [rdr br (some ⟨b0, o0, none⟩) b.length cp p6 false], toOne_err (v1 := v1) (v2 := v2) (v3 := v3) (v4 := v4) (s := []) (a := none) (n := 0) (c := 0) hb (by decide), hm.left (H := [rdr br (some ⟨b0, o0, none⟩) b.length cp p6 false])⟩
    | true =>
      replace hh := hh.resolve_left (by simp)
      repeat' (first
        | (refine m_call (d := 9) hm (by rfl) (by rfl) (by rfl) (by first | exact pm0 | exact pm1_0 | exact pm1_1 | exact pm1_2 | exact pm1_3 | exact pm2_0 | exact pm2_1 | exact pm2_2 | exact pm2_3 | exact pm2_4 | exact pm3_0 | exact pm3_1 | exact pm3_2) (n1 _ (Le.refl _)) ?_; clear hm; rintro _ I1 _ _ ⟨rfl, rfl⟩ hle hm; have hleI1 := hle; try simp only [setn] at hm)
        | (refine m_call (d := 11) hm (by rfl) (by rfl) (by rfl) (by first | exact pm0 | exact pm1_0 | exact pm1_1 | exact pm1_2 | exact pm1_3 | exact pm2_0 | exact pm2_1 | exact pm2_2 | exact pm2_3 | exact pm2_4 | exact pm3_0 | exact pm3_1 | exact pm3_2) (n2 _ hleI1) ?_; clear hm; rintro _ I2 _ _ ⟨rfl, rfl⟩ hle hm; have hleI2 := hle; try simp only [setn] at hm)
        | (refine m_call (d := 13) hm (by rfl) (by rfl) (by rfl) (by first | exact pm0 | exact pm1_0 | exact pm1_1 | exact pm1_2 | exact pm1_3 | exact pm2_0 | exact pm2_1 | exact pm2_2 | exact pm2_3 | exact pm2_4 | exact pm3_0 | exact pm3_1 | exact pm3_2) (n3 _ (hleI1.trans hleI2)) ?_; clear hm; rintro _ I3 _ _ ⟨rfl, rfl⟩ hle hm; have hleI3 := hle; try simp only [setn] at hm)
        | (refine m_call (d := 15) hm (by rfl) (by rfl) (by rfl) (by first | exact pm0 | exact pm1_0 | exact pm1_1 | exact pm1_2 | exact pm1_3 | exact pm2_0 | exact pm2_1 | exact pm2_2 | exact pm2_3 | exact pm2_4 | exact pm3_0 | exact pm3_1 | exact pm3_2) (n4 _ ((hleI1.trans hleI2).trans hleI3)) ?_; clear hm; rintro _ I4 _ _ ⟨rfl, rfl⟩ hle hm; have hleI4 := hle; try simp only [setn] at hm)
        | (refine m_call (d := 21) hm (by rfl) (by rfl) (by rfl) (by first | exact pm0 | exact pm1_0 | exact pm1_1 | exact pm1_2 | exact pm1_3 | exact pm2_0 | exact pm2_1 | exact pm2_2 | exact pm2_3 | exact pm2_4 | exact pm3_0 | exact pm3_1 | exact pm3_2) (n5 _ (((hleI1.trans hleI2).trans hleI3).trans hleI4)) ?_; clear hm; rintro _ I5 _ _ ⟨rfl, rfl⟩ hle hm; have hleI5 := hle; try simp only [setn] at hm)
        | (refine m_call (d := 23) hm (by rfl) (by rfl) (by rfl) (by first | exact pm0 | exact pm1_0 | exact pm1_1 | exact pm1_2 | exact pm1_3 | exact pm2_0 | exact pm2_1 | exact pm2_2 | exact pm2_3 | exact pm2_4 | exact pm3_0 | exact pm3_1 | exact pm3_2) (n6 _ ((((hleI1.trans hleI2).trans hleI3).trans hleI4).trans hleI5)) ?_; clear hm; rintro _ I6 _ _ ⟨rfl, rfl⟩ hle hm; have hleI6 := hle; try simp only [setn] at hm)
        | (refine m_allocS (d := 2) hm (by rfl) (by rfl) ?_; clear hm; intro b2 _ hm)
        | (refine m_allocS (d := 4) hm (by rfl) (by rfl) ?_; clear hm; intro b4 _ hm)
        | refine m_load1 hm (by rfl) (by rfl) (by rfl) (by first | exact gt0 | exact gt1 | exact gt2 | exact gt3 | exact gt4 | exact gt5 | exact gt6) (by rfl) ?_
        | refine m_loadAll hm (by rfl) (by rfl) (by rfl) (by first | exact gt0 | exact gt1 | exact gt2 | exact gt3 | exact gt4 | exact gt5 | exact gt6) (by rfl) ?_
        | (refine m_storeAll hm (by rfl) (by rfl) (by rfl) (by rfl) (by first | exact gt0 | exact gt1 | exact gt2 | exact gt3 | exact gt4 | exact gt5 | exact gt6) (by rfl) (by rfl) (by rfl) ?_; clear hm; intro _ hm; try simp only [setn] at hm)
        | (refine m_store1 hm (by rfl) (by rfl) (by rfl) (by rfl) (by first | exact gt0 | exact gt1 | exact gt2 | exact gt3 | exact gt4 | exact gt5 | exact gt6) (by rfl) (by rfl) (by rfl) ?_; clear hm; intro _ hm; try simp only [setn] at hm)
        | refine m_ret2_agg hm (by rfl) (by rfl) (by rfl) (by first | exact gt0 | exact gt1 | exact gt2 | exact gt3 | exact gt4 | exact gt5 | exact gt6) (by rfl) ?_
        | refine op_move (by rfl) (by rfl) (by rfl) ?_
        | refine op_assign (by rfl) (by rfl) (by rfl) ?_
        | refine op_pick_true (by rfl) (by rfl) (by rfl) (by rfl) ?_
        | refine op_pick_false (by rfl) (by rfl) (by rfl) (by rfl) ?_
        | refine op_lss (by rfl) (by rfl) (by rfl) (by rfl) ?_
        | refine op_not (by rfl) (by rfl) (by rfl) ?_
        | refine op_nilCheck (by rfl) (by rfl) (by rfl) ?_
        | refine op_fieldAddr (by rfl) (by rfl) (by rfl) ?_
        | refine wl_skip (by rfl) (by rfl) (by rfl) ?_
        | (refine wl_split_dec (by rfl) (by rfl) (by rfl) (fun _ => ?_) (fun _ => ?_) <;> (try first | contradiction | (exfalso; omega)))
        | refine wl_nil ?_
        | refine at_then_normal ?_
        | refine at_then_ret ?_
        | refine wc_seq ?_
        | refine wc_region ?_
        | refine wc_ret ?_
        | refine wc_cond_true (by rfl) ?_
        | (refine wc_cond_dec (by rfl) (fun _ => ?_) (fun _ => ?_) <;> (try first | contradiction | (exfalso; omega))))
      all_goals try (exfalso; omega)
      all_goals exact ⟨I6, [rdr br (some ⟨b0, o0, none⟩) b.length cp p6 true], toOne_err (v1 := v1) (v2 := v2) (v3 := v3) (v4 := v4) (s := []) (a := none) (n := 0) (c := 0) hb (by decide), hm.left (H := [rdr br (some ⟨b0, o0, none⟩) b.length cp p6 true])⟩
  · obtain rfl : o6 = true := by cases o6 with
      | true => rfl
      | false => exact absurd (.inl rfl) hh
    obtain ⟨z, rfl⟩ := Int.eq_ofNat_of_zero_le (show 0 ≤ v6 by omega)
    obtain ⟨nz, rfl⟩ := Int.eq_ofNat_of_zero_le (show 0 ≤ v5 by omega)
    replace hone := (hone.resolve_left (fun h => by cases h.1)).2
    rw [if_neg (by omega)] at hone
    rw [Int.toNat_natCast, Int.toNat_natCast] at hone
    repeat' (first
      | (refine m_call (d := 9) hm (by rfl) (by rfl) (by rfl) (by first | exact pm0 | exact pm1_0 | exact pm1_1 | exact pm1_2 | exact pm1_3 | exact pm2_0 | exact pm2_1 | exact pm2_2 | exact pm2_3 | exact pm2_4 | exact pm3_0 | exact pm3_1 | exact pm3_2) (n1 _ (Le.refl _)) ?_; clear hm; rintro _ I1 _ _ ⟨rfl, rfl⟩ hle hm; have hleI1 := hle; try simp only [setn] at hm)
      | (refine m_call (d := 11) hm (by rfl) (by rfl) (by rfl) (by first | exact pm0 | exact pm1_0 | exact pm1_1 | exact pm1_2 | exact pm1_3 | exact pm2_0 | exact pm2_1 | exact pm2_2 | exact pm2_3 | exact pm2_4 | exact pm3_0 | exact pm3_1 | exact pm3_2) (n2 _ hleI1) ?_; clear hm; rintro _ I2 _ _ ⟨rfl, rfl⟩ hle hm; have hleI2 := hle; try simp only [setn] at hm)
      | (refine m_call (d := 13) hm (by rfl) (by rfl) (by rfl) (by first | exact pm0 | exact pm1_0 | exact pm1_1 | exact pm1_2 | exact pm1_3 | exact pm2_0 | exact pm2_1 | exact pm2_2 | exact pm2_3 | exact pm2_4 | exact pm3_0 | exact pm3_1 | exact pm3_2) (n3 _ (hleI1.trans hleI2)) ?_; clear hm; rintro _ I3 _ _ ⟨rfl, rfl⟩ hle hm; have hleI3 := hle; try simp only [setn] at hm)
      | (refine m_call (d := 15) hm (by rfl) (by rfl) (by rfl) (by first | exact pm0 | exact pm1_0 | exact pm1_1 | exact pm1_2 | exact pm1_3 | exact pm2_0 | exact pm2_1 | exact pm2_2 | exact pm2_3 | exact pm2_4 | exact pm3_0 | exact pm3_1 | exact pm3_2) (n4 _ ((hleI1.trans hleI2).trans hleI3)) ?_; clear hm; rintro _ I4 _ _ ⟨rfl, rfl⟩ hle hm; have hleI4 := hle; try simp only [setn] at hm)
      | (refine m_call (d := 21) hm (by rfl) (by rfl) (by rfl) (by first | exact pm0 | exact pm1_0 | exact pm1_1 | exact pm1_2 | exact pm1_3 | exact pm2_0 | exact pm2_1 | exact pm2_2 | exact pm2_3 | exact pm2_4 | exact pm3_0 | exact pm3_1 | exact pm3_2) (n5 _ (((hleI1.trans hleI2).trans hleI3).trans hleI4)) ?_; clear hm; rintro _ I5 _ _ ⟨rfl, rfl⟩ hle hm; have hleI5 := hle; try simp only [setn] at hm)
      | (refine m_call (d := 23) hm (by rfl) (by rfl) (by rfl) (by first | exact pm0 | exact pm1_0 | exact pm1_1 | exact pm1_2 | exact pm1_3 | exact pm2_0 | exact pm2_1 | exact pm2_2 | exact pm2_3 | exact pm2_4 | exact pm3_0 | exact pm3_1 | exact pm3_2) (n6 _ ((((hleI1.trans hleI2).trans hleI3).trans hleI4).trans hleI5)) ?_; clear hm; rintro _ I6 _ _ ⟨rfl, rfl⟩ hle hm; have hleI6 := hle; try simp only [setn] at hm)
      | (refine op_min (by rfl) (by rfl) (by rfl) (by rfl) ?_)
      | (refine m_allocS (d := 2) hm (by rfl) (by rfl) ?_; clear hm; intro b2 _ hm)
      | (refine m_allocS (d := 4) hm (by rfl) (by rfl) ?_; clear hm; intro b4 _ hm)
      | refine m_load1 hm (by rfl) (by rfl) (by rfl) (by first | exact gt0 | exact gt1 | exact gt2 | exact gt3 | exact gt4 | exact gt5 | exact gt6) (by rfl) ?_
      | (refine m_store1 hm (by rfl) (by rfl) (by rfl) (by rfl) (by first | exact gt0 | exact gt1 | exact gt2 | exact gt3 | exact gt4 | exact gt5 | exact gt6) (by rfl) (by rfl) (by rfl) ?_; clear hm; intro _ hm; try simp only [setn] at hm)
      | refine op_move (by rfl) (by rfl) (by rfl) ?_
      | refine op_assign (by rfl) (by rfl) (by rfl) ?_
      | refine op_pick_false (by rfl) (by rfl) (by rfl) (by rfl) ?_
      | refine op_lss (by rfl) (by rfl) (by rfl) (by rfl) ?_
      | refine op_not (by rfl) (by rfl) (by rfl) ?_
      | refine op_nilCheck (by rfl) (by rfl) (by rfl) ?_
      | refine op_fieldAddr (by rfl) (by rfl) (by rfl) ?_
      | refine wl_nil ?_
      | refine at_then_normal ?_
      | refine wc_seq ?_
      | refine wc_region ?_
      | refine wc_block ?_
      | refine wc_skip ?_
      | refine wc_cond_false (by rfl) ?_)
    all_goals try (exfalso; omega)
    have hle6 : Le I I6 := ((((hleI1.trans hleI2).trans hleI3).trans hleI4).trans hleI5).trans hleI6
    refine wc_loop (fun x : AskL => [(0, ptr br), (6, nt z), (4, ptr b4), (2, ptr b2), (39, .int .i64 (min (nz : Int) 6)), (40, nt x.us.length)])
      (fun x w' => Mem E x.I [rdr br (some ⟨b0, o0, none⟩) b.length cp x.q x.o, .row (.slice x.a x.us.length x.cp) 3 1 x.us.length (x.us.flatMap encZ), askO b4 v1 v2 v3 v4 [] x.a x.us.length x.cp, askO b2 0 0 0 0 [] none 0 0] w' ∧ Le I x.I ∧
        Sp.numsT b (List.replicate x.us.length 10) p6 true = (x.us, x.q, x.o) ∧ x.us.length ≤ min nz 6 ∧ x.q ≤ b.length) (fun x => 6 - x.us.length) ⟨[], p6, true, I6, none, 0⟩
      (by exact ⟨rfl, rfl, rfl, rfl, rfl, rfl, trivial⟩) ⟨(hm.nil 3 1).swap, hle6, rfl, Nat.zero_le _, g6⟩ ?_
    clear hm
    rintro ⟨us, q, o, I7, a, ac⟩ w1 ⟨hm, hle7, hN, hus, hq⟩
    dsimp only at hm hle7 hN hus hq ⊢
    by_cases hlt : us.length < min nz 6
    · obtain ⟨⟨v, q', o'⟩, hs⟩ : ∃ r, Sp.stepT b q o 10 = r := ⟨_, rfl⟩
      have gq := Sp.stepT_le (ok := o) (e := 10) hq
      have nq := hnum I7 hle7 q hq o 10
      rw [hs] at gq
      simp only [hs] at nq
      have hN2 := Sp.numsT_snoc b (List.replicate us.length 10) 10 p6 true
      rw [hN] at hN2
      dsimp only at hN2
      rw [hs, ← List.replicate_succ'] at hN2
      repeat' (first
        | (refine wc_semi_mem (id := 8) (hm.perm pm2_0) 3 6 (by kernel_rfl) ?_; clear hm; intro wd hR hm)
        | (refine mt_call (d := 45) hm (by rfl) (by rfl) (by rfl) (by first | exact pm0 | exact pm1_0 | exact pm1_1 | exact pm1_2 | exact pm1_3 | exact pm2_0 | exact pm2_1 | exact pm2_2 | exact pm2_3 | exact pm2_4 | exact pm3_0 | exact pm3_1 | exact pm3_2) (nq) ?_; clear hm; rintro _ I8 _ _ ⟨rfl, rfl⟩ hle hm; have hleI8 := hle; try simp only [setn] at hm)
        | refine mw_load1 hR (by rfl) (by rfl) (by rfl) (by first | exact gt0 | exact gt1 | exact gt2 | exact gt3 | exact gt4 | exact gt5 | exact gt6) (by rfl) ?_
        | (refine mt_push (d := 47) hm (by rfl) (by rfl) (by rfl) (by rfl) (by rfl) (by first | exact gt0 | exact gt1 | exact gt2 | exact gt3 | exact gt4 | exact gt5 | exact gt6) (by rfl) (by rfl) (by rfl) (by rfl) (by omega) (by omega) ?_; clear hm; intro a47 cp47 _ _ hm; replace hm := hR.back hm; clear hR; try simp only [setn] at hm)
        | (refine m_store1 hm (by rfl) (by rfl) (by rfl) (by rfl) (by first | exact gt0 | exact gt1 | exact gt2 | exact gt3 | exact gt4 | exact gt5 | exact gt6) (by rfl) (by rfl) (by rfl) ?_; clear hm; intro _ hm; try simp only [setn] at hm)
        | refine op_move (by rfl) (by rfl) (by rfl) ?_
        | refine op_lss (by rfl) (by rfl) (by rfl) (by rfl) ?_
        | refine op_add (by rfl) (by rfl) (by rfl) (by rfl) (by omega) ?_
        | refine op_fieldAddr (by rfl) (by rfl) (by rfl) ?_
        | refine wl_nil ?_
        | refine at_then_normal ?_
        | refine at_block_normal ?_
        | refine wc_seq ?_
        | refine wc_region ?_
        | refine wc_block ?_
        | refine wc_skip ?_
        | (refine wc_cond_dec (by rfl) (fun _ => ?_) (fun _ => ?_) <;> (try first | contradiction | (exfalso; omega)))
        | refine v_move (by rfl) (by rfl) (by rfl) ?_
        | refine v_fieldAddr (by rfl) (by rfl) (by rfl) ?_
        | refine wv_nil ?_)
      all_goals try (exfalso; omega)
      dsimp only at hN2
      have hl1 : (us ++ [v]).length = us.length + 1 := by rw [List.length_append, List.length_singleton]
      refine at_round (⟨us ++ [v], q', o', I8, a47, cp47⟩ : AskL) (by exact ⟨rfl, rfl, rfl, rfl, rfl, by rw [hl1]; rfl, trivial⟩) ⟨?_, hle7.trans hleI8, by dsimp only; rw [hl1]; exact hN2, by dsimp only; omega, gq⟩ (by dsimp only; omega)
      dsimp only
      rw [hl1, List.flatMap_append]
      exact hm
    · have hj : us.length = min nz 6 := by omega
      rw [← hj] at hone
      have hM : (o = false ∧ Sp.numsAt b (List.replicate us.length 10) p6 = none) ∨ (o = true ∧ Sp.numsAt b (List.replicate us.length 10) p6 = some (us, q)) := by
        cases hn : Sp.numsAt b (List.replicate us.length 10) p6 with
        | none =>
          have := Sp.numsT_none b _ _ hn
          rw [hN] at this
          exact .inl ⟨this, rfl⟩
        | some r =>
          have h7 := Sp.numsT_some b _ _ r hn
          rw [hN] at h7
          injection h7 with e1 e2
          injection e2 with e2 e3
          exact .inr ⟨e3, by rw [e1, e2]⟩
      have hout : ∀ (e : Nat) (s : List UInt8), Sp.oneAt b p = .error e → e ≠ 0 → ∀ w' b', Mem E I7 [rdr br (some ⟨b0, o0, none⟩) b.length cp q o, .row (.slice a us.length ac) 3 1 us.length (us.flatMap encZ), askO b4 v1 v2 v3 v4 s a us.length ac, askO b' v1 v2 v3 v4 s a us.length ac] w' →
          ∃ I' H', ToOne b br (some ⟨b0, o0, none⟩) cp p (.tuple #[.agg (askV v1 v2 v3 v4 s a us.length ac).toArray, nt e]) I' H' ∧ Mem E I' H' w' := fun e s h1 h2 w' b' hm =>
        ⟨I7, [rdr br (some ⟨b0, o0, none⟩) b.length cp q o], toOne_err h1 h2, hm.left (H := [rdr br (some ⟨b0, o0, none⟩) b.length cp q o])⟩
      rcases hM with ⟨rfl, hM⟩ | ⟨rfl, hM⟩
      · rw [hM] at hone
        dsimp only at hone
        repeat' (first
          | refine m_loadAll hm (by rfl) (by rfl) (by rfl) (by first | exact gt0 | exact gt1 | exact gt2 | exact gt3 | exact gt4 | exact gt5 | exact gt6) (by rfl) ?_
          | refine mq_load1 hm (by rfl) (by rfl) (by rfl) (by first | exact gt0 | exact gt1 | exact gt2 | exact gt3 | exact gt4 | exact gt5 | exact gt6) (by rfl) ?_
          | (refine m_storeAll hm (by rfl) (by rfl) (by rfl) (by rfl) (by first | exact gt0 | exact gt1 | exact gt2 | exact gt3 | exact gt4 | exact gt5 | exact gt6) (by rfl) (by rfl) (by rfl) ?_; clear hm; intro _ hm; try simp only [setn] at hm)
          | refine m_ret2_agg hm (by rfl) (by rfl) (by rfl) (by first | exact gt0 | exact gt1 | exact gt2 | exact gt3 | exact gt4 | exact gt5 | exact gt6) (by rfl) ?_
          | refine op_assign (by rfl) (by rfl) (by rfl) ?_
          | refine op_lss (by rfl) (by rfl) (by rfl) (by rfl) ?_
          | refine wl_nil ?_
          | refine at_then_normal ?_
          | refine at_then_ret ?_
          | refine at_then_exit ?_
          | refine at_block_exit ?_
          | refine wc_seq ?_
          | refine wc_region ?_
          | refine wc_exit ?_
          | refine wc_ret ?_
          | refine wc_quiet (by kernel_rfl) ?_
          | (refine wq_nil ?_; intro _ hkq; replace hm := hm.kept0 hkq; clear hkq)
          | refine wc_cond_true (by rfl) ?_
          | (refine wc_cond_dec (by rfl) (fun _ => ?_) (fun _ => ?_) <;> (try first | contradiction | (exfalso; omega)))
          | refine q_move (by rfl) (by rfl) (by rfl) ?_
          | refine q_pick_true (by rfl) (by rfl) (by rfl) (by rfl) ?_
          | refine q_not (by rfl) (by rfl) (by rfl) ?_
          | refine q_nilCheck (by rfl) (by rfl) (by rfl) ?_
          | refine q_fieldAddr (by rfl) (by rfl) (by rfl) ?_
          | refine wq_skip (by rfl) (by rfl) (by rfl) ?_)
        all_goals exact hout 2 [] hone (by decide) _ _ hm
      · rw [hM] at hone
        dsimp only at hone
        by_cases hz : (z : Int) > (b.length : Int) - q
        · rw [if_pos hz] at hone
          repeat' (first
            | refine m_loadAll hm (by rfl) (by rfl) (by rfl) (by first | exact gt0 | exact gt1 | exact gt2 | exact gt3 | exact gt4 | exact gt5 | exact gt6) (by rfl) ?_
            | refine mq_load1 hm (by rfl) (by rfl) (by rfl) (by first | exact gt0 | exact gt1 | exact gt2 | exact gt3 | exact gt4 | exact gt5 | exact gt6) (by rfl) ?_
            | (refine m_storeAll hm (by rfl) (by rfl) (by rfl) (by rfl) (by first | exact gt0 | exact gt1 | exact gt2 | exact gt3 | exact gt4 | exact gt5 | exact gt6) (by rfl) (by rfl) (by rfl) ?_; clear hm; intro _ hm; try simp only [setn] at hm)
            | refine m_ret2_agg hm (by rfl) (by rfl) (by rfl) (by first | exact gt0 | exact gt1 | exact gt2 | exact gt3 | exact gt4 | exact gt5 | exact gt6) (by rfl) ?_
            | refine op_assign (by rfl) (by rfl) (by rfl) ?_
            | refine op_lss (by rfl) (by rfl) (by rfl) (by rfl) ?_
            | refine wl_nil ?_
            | refine at_then_normal ?_
            | refine at_then_ret ?_
            | refine at_then_exit ?_
            | refine at_block_exit ?_
            | refine wc_seq ?_
            | refine wc_region ?_
            | refine wc_exit ?_
            | refine wc_ret ?_
            | refine wc_quiet (by kernel_rfl) ?_
            | (refine wq_nil ?_; intro _ hkq; replace hm := hm.kept0 hkq; clear hkq)
            | (refine wc_cond_dec (by rfl) (fun _ => ?_) (fun _ => ?_) <;> (try first | contradiction | (exfalso; omega)))
            | refine q_move (by rfl) (by rfl) (by rfl) ?_
            | refine q_pick_false (by rfl) (by rfl) (by rfl) (by rfl) ?_
            | refine q_gtr (by rfl) (by rfl) (by rfl) (by rfl) ?_
            | refine q_len_slice (by rfl) (by rfl) (by rfl) ?_
            | refine q_not (by rfl) (by rfl) (by rfl) ?_
            | refine q_nilCheck (by rfl) (by rfl) (by rfl) ?_
            | refine q_sub (by rfl) (by rfl) (by rfl) (by rfl) (by omega) ?_
            | refine q_fieldAddr (by rfl) (by rfl) (by rfl) ?_)
          all_goals try (exfalso; omega)
          all_goals exact hout 2 [] hone (by decide) _ _ hm
        · rw [if_neg hz] at hone
          have hwr := fr_wrong ⟨v1, v2, v3, v4, (b.drop q).take z, us⟩ a ac
          have hrs : ((b.flatMap encB).drop (q * 1)).take ((q + z - q) * 1) = ((b.drop q).take z).map byteV := by
            rw [flat_sing byteV b, Nat.mul_one, Nat.mul_one, ← List.map_drop, ← List.map_take, show q + z - q = z by omega]
          have htl : ((b.drop q).take z).length = q + z - q := by rw [List.length_take, List.length_drop]; omega
          generalize (b.drop q).take z = tx at hone hwr hrs htl
          have hr7 := hr.le hle7
          by_cases hq0 : Sp.qErr ⟨v1, v2, v3, v4, tx, us⟩ = 0
          · rw [if_neg (by omega)] at hone
            rw [hq0] at hwr
            repeat' (first
              | (refine wc_quiet_tail (id := 12) 16 (by kernel_rfl) ?_)
              | (refine iq_sliceFT (d := 84) (p := q) (q := q + z) hr7 (by rfl) (by rfl) (by rfl) (by rfl) (by rfl) (by omega) (by omega) ?_; intro o84 h84; rw [hrs] at h84)
              | (refine iq_bytesStr (d := 85) hm (by rfl) (by rfl) (by rfl) h84 (by omega) ?_)
              | (refine m_readC (d := 88) hm (by rfl) (by rfl) (by rfl) (by first | exact sub_nil | exact sub1_0 | exact sub1_1 | exact sub1_2 | exact sub1_3 | exact sub2_0 | exact sub2_1 | exact sub2_2 | exact sub2_3 | exact sub2_4) (hwr I7) ?_; clear hm; intro _ hm)
              | refine m_load1 hm (by rfl) (by rfl) (by rfl) (by first | exact gt0 | exact gt1 | exact gt2 | exact gt3 | exact gt4 | exact gt5 | exact gt6) (by rfl) ?_
              | refine m_loadAll hm (by rfl) (by rfl) (by rfl) (by first | exact gt0 | exact gt1 | exact gt2 | exact gt3 | exact gt4 | exact gt5 | exact gt6) (by rfl) ?_
              | refine mq_load1 hm (by rfl) (by rfl) (by rfl) (by first | exact gt0 | exact gt1 | exact gt2 | exact gt3 | exact gt4 | exact gt5 | exact gt6) (by rfl) ?_
              | (refine m_storeAll hm (by rfl) (by rfl) (by rfl) (by rfl) (by first | exact gt0 | exact gt1 | exact gt2 | exact gt3 | exact gt4 | exact gt5 | exact gt6) (by rfl) (by rfl) (by rfl) ?_; clear hm; intro _ hm; try simp only [setn] at hm)
              | (refine m_store1 hm (by rfl) (by rfl) (by rfl) (by rfl) (by first | exact gt0 | exact gt1 | exact gt2 | exact gt3 | exact gt4 | exact gt5 | exact gt6) (by rfl) (by rfl) (by rfl) ?_; clear hm; intro _ hm; try simp only [setn] at hm)
              | refine m_ret2_agg hm (by rfl) (by rfl) (by rfl) (by first | exact gt0 | exact gt1 | exact gt2 | exact gt3 | exact gt4 | exact gt5 | exact gt6) (by rfl) ?_
              | refine op_move (by rfl) (by rfl) (by rfl) ?_
              | refine op_assign (by rfl) (by rfl) (by rfl) ?_
              | refine op_lss (by rfl) (by rfl) (by rfl) (by rfl) ?_
              | refine op_neq (by rfl) (by rfl) (by rfl) (by rfl) ?_
              | refine op_nilCheck (by rfl) (by rfl) (by rfl) ?_
              | refine op_add (by rfl) (by rfl) (by rfl) (by rfl) (by omega) ?_
              | refine op_fieldAddr (by rfl) (by rfl) (by rfl) ?_
              | refine wl_nil ?_
              | refine at_then_normal ?_
              | refine at_then_exit ?_
              | refine at_block_exit ?_
              | refine wc_seq ?_
              | refine wc_region ?_
              | refine wc_skip ?_
              | refine wc_exit ?_
              | refine wc_ret ?_
              | refine wc_quiet (by kernel_rfl) ?_
              | (refine wq_nil ?_; intro _ hkq; replace hm := hm.kept0 hkq; clear hkq)
              | (refine wq_nil_tail ?_; intro _ hkq; replace hm := hm.kept0 hkq; clear hkq)
              | refine wc_cond_false (by rfl) ?_
              | (refine wc_cond_dec (by rfl) (fun _ => ?_) (fun _ => ?_) <;> (try first | contradiction | (exfalso; omega)))
              | refine q_move (by rfl) (by rfl) (by rfl) ?_
              | refine q_pick_false (by rfl) (by rfl) (by rfl) (by rfl) ?_
              | refine q_gtr (by rfl) (by rfl) (by rfl) (by rfl) ?_
              | refine q_len_slice (by rfl) (by rfl) (by rfl) ?_
              | refine q_not (by rfl) (by rfl) (by rfl) ?_
              | refine q_nilCheck (by rfl) (by rfl) (by rfl) ?_
              | refine q_add (by rfl) (by rfl) (by rfl) (by rfl) (by omega) ?_
              | refine q_sub (by rfl) (by rfl) (by rfl) (by rfl) (by omega) ?_
              | refine q_fieldAddr (by rfl) (by rfl) (by rfl) ?_)
            all_goals try (exfalso; omega)
            obtain ⟨I8, hle8, hm8, hrow⟩ := hm.swap.freeze
            exact ⟨I8, [rdr br (some ⟨b0, o0, none⟩) b.length cp (q + z) true], ⟨v1, v2, v3, v4, tx, a, us.length, ac, q + z, true, rfl, by rw [hone]; exact ⟨rfl, ⟨a, ac, rfl, hrow⟩, rfl, rfl⟩⟩, hm8.left (H := [rdr br (some ⟨b0, o0, none⟩) b.length cp (q + z) true])⟩
          · rw [if_pos hq0] at hone
            repeat' (first
              | (refine wc_quiet_tail (id := 12) 16 (by kernel_rfl) ?_)
              | (refine iq_sliceFT (d := 84) (p := q) (q := q + z) hr7 (by rfl) (by rfl) (by rfl) (by rfl) (by rfl) (by omega) (by omega) ?_; intro o84 h84; rw [hrs] at h84)
              | (refine iq_bytesStr (d := 85) hm (by rfl) (by rfl) (by rfl) h84 (by omega) ?_)
              | (refine m_readC (d := 88) hm (by rfl) (by rfl) (by rfl) (by first | exact sub_nil | exact sub1_0 | exact sub1_1 | exact sub1_2 | exact sub1_3 | exact sub2_0 | exact sub2_1 | exact sub2_2 | exact sub2_3 | exact sub2_4) (hwr I7) ?_; clear hm; intro _ hm)
              | refine m_loadAll hm (by rfl) (by rfl) (by rfl) (by first | exact gt0 | exact gt1 | exact gt2 | exact gt3 | exact gt4 | exact gt5 | exact gt6) (by rfl) ?_
              | refine mq_load1 hm (by rfl) (by rfl) (by rfl) (by first | exact gt0 | exact gt1 | exact gt2 | exact gt3 | exact gt4 | exact gt5 | exact gt6) (by rfl) ?_
              | (refine m_storeAll hm (by rfl) (by rfl) (by rfl) (by rfl) (by first | exact gt0 | exact gt1 | exact gt2 | exact gt3 | exact gt4 | exact gt5 | exact gt6) (by rfl) (by rfl) (by rfl) ?_; clear hm; intro _ hm; try simp only [setn] at hm)
              | (refine m_store1 hm (by rfl) (by rfl) (by rfl) (by rfl) (by first | exact gt0 | exact gt1 | exact gt2 | exact gt3 | exact gt4 | exact gt5 | exact gt6) (by rfl) (by rfl) (by rfl) ?_; clear hm; intro _ hm; try simp only [setn] at hm)
              | refine m_ret2_agg hm (by rfl) (by rfl) (by rfl) (by first | exact gt0 | exact gt1 | exact gt2 | exact gt3 | exact gt4 | exact gt5 | exact gt6) (by rfl) ?_
              | refine op_move (by rfl) (by rfl) (by rfl) ?_
              | refine op_assign (by rfl) (by rfl) (by rfl) ?_
              | refine op_lss (by rfl) (by rfl) (by rfl) (by rfl) ?_
              | refine op_neq (by rfl) (by rfl) (by rfl) (by rfl) ?_
              | refine op_fieldAddr (by rfl) (by rfl) (by rfl) ?_
              | refine wl_nil ?_
              | refine at_then_normal ?_
              | refine at_then_ret ?_
              | refine at_then_exit ?_
              | refine at_block_exit ?_
              | refine wc_seq ?_
              | refine wc_region ?_
              | refine wc_skip ?_
              | refine wc_exit ?_
              | refine wc_ret ?_
              | refine wc_quiet (by kernel_rfl) ?_
              | (refine wq_nil ?_; intro _ hkq; replace hm := hm.kept0 hkq; clear hkq)
              | (refine wq_nil_tail ?_; intro _ hkq; replace hm := hm.kept0 hkq; clear hkq)
              | (refine wc_cond_dec (by rfl) (fun _ => ?_) (fun _ => ?_) <;> (try first | contradiction | (exfalso; omega)))
              | refine q_move (by rfl) (by rfl) (by rfl) ?_
              | refine q_pick_false (by rfl) (by rfl) (by rfl) (by rfl) ?_
              | refine q_gtr (by rfl) (by rfl) (by rfl) (by rfl) ?_
              | refine q_len_slice (by rfl) (by rfl) (by rfl) ?_
              | refine q_not (by rfl) (by rfl) (by rfl) ?_
              | refine q_nilCheck (by rfl) (by rfl) (by rfl) ?_
              | refine q_add (by rfl) (by rfl) (by rfl) (by rfl) (by omega) ?_
              | refine q_sub (by rfl) (by rfl) (by rfl) (by rfl) (by omega) ?_
              | refine q_fieldAddr (by rfl) (by rfl) (by rfl) ?_)
            all_goals try (exfalso; omega)
            all_goals exact hout _ tx hone hq0 _ _ hm
end Go.Proofs.YtkbiakajlfmakaaDoor
end
section
namespace Go.Sp
def exMap {ε α β : Type} (f : α → β) : Except ε α → Except ε β
  | .error e => .error e
  | .ok a => .ok (f a)
theorem asksF_at {b : List UInt8} {p : Nat} (h : p < b.length) : asksF b (b.length - p) p = match oneAt b p with
    | .error e => .error (e, p)
    | .ok (a, q) => exMap (a :: ·) (asksF b (b.length - q) q) := by
  obtain ⟨m, hm⟩ : ∃ m, b.length - p = m + 1 := ⟨b.length - p - 1, by omega⟩
  rw [hm, asksF, if_pos h]
  cases ho : oneAt b p with
  | error e => rfl
  | ok r =>
    obtain ⟨a, q⟩ := r
    obtain ⟨h1, h2⟩ := oneAt_le (by omega) ho
    dsimp only
    rw [asksF_fuel b m (b.length - q) q h2 (by omega) (by omega)]
    cases asksF b (b.length - q) q <;> rfl
theorem asksF_out {b : List UInt8} {p : Nat} (h : b.length ≤ p) : asksF b (b.length - p) p = .ok [] := by
  rw [show b.length - p = 0 by omega]; rfl
end Go.Sp
namespace Go.Fw
open Go
theorem results_cell2b {P : Program} {fn : Func} {t u : Nat} {tc : TypeId} (h : fn.results = #[.tmp u, .cell t tc]) (tmps : Array Value) (w : World) {b off : Nat} {v x : Value} (ht : tmps[t]? = some (.pointer (some ⟨b, off, none⟩)))
    (hu : tmps[u]? = some x) (hv : (loadVar tc ⟨b, off, none⟩).run P w = .ok v w) : (results fn tmps).run P w = .ok (.tuple #[x, v]) w := by
  simp [results, h, ht, hu, asAddr, hv]
section
variable {P : Program} {N : Nat} {l : Log} {w : World} {E : Ent} {I : Imm} {H : List HItem}
theorem m_ret2b_agg {fn : Func} {i tr u n b : Nat} {tc : TypeId} [TyAgg P tc n] {c : List Value} {e : TypeId} {fr : Nat × Nat} {xv : Value} {Post : Value → World → Prop} (hm : Mem E I H w) (hr : fn.results = #[.tmp u, .cell tr tc])
    (hx : lk l tr = some (.pointer (some ⟨b, 0, none⟩))) (hu : lk l u = some xv) (hb : H[i]? = some (.obj b (.cells c.toArray e fr))) (hl : c.length = n)
    (h : Post (.tuple #[xv, .agg c.toArray]) w) : At N [] (bodyPost P fn (Ret Post)) .ret l w :=
  ⟨fun a ha => ⟨ha.defs, _, results_cell2b hr a.tmps w (ha.vals tr _ hx) (ha.vals u _ hu) (run_loadAgg (hm.get hb) hl (fun j v hv => by simpa using hv)), h⟩⟩
end
end Go.Fw
namespace Go.Proofs.YtkbiakajlfmakaaDoor
open Go.Fw
/-- questions' cells, one behind the other. -/
def AsksAt (I : Imm) : List Sp.Qn → List Value → Prop
  | [], xs => xs = []
  | q :: qs, xs => ∃ c r, xs = c ++ r ∧ AskAt I q c ∧ AsksAt I qs r
theorem AsksAt.le {I I' : Imm} (m : Le I I') : ∀ {qs : List Sp.Qn} {xs : List Value}, AsksAt I qs xs → AsksAt I' qs xs
  | [], _, h => h
  | _ :: _, _, ⟨c, r, e, h1, h2⟩ => ⟨c, r, e, h1.le m, AsksAt.le m h2⟩
theorem AsksAt.snoc {I : Imm} {q : Sp.Qn} {c : List Value} (hq : AskAt I q c) : ∀ {qs : List Sp.Qn} {xs : List Value}, AsksAt I qs xs → AsksAt I (qs ++ [q]) (xs ++ c)
  | [], xs, h => by
    obtain rfl : xs = [] := h
    exact ⟨c, [], by simp, hq, rfl⟩
  | _ :: _, _, ⟨c', r, e, h1, h2⟩ => ⟨c', r ++ c, by rw [e, List.append_assoc], h1, AsksAt.snoc hq h2⟩
theorem AsksAt.len {I : Imm} : ∀ {qs : List Sp.Qn} {xs : List Value}, AsksAt I qs xs → xs.length = qs.length * 6
  | [], xs, h => by
    obtain rfl : xs = [] := h
    rfl
  | q :: qs, _, ⟨c, r, e, h1, h2⟩ => by
    rw [e, List.length_append, h1.len, h2.len, List.length_cons]; omega
theorem AsksAt.get {I : Imm} : ∀ {qs : List Sp.Qn} {xs : List Value} {i : Nat} {q : Sp.Qn}, AsksAt I qs xs → qs[i]? = some q → AskAt I q ((xs.drop (i * 6)).take 6)
  | [], _, _, _, _, h => by simp at h
  | q :: qs, _, 0, q', ⟨c, r, e, h1, h2⟩, h => by
    simp only [List.getElem?_cons_zero, Option.some.injEq] at h
    subst h
    rw [e, Nat.zero_mul, List.drop_zero, List.take_append_of_le_length (by rw [h1.len]; omega), List.take_of_length_le (by rw [h1.len]; omega)]
    exact h1
  | q :: qs, _, i + 1, q', ⟨c, r, e, h1, h2⟩, h => by
    rw [List.getElem?_cons_succ] at h
    have := AsksAt.get h2 h
    rw [e, List.drop_append, List.drop_eq_nil_of_le (by rw [h1.len]; omega), List.nil_append, h1.len, show (i + 1) * 6 - 6 = i * 6 by omega]
    exact this
/-- what 'Parse' answers. -/
def ToAsks (b : List UInt8) : Value → Imm → List HItem → Prop := fun v I' H' => H' = [] ∧ match Sp.asks b with
  | .ok qs => ∃ a cp xs, v = .tuple #[.slice a qs.length cp, .agg #[nt 0, nt 0]] ∧ RowI I' 41 6 (.slice a qs.length cp) qs.length xs ∧ AsksAt I' qs xs ∧ qs.length ≤ b.length
  | .error (e, p) => v = .tuple #[.slice none 0 0, .agg #[nt e, nt p]] ∧ e ≠ 0
structure AsL where
  qs : List Sp.Qn
  p : Nat
  I : Imm
  a : Option Addr
  cp : Nat
  xs : List Value
set_option maxHeartbeats 8000000 in
theorem fr_parse {I : Imm} {b : List UInt8} {ba : Option Addr} {cp : Nat} (hr : RowI I 5 1 (.slice ba b.length cp) b.length (b.flatMap encB)) (hl : b.length ≤ 1099511627776) (hI : ConvF I) :
    CalM Tryd.prog 20 #[.slice ba b.length cp] I [] (ToAsks b) := by
  refine CalM.of fun w E hm => enter (N := 39) Tryd.func20 rfl [(0, .slice ba b.length cp)] args1 rfl ?_
  repeat' (first
    | (refine m_allocS (d := 3) hm (by rfl) (by rfl) ?_; clear hm; intro b3 _ hm)
    | (refine m_box (d := 11) hm (by rfl) (by rfl) (by rfl) (by rfl) ?_; clear hm; intro b11 _ hm)
    | refine op_move (by rfl) (by rfl) (by rfl) ?_
    | refine op_assign (by rfl) (by rfl) (by rfl) ?_
    | refine op_struct (by rfl) (by rfl) (by rfl) (by rfl) ?_
    | refine wl_nil ?_
    | refine at_then_normal ?_
    | refine wc_seq ?_
    | refine wc_region ?_
    | refine wc_block ?_)
  refine wc_loop (fun x : AsL => [(0, .slice ba b.length cp), (3, ptr b3), (4, ptr b11), (5, .slice x.a x.qs.length x.cp)])
    (fun x w' => Mem E x.I [rdr b11 ba b.length cp x.p true, .row (.slice x.a x.qs.length x.cp) 41 6 x.qs.length x.xs, .cell b3 [nt 0, nt 0] 44] w' ∧ Le I x.I ∧ AsksAt x.I x.qs x.xs ∧ x.qs.length ≤ x.p ∧ x.p ≤ b.length ∧
      Sp.asks b = Sp.exMap (x.qs ++ ·) (Sp.asksF b (b.length - x.p) x.p)) (fun x => b.length - x.p) ⟨[], 0, I, none, 0, []⟩
    (by exact ⟨rfl, rfl, rfl, rfl, trivial⟩) ⟨(hm.nil 41 6).swap, Le.refl _, rfl, Nat.zero_le _, Nat.zero_le _, by rw [Sp.asks]; dsimp only; rw [Nat.sub_zero]; cases Sp.asksF b b.length 0 <;> rfl⟩ ?_
  clear hm
  rintro ⟨qs, p, I1, a, ac, xs⟩ w1 ⟨hm, hle1, hat, hqp, hp, has⟩
  dsimp only at hm hle1 hat hqp hp has ⊢
  by_cases hlt : p < b.length
  · have hc := fr_one (hr.le hle1) hl (hI.le hle1) hlt b11
    have hst := Sp.asksF_at hlt
    cases ho : Sp.oneAt b p with
    | error e =>
      rw [ho] at hst
      dsimp only at hst
      rw [hst] at has
      repeat' (first
        | (refine m_call (d := 25) hm (by rfl) (by rfl) (by rfl) (by first | exact pm0 | exact pm1_0 | exact pm1_1 | exact pm1_2 | exact pm1_3 | exact pm2_0 | exact pm2_1 | exact pm2_2 | exact pm2_3 | exact pm2_4 | exact pm3_0 | exact pm3_1 | exact pm3_2) (hc) ?_; clear hm; rintro _ I4 _ _ ⟨v1, v2, v3, v4, s, a', n, c, p', ok', rfl, hto⟩ hle hm; have hleI4 := hle; try simp only [setn] at hm; rw [ho] at hto ;; obtain ⟨rfl, he⟩ := hto)
        | (refine m_ret2b_agg hm (by rfl) (by rfl) (by rfl) (by first | exact gt0 | exact gt1 | exact gt2 | exact gt3 | exact gt4 | exact gt5 | exact gt6) (by rfl) ?_)
        | (refine m_varS (d := 7) hm (by rfl) (by rfl) (by rfl) (by rfl) (by rfl) ?_; clear hm; intro b7 _ hm)
        | refine m_load1 hm (by rfl) (by rfl) (by rfl) (by first | exact gt0 | exact gt1 | exact gt2 | exact gt3 | exact gt4 | exact gt5 | exact gt6) (by rfl) ?_
        | (refine m_storeAll hm (by rfl) (by rfl) (by rfl) (by rfl) (by first | exact gt0 | exact gt1 | exact gt2 | exact gt3 | exact gt4 | exact gt5 | exact gt6) (by rfl) (by rfl) (by rfl) ?_; clear hm; intro _ hm; try simp only [setn] at hm)
        | refine op_move (by rfl) (by rfl) (by rfl) ?_
        | refine op_assign (by rfl) (by rfl) (by rfl) ?_
        | refine op_lss (by rfl) (by rfl) (by rfl) (by rfl) ?_
        | refine op_neq (by rfl) (by rfl) (by rfl) (by rfl) ?_
        | refine op_len_slice (by rfl) (by rfl) (by rfl) ?_
        | refine op_extract (by rfl) (by rfl) (by rfl) (by rfl) ?_
        | refine op_nilCheck (by rfl) (by rfl) (by rfl) ?_
        | refine op_fieldAddr (by rfl) (by rfl) (by rfl) ?_
        | refine op_struct (by rfl) (by rfl) (by rfl) (by rfl) ?_
        | refine wl_nil ?_
        | refine at_then_normal ?_
        | refine at_then_ret ?_
        | refine at_block_ret ?_
        | refine wc_seq ?_
        | refine wc_region ?_
        | refine wc_block ?_
        | refine wc_skip ?_
        | refine wc_ret ?_
        | (refine wc_cond_dec (by rfl) (fun _ => ?_) (fun _ => ?_) <;> (try first | contradiction | (exfalso; omega))))
      all_goals try (exfalso; omega)
      exact ⟨I4, [], ⟨rfl, by rw [has]; exact ⟨rfl, he⟩⟩, hm.left (H := [])⟩
    | ok r =>
      obtain ⟨q, r⟩ := r
      rw [ho] at hst
      dsimp only at hst
      rw [hst] at has
      obtain ⟨g1, g2⟩ := Sp.oneAt_le hp ho
      repeat' (first
        | (refine m_call (d := 25) hm (by rfl) (by rfl) (by rfl) (by first | exact pm0 | exact pm1_0 | exact pm1_1 | exact pm1_2 | exact pm1_3 | exact pm2_0 | exact pm2_1 | exact pm2_2 | exact pm2_3 | exact pm2_4 | exact pm3_0 | exact pm3_1 | exact pm3_2) (hc) ?_; clear hm; rintro _ I4 _ _ ⟨v1, v2, v3, v4, s, a', n, c, p', ok', rfl, hto⟩ hle hm; have hleI4 := hle; try simp only [setn] at hm; rw [ho] at hto ;; obtain ⟨rfl, hask, rfl, rfl⟩ := hto)
        | (refine m_varS (d := 7) hm (by rfl) (by rfl) (by rfl) (by rfl) (by rfl) ?_; clear hm; intro b7 _ hm)
        | (refine m_push (d := 36) hm (by rfl) (by rfl) (by rfl) (by rfl) (by rfl) (by first | exact gt0 | exact gt1 | exact gt2 | exact gt3 | exact gt4 | exact gt5 | exact gt6) (by rfl) (by rfl) (by rfl) (by rfl) (by omega) (by omega) ?_; clear hm; intro a36 cp36 _ _ hm; try simp only [setn] at hm)
        | refine m_load1 hm (by rfl) (by rfl) (by rfl) (by first | exact gt0 | exact gt1 | exact gt2 | exact gt3 | exact gt4 | exact gt5 | exact gt6) (by rfl) ?_
        | refine m_loadAll hm (by rfl) (by rfl) (by rfl) (by first | exact gt0 | exact gt1 | exact gt2 | exact gt3 | exact gt4 | exact gt5 | exact gt6) (by rfl) ?_
        | refine op_move (by rfl) (by rfl) (by rfl) ?_
        | refine op_assign (by rfl) (by rfl) (by rfl) ?_
        | refine op_lss (by rfl) (by rfl) (by rfl) (by rfl) ?_
        | refine op_neq (by rfl) (by rfl) (by rfl) (by rfl) ?_
        | refine op_len_slice (by rfl) (by rfl) (by rfl) ?_
        | refine op_extract (by rfl) (by rfl) (by rfl) (by rfl) ?_
        | refine op_nilCheck (by rfl) (by rfl) (by rfl) ?_
        | refine op_fieldAddr (by rfl) (by rfl) (by rfl) ?_
        | refine wl_nil ?_
        | refine at_then_normal ?_
        | refine at_block_normal ?_
        | refine wc_seq ?_
        | refine wc_region ?_
        | refine wc_block ?_
        | refine wc_skip ?_
        | refine wc_cond_false (by rfl) ?_
        | (refine wc_cond_dec (by rfl) (fun _ => ?_) (fun _ => ?_) <;> (try first | contradiction | (exfalso; omega))))
      all_goals try (exfalso; omega)
      have hl1 : (qs ++ [q]).length = qs.length + 1 := by rw [List.length_append, List.length_singleton]
      refine at_round (⟨qs ++ [q], p', I4, a36, cp36, xs ++ askV v1 v2 v3 v4 s a' n c⟩ : AsL) (by exact ⟨rfl, rfl, rfl, by rw [hl1]; rfl, trivial⟩) ⟨?_, hle1.trans hleI4, (hat.le hleI4).snoc hask, by dsimp only; omega, by dsimp only; omega, ?_⟩ (by dsimp only; omega)
      · dsimp only
        rw [hl1]
        exact hm.tl
      · dsimp only
        rw [has]
        cases Sp.asksF b (b.length - p') p' with
        | error e => rfl
        | ok l => exact congrArg Except.ok (by simp)
  · obtain rfl : p = b.length := by omega
    rw [Sp.asksF_out (Nat.le_refl _)] at has
    repeat' (first
      | (refine m_ret2b_agg hm (by rfl) (by rfl) (by rfl) (by first | exact gt0 | exact gt1 | exact gt2 | exact gt3 | exact gt4 | exact gt5 | exact gt6) (by rfl) ?_)
      | refine m_load1 hm (by rfl) (by rfl) (by rfl) (by first | exact gt0 | exact gt1 | exact gt2 | exact gt3 | exact gt4 | exact gt5 | exact gt6) (by rfl) ?_
      | (refine m_storeAll hm (by rfl) (by rfl) (by rfl) (by rfl) (by first | exact gt0 | exact gt1 | exact gt2 | exact gt3 | exact gt4 | exact gt5 | exact gt6) (by rfl) (by rfl) (by rfl) ?_; clear hm; intro _ hm; try simp only [setn] at hm)
      | refine op_move (by rfl) (by rfl) (by rfl) ?_
      | refine op_assign (by rfl) (by rfl) (by rfl) ?_
      | refine op_lss (by rfl) (by rfl) (by rfl) (by rfl) ?_
      | refine op_len_slice (by rfl) (by rfl) (by rfl) ?_
      | refine op_nilCheck (by rfl) (by rfl) (by rfl) ?_
      | refine op_fieldAddr (by rfl) (by rfl) (by rfl) ?_
      | refine op_struct (by rfl) (by rfl) (by rfl) (by rfl) ?_
      | refine wl_nil ?_
      | refine at_then_normal ?_
      | refine at_then_exit ?_
      | refine at_block_exit ?_
      | refine wc_seq ?_
      | refine wc_region ?_
      | refine wc_exit ?_
      | refine wc_ret ?_
      | (refine wc_cond_dec (by rfl) (fun _ => ?_) (fun _ => ?_) <;> (try first | contradiction | (exfalso; omega))))
    all_goals try (exfalso; omega)
    obtain ⟨I8, hle8, hm8, hrow⟩ := hm.swap.freeze
    have has2 : Sp.asks b = .ok qs := by
      rw [has]
      exact congrArg Except.ok (List.append_nil qs)
    exact ⟨I8, [], ⟨rfl, by rw [has2]; exact ⟨a, ac, xs, rfl, hrow, hat.le hle8, hqp⟩⟩, hm8.left (H := [])⟩
end Go.Proofs.YtkbiakajlfmakaaDoor
end
