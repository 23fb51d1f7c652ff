/- Own work: texts FrJ, one behind the other. -/
import Derived.Test.YtkbiakajlfmakaaDoorFt11
section
namespace Go.Sp
theorem numsAt_snoc (b : List UInt8) : ∀ (es : List UInt8) (e : UInt8) (p : Nat), numsAt b (es ++ [e]) p = match numsAt b es p with
    | none => none
    | some (vs, q) => match numAt b q e with
      | none => none
      | some (v, r) => some (vs ++ [v], r)
  | [], e, p => by
    rw [List.nil_append, numsAt, numsAt]
    dsimp only
    cases numAt b p e with
    | none => rfl
    | some y => obtain ⟨v, r⟩ := y; rfl
  | x :: es, e, p => by
    rw [List.cons_append, numsAt, numsAt]
    cases numAt b p x with
    | none => rfl
    | some y =>
      obtain ⟨v, q⟩ := y
      dsimp only
      rw [numsAt_snoc b es e q]
      cases numsAt b es q with
      | none => rfl
      | some z =>
        obtain ⟨vs, r⟩ := z
        dsimp only
        cases numAt b r e with
        | none => rfl
        | some u => obtain ⟨v2, r2⟩ := u; rfl
theorem numsAt_none (b : List UInt8) : ∀ (es fs : List UInt8) (p : Nat), numsAt b es p = none → numsAt b (es ++ fs) p = none
  | [], fs, p, h => by rw [numsAt] at h; cases h
  | x :: es, fs, p, h => by
    rw [numsAt] at h
    rw [List.cons_append, numsAt]
    cases hx : numAt b p x with
    | none => rfl
    | some y =>
      obtain ⟨v, q⟩ := y
      rw [hx] at h
      dsimp only at h ⊢
      cases hy : numsAt b es q with
      | none => rw [numsAt_none b es fs q hy]
      | some z => obtain ⟨vs, r⟩ := z; rw [hy] at h; cases h
theorem hdr_take {i : Nat} (h : i < 6) : hdr.take (i + 1) = hdr.take i ++ [if i = 5 then 10 else 32] := by
  match i, h with
  | 0, _ => rfl
  | 1, _ => rfl
  | 2, _ => rfl
  | 3, _ => rfl
  | 4, _ => rfl
  | 5, _ => rfl
theorem hdr_split (i : Nat) : hdr = hdr.take i ++ hdr.drop i := (List.take_append_drop i hdr).symm
end Go.Sp
namespace Go.Fw
open Go
section
variable {P : Program} {N : Nat} {ds : List Deferred} {Q : Exit → Act → World → Prop} {l : Log} {w : World} {ops : Array Oper} {os : List Oper}
variable {d : Nat} {ty : TypeId} {pos : String} {af : Array Edge} {g : Option (Nat × Bool)} {E : Ent} {I : Imm} {H R G : List HItem}
theorem m_callV {c : Operand} {f : FuncId} [Own P f] {xs : List Operand} {tys : Array TypeId} {vs ca : List Value} {Post : Value → Imm → List HItem → Prop} (hm : Mem E I G w)
    (hw : want ops l ⟨some d, .call ⟨.value c, xs.toArray, tys⟩, ty, pos, af, g⟩ = some true) (hN : Nat.blt d N = true)
    (hf : ev l c = some (.func (.func f) #[] ca.toArray)) (hx : evs l xs = some vs) (hp : G.Perm (H ++ R)) (hc : CalM P f (vs ++ ca).toArray I H Post)
    (k : ∀ v I' H' w', Post v I' H' → Le I I' → Mem E I' (H' ++ R) w' → WL P N ds ops Q os ((d, v) :: l) w') :
    WL P N ds ops Q (⟨some d, .call ⟨.value c, xs.toArray, tys⟩, ty, pos, af, g⟩ :: os) l w :=
  op_callv hw hN hf hx (hc.run w (hm.perm hp).sub) (fun v w' ⟨I', H', h1, h2⟩ => k v I' H' w' h1 h2.le ((hm.perm hp).back h2))
end
end Go.Fw
namespace Go.Proofs.YtkbiakajlfmakaaDoor
open Go.Fw
theorem fr_badC (I : Imm) (e p bx : Nat) : CalM Tryd.prog 51 #[nt e, ptr bx] I [.cell bx [nt p] 3] (fun v _ H' => v = .tuple #[.slice none 0 0, .agg #[nt e, nt p]] ∧ H' = [.cell bx [nt p] 3]) := by
  refine CalM.of fun w E hm => enter (N := 8) Tryd.func51 rfl [(0, nt e), (1, ptr bx)] args2 rfl ?_
  repeat' (first
    | (refine wc_quiet_tail (id := 1) 4 (by kernel_rfl) ?_)
    | (refine m_ret2b_agg hm (by rfl) (by rfl) (by rfl) (by first | exact gt0 | exact gt1 | exact gt2 | exact gt3 | exact gt4 | exact gt5 | exact gt6) (by rfl) ?_)
    | (refine m_allocS (d := 4) hm (by rfl) (by rfl) ?_; clear hm; intro b4 _ hm)
    | refine mq_load1 hm (by rfl) (by rfl) (by rfl) (by first | exact gt0 | exact gt1 | exact gt2 | exact gt3 | exact gt4 | exact gt5 | exact gt6) (by rfl) ?_
    | (refine m_storeAll hm (by rfl) (by rfl) (by rfl) (by rfl) (by first | exact gt0 | exact gt1 | exact gt2 | exact gt3 | exact gt4 | exact gt5 | exact gt6) (by rfl) (by rfl) (by rfl) ?_; clear hm; intro _ hm; try simp only [setn] at hm)
    | refine op_assign (by rfl) (by rfl) (by rfl) ?_
    | refine wl_nil ?_
    | refine at_then_normal ?_
    | refine wc_seq ?_
    | refine wc_region ?_
    | refine wc_ret ?_
    | (refine wq_nil_tail ?_; intro _ hkq; replace hm := hm.kept0 hkq; clear hkq)
    | refine q_move (by rfl) (by rfl) (by rfl) ?_
    | refine q_assign (by rfl) (by rfl) (by rfl) ?_
    | refine q_struct (by rfl) (by rfl) (by rfl) (by rfl) ?_)
  exact ⟨I, _, ⟨rfl, rfl⟩, hm.tl⟩
theorem rnum_some {I : Imm} {b : List UInt8} {ba : Option Addr} {cp : Nat} (hr : RowI I 5 1 (.slice ba b.length cp) b.length (b.flatMap encB)) (hl : b.length ≤ 1099511627776) (hI : ConvF I) {p : Nat} (hp : p ≤ b.length) (e : UInt8) {v : Int} {q : Nat} (h : Sp.numAt b p e = some (v, q)) :
    CalM Tryd.prog 52 #[.slice ba b.length cp, nt p, byteV e] I [] (fun u _ H' => H' = [] ∧ u = .tuple #[.int .i64 v, nt q, .bool true]) :=
  (fr_rnum hr hl hI hp e).mono (fun u I' H' _ ⟨h1, n, k, ok, h2, h3⟩ => ⟨h1, by
    rw [h] at h3
    obtain ⟨e1, e2, e3⟩ := h3
    rw [h2, e1, e2, e3]⟩)
theorem rnum_none {I : Imm} {b : List UInt8} {ba : Option Addr} {cp : Nat} (hr : RowI I 5 1 (.slice ba b.length cp) b.length (b.flatMap encB)) (hl : b.length ≤ 1099511627776) (hI : ConvF I) {p : Nat} (hp : p ≤ b.length) (e : UInt8) (h : Sp.numAt b p e = none) :
    CalM Tryd.prog 52 #[.slice ba b.length cp, nt p, byteV e] I [] (fun u _ H' => H' = [] ∧ ∃ n k : Int, u = .tuple #[.int .i64 n, .int .i64 k, .bool false]) :=
  (fr_rnum hr hl hI hp e).mono (fun u I' H' _ ⟨h1, n, k, ok, h2, h3⟩ => ⟨h1, n, k, by
    rw [h] at h3
    rw [h2, h3]⟩)
theorem six' {α : Type} {l : List α} (h : l.length = 6) : ∃ a b c d e f, l = [a, b, c, d, e, f] := by
  match l, h with
  | [a, b, c, d, e, f], _ => exact ⟨a, b, c, d, e, f, rfl⟩
structure UL where
  qs : List Sp.Qn
  p : Nat
  I : Imm
  a : Option Addr
  cp : Nat
  xs : List Value
  b5 : Nat
structure UH where
  i : Nat
  C : List Int
  k : Int
  ok : Bool
  I : Imm
structure UA where
  us : List Int
  k : Int
  ok : Bool
  I : Imm
  a : Option Addr
  cp : Nat
set_option maxHeartbeats 16000000 in
theorem fr_unframe {I : Imm} {b : List UInt8} {ba : Option Addr} {cp : Nat} (hr : RowI I 5 1 (.slice ba b.length cp) b.length (b.flatMap encB)) (hl : b.length ≤ 1099511627776) (hI : ConvF I) :
    CalM Tryd.prog 21 #[.slice ba b.length cp] I [] (ToAsks b) := by
  refine CalM.of fun w E hm => enter (N := 134) Tryd.func21 rfl [(0, .slice ba b.length cp)] args1 rfl ?_
  repeat' (first
    | (refine m_allocS (d := 3) hm (by rfl) (by rfl) ?_; clear hm; intro b3 _ hm)
    | (refine m_var1 (d := 5) hm (by rfl) (by rfl) (by rfl) (by rfl) (by rfl) ?_; clear hm; intro b5 _ hm)
    | refine op_assign (by rfl) (by rfl) (by rfl) ?_
    | refine wl_nil ?_
    | refine at_then_normal ?_
    | refine wc_seq ?_
    | refine wc_region ?_
    | refine wc_block ?_)
  refine wc_loop (fun x : UL => [(0, .slice ba b.length cp), (3, ptr b3), (4, .slice x.a x.qs.length x.cp), (5, ptr x.b5)])
    (fun x w' => Mem E x.I [.cell x.b5 [nt x.p] 3, .row (.slice x.a x.qs.length x.cp) 41 6 x.qs.length x.xs, .cell b3 [nt 0, nt 0] 44] w' ∧ Le I x.I ∧ AsksAt x.I x.qs x.xs ∧ x.qs.length ≤ x.p ∧ x.p ≤ b.length ∧
      Sp.asks b = Sp.exMap (x.qs ++ ·) (Sp.asksF b (b.length - x.p) x.p)) (fun x => b.length - x.p) ⟨[], 0, I, none, 0, [], b5⟩
    (by exact ⟨rfl, rfl, rfl, rfl, trivial⟩) ⟨(hm.nil 41 6).swap, Le.refl _, rfl, Nat.zero_le _, Nat.zero_le _, by rw [Sp.asks]; dsimp only; rw [Nat.sub_zero]; cases Sp.asksF b b.length 0 <;> rfl⟩ ?_
  clear hm
  rintro ⟨qs, p, I1, a, ac, xs, b5⟩ w1 ⟨hm, hle1, hat, hqp, hp, has⟩
  dsimp only at hm hle1 hat hqp hp has ⊢
  by_cases hlt : p < b.length
  · have hst := Sp.asksF_at hlt
    have hnoneH : Sp.numsAt b Sp.hdr p = none → Sp.oneAt b p = .error 2 := Sp.oneAt_none
    repeat' (first
      | (refine m_alloc (d := 7) (z := [.int .i64 0, .int .i64 0, .int .i64 0, .int .i64 0, .int .i64 0, .int .i64 0]) hm (by rfl) (by rfl) (by kernel_rfl) ?_; clear hm; intro b7 _ hm)
      | refine m_load1 hm (by rfl) (by rfl) (by rfl) (by first | exact gt0 | exact gt1 | exact gt2 | exact gt3 | exact gt4 | exact gt5 | exact gt6) (by rfl) ?_
      | refine op_move (by rfl) (by rfl) (by rfl) ?_
      | refine op_assign (by rfl) (by rfl) (by rfl) ?_
      | refine op_lss (by rfl) (by rfl) (by rfl) (by rfl) ?_
      | refine op_len_slice (by rfl) (by rfl) (by rfl) ?_
      | refine op_makeFunc (by rfl) (by rfl) (by rfl) ?_
      | refine wl_nil ?_
      | refine at_then_normal ?_
      | refine wc_seq ?_
      | refine wc_region ?_
      | refine wc_block ?_
      | refine wc_skip ?_
      | (refine wc_cond_dec (by rfl) (fun _ => ?_) (fun _ => ?_) <;> (try first | contradiction | (exfalso; omega))))
    all_goals try (exfalso; omega)
    refine wc_loop (fun x : UH => [(0, .slice ba b.length cp), (3, ptr b3), (4, .slice a qs.length ac), (5, ptr b5), (6, .func (.func 51) #[] #[ptr b5]), (7, ptr b7), (8, .int .i64 x.k), (9, .bool x.ok), (22, nt x.i)])
      (fun x w' => Mem E x.I [.cell b7 (x.C.map (Value.int .i64)) 100, .cell b5 [nt p] 3, .row (.slice a qs.length ac) 41 6 qs.length xs, .cell b3 [nt 0, nt 0] 44] w' ∧ Le I1 x.I ∧ x.i ≤ 6 ∧ x.C.length = 6 ∧
        ((x.ok = true ∧ ∃ q : Nat, x.k = (q : Int) ∧ q ≤ b.length ∧ Sp.numsAt b (Sp.hdr.take x.i) p = some (x.C.take x.i, q)) ∨ (x.ok = false ∧ Sp.numsAt b Sp.hdr p = none))) (fun x => 6 - x.i) ⟨0, [0, 0, 0, 0, 0, 0], p, true, I1⟩
      (by exact ⟨rfl, rfl, rfl, rfl, rfl, rfl, rfl, rfl, rfl, trivial⟩) ⟨hm, Le.refl _, Nat.zero_le _, rfl, .inl ⟨rfl, p, rfl, hp, rfl⟩⟩ ?_
    clear hm
    rintro ⟨i, C, k, ok, I2⟩ w2 ⟨hm, hle2, hi, hC6, hst2⟩
    dsimp only at hm hle2 hi hC6 hst2 ⊢
    by_cases hi6 : i < 6
    · have hio : Nat.blt (0 + (i : Int).toNat * 1) (C.map (Value.int .i64)).length = true := by
        rw [List.length_map, hC6, Int.toNat_natCast]; simpa [Nat.blt_eq] using hi6
      have hset : ∀ v : Int, (C.map (Value.int .i64)).set (0 + (i : Int).toNat * 1) (.int .i64 v) = (C.set i v).map (Value.int .i64) := fun v => by
        rw [List.map_set, Int.toNat_natCast, Nat.mul_one, Nat.zero_add]
      rcases hst2 with ⟨rfl, q, rfl, hq, hnums⟩ | ⟨rfl, hnone⟩
      · have hht := Sp.hdr_take hi6
        have hsn := Sp.numsAt_snoc b (Sp.hdr.take i) (if i = 5 then 10 else 32) p
        rw [← hht, hnums] at hsn
        dsimp only at hsn
        cases hn : Sp.numAt b q (if i = 5 then 10 else 32) with
        | none =>
          rw [hn] at hsn
          have hall : Sp.numsAt b Sp.hdr p = none := by
            rw [Sp.hdr_split (i + 1)]
            exact Sp.numsAt_none b _ _ _ hsn
          have hcl := rnum_none (I := I2) (hr.le (hle1.trans hle2)) hl (hI.le (hle1.trans hle2)) hq _ hn
          by_cases h5 : i = 5
          · rw [if_pos h5] at hcl
            repeat' (first
              | (refine m_call (d := 33) hm (by rfl) (by rfl) (by rfl) (by first | exact pm0 | exact pm1_0 | exact pm1_1 | exact pm1_2 | exact pm1_3 | exact pm2_0 | exact pm2_1 | exact pm2_2 | exact pm2_3 | exact pm2_4 | exact pm3_0 | exact pm3_1 | exact pm3_2) (hcl) ?_; clear hm; rintro _ I3 _ _ ⟨rfl, n, k', rfl⟩ hle hm; have hleI3 := hle; try simp only [setn] at hm)
              | (refine m_store1 hm (by rfl) (by rfl) (by rfl) (by rfl) (by first | exact gt0 | exact gt1 | exact gt2 | exact gt3 | exact gt4 | exact gt5 | exact gt6) (by rfl) (by exact hio) (by rfl) ?_; clear hm; intro _ hm; try simp only [setn] at hm; rw [hset] at hm)
              | refine op_move (by rfl) (by rfl) (by rfl) ?_
              | refine op_assign (by rfl) (by rfl) (by rfl) ?_
              | refine op_lss (by rfl) (by rfl) (by rfl) (by rfl) ?_
              | refine op_eql (by rfl) (by rfl) (by rfl) (by rfl) ?_
              | refine op_extract (by rfl) (by rfl) (by rfl) (by rfl) ?_
              | refine op_add (by rfl) (by rfl) (by rfl) (by rfl) (by omega) ?_
              | refine op_indexAddr_arr (by rfl) (by rfl) (by rfl) (by rfl) (by omega) (by omega) ?_
              | refine wl_nil ?_
              | refine at_then_normal ?_
              | refine at_block_normal ?_
              | refine wc_seq ?_
              | refine wc_region ?_
              | refine wc_block ?_
              | refine wc_skip ?_
              | refine wc_cond_true (by rfl) ?_
              | (refine wc_cond_dec (by rfl) (fun _ => ?_) (fun _ => ?_) <;> (try first | contradiction | (exfalso; omega))))
            all_goals try (exfalso; omega)
            exact at_round (⟨i + 1, C.set i n, k', false, I3⟩ : UH) (by exact ⟨rfl, rfl, rfl, rfl, rfl, rfl, rfl, rfl, rfl, trivial⟩) ⟨hm, hle2.trans hleI3, by dsimp only; omega, by dsimp only; rw [List.length_set]; exact hC6, .inr ⟨rfl, hall⟩⟩ (by dsimp only; omega)
          · rw [if_neg h5] at hcl
            repeat' (first
              | (refine m_call (d := 33) hm (by rfl) (by rfl) (by rfl) (by first | exact pm0 | exact pm1_0 | exact pm1_1 | exact pm1_2 | exact pm1_3 | exact pm2_0 | exact pm2_1 | exact pm2_2 | exact pm2_3 | exact pm2_4 | exact pm3_0 | exact pm3_1 | exact pm3_2) (hcl) ?_; clear hm; rintro _ I3 _ _ ⟨rfl, n, k', rfl⟩ hle hm; have hleI3 := hle; try simp only [setn] at hm)
              | (refine m_store1 hm (by rfl) (by rfl) (by rfl) (by rfl) (by first | exact gt0 | exact gt1 | exact gt2 | exact gt3 | exact gt4 | exact gt5 | exact gt6) (by rfl) (by exact hio) (by rfl) ?_; clear hm; intro _ hm; try simp only [setn] at hm; rw [hset] at hm)
              | refine op_move (by rfl) (by rfl) (by rfl) ?_
              | refine op_assign (by rfl) (by rfl) (by rfl) ?_
              | refine op_lss (by rfl) (by rfl) (by rfl) (by rfl) ?_
              | refine op_eql (by rfl) (by rfl) (by rfl) (by rfl) ?_
              | refine op_extract (by rfl) (by rfl) (by rfl) (by rfl) ?_
              | refine op_add (by rfl) (by rfl) (by rfl) (by rfl) (by omega) ?_
              | refine op_indexAddr_arr (by rfl) (by rfl) (by rfl) (by rfl) (by omega) (by omega) ?_
              | refine wl_nil ?_
              | refine at_then_normal ?_
              | refine at_block_normal ?_
              | refine wc_seq ?_
              | refine wc_region ?_
              | refine wc_block ?_
              | refine wc_skip ?_
              | refine wc_cond_true (by rfl) ?_
              | (refine wc_cond_dec (by rfl) (fun _ => ?_) (fun _ => ?_) <;> (try first | contradiction | (exfalso; omega))))
            all_goals try (exfalso; omega)
            exact at_round (⟨i + 1, C.set i n, k', false, I3⟩ : UH) (by exact ⟨rfl, rfl, rfl, rfl, rfl, rfl, rfl, rfl, rfl, trivial⟩) ⟨hm, hle2.trans hleI3, by dsimp only; omega, by dsimp only; rw [List.length_set]; exact hC6, .inr ⟨rfl, hall⟩⟩ (by dsimp only; omega)
        | some y =>
          obtain ⟨v, r⟩ := y
          rw [hn] at hsn
          dsimp only at hsn
          have hr2 := (Sp.numAt_le hn).2
          have hcl := rnum_some (I := I2) (hr.le (hle1.trans hle2)) hl (hI.le (hle1.trans hle2)) hq _ hn
          have htk : (C.set i v).take (i + 1) = C.take i ++ [v] := by
            rw [List.take_add_one, List.take_set_of_le (Nat.le_refl i), List.getElem?_set_self (by omega)]; rfl
          by_cases h5 : i = 5
          · rw [if_pos h5] at hcl
            repeat' (first
              | (refine m_call (d := 33) hm (by rfl) (by rfl) (by rfl) (by first | exact pm0 | exact pm1_0 | exact pm1_1 | exact pm1_2 | exact pm1_3 | exact pm2_0 | exact pm2_1 | exact pm2_2 | exact pm2_3 | exact pm2_4 | exact pm3_0 | exact pm3_1 | exact pm3_2) (hcl) ?_; clear hm; rintro _ I3 _ _ ⟨rfl, rfl⟩ hle hm; have hleI3 := hle; try simp only [setn] at hm)
              | (refine m_store1 hm (by rfl) (by rfl) (by rfl) (by rfl) (by first | exact gt0 | exact gt1 | exact gt2 | exact gt3 | exact gt4 | exact gt5 | exact gt6) (by rfl) (by exact hio) (by rfl) ?_; clear hm; intro _ hm; try simp only [setn] at hm; rw [hset] at hm)
              | refine op_move (by rfl) (by rfl) (by rfl) ?_
              | refine op_assign (by rfl) (by rfl) (by rfl) ?_
              | refine op_lss (by rfl) (by rfl) (by rfl) (by rfl) ?_
              | refine op_eql (by rfl) (by rfl) (by rfl) (by rfl) ?_
              | refine op_extract (by rfl) (by rfl) (by rfl) (by rfl) ?_
              | refine op_add (by rfl) (by rfl) (by rfl) (by rfl) (by omega) ?_
              | refine op_indexAddr_arr (by rfl) (by rfl) (by rfl) (by rfl) (by omega) (by omega) ?_
              | refine wl_nil ?_
              | refine at_then_normal ?_
              | refine at_block_normal ?_
              | refine wc_seq ?_
              | refine wc_region ?_
              | refine wc_block ?_
              | refine wc_skip ?_
              | refine wc_cond_true (by rfl) ?_
              | (refine wc_cond_dec (by rfl) (fun _ => ?_) (fun _ => ?_) <;> (try first | contradiction | (exfalso; omega))))
            all_goals try (exfalso; omega)
            exact at_round (⟨i + 1, C.set i v, r, true, I3⟩ : UH) (by exact ⟨rfl, rfl, rfl, rfl, rfl, rfl, rfl, rfl, rfl, trivial⟩) ⟨hm, hle2.trans hleI3, by dsimp only; omega, by dsimp only; rw [List.length_set]; exact hC6, .inl ⟨rfl, r, rfl, hr2, by dsimp only; rw [htk]; exact hsn⟩⟩ (by dsimp only; omega)
          · rw [if_neg h5] at hcl
            repeat' (first
              | (refine m_call (d := 33) hm (by rfl) (by rfl) (by rfl) (by first | exact pm0 | exact pm1_0 | exact pm1_1 | exact pm1_2 | exact pm1_3 | exact pm2_0 | exact pm2_1 | exact pm2_2 | exact pm2_3 | exact pm2_4 | exact pm3_0 | exact pm3_1 | exact pm3_2) (hcl) ?_; clear hm; rintro _ I3 _ _ ⟨rfl, rfl⟩ hle hm; have hleI3 := hle; try simp only [setn] at hm)
              | (refine m_store1 hm (by rfl) (by rfl) (by rfl) (by rfl) (by first | exact gt0 | exact gt1 | exact gt2 | exact gt3 | exact gt4 | exact gt5 | exact gt6) (by rfl) (by exact hio) (by rfl) ?_; clear hm; intro _ hm; try simp only [setn] at hm; rw [hset] at hm)
              | refine op_move (by rfl) (by rfl) (by rfl) ?_
              | refine op_assign (by rfl) (by rfl) (by rfl) ?_
              | refine op_lss (by rfl) (by rfl) (by rfl) (by rfl) ?_
              | refine op_eql (by rfl) (by rfl) (by rfl) (by rfl) ?_
              | refine op_extract (by rfl) (by rfl) (by rfl) (by rfl) ?_
              | refine op_add (by rfl) (by rfl) (by rfl) (by rfl) (by omega) ?_
              | refine op_indexAddr_arr (by rfl) (by rfl) (by rfl) (by rfl) (by omega) (by omega) ?_
              | refine wl_nil ?_
              | refine at_then_normal ?_
              | refine at_block_normal ?_
              | refine wc_seq ?_
              | refine wc_region ?_
              | refine wc_block ?_
              | refine wc_skip ?_
              | refine wc_cond_true (by rfl) ?_
              | (refine wc_cond_dec (by rfl) (fun _ => ?_) (fun _ => ?_) <;> (try first | contradiction | (exfalso; omega))))
            all_goals try (exfalso; omega)
            exact at_round (⟨i + 1, C.set i v, r, true, I3⟩ : UH) (by exact ⟨rfl, rfl, rfl, rfl, rfl, rfl, rfl, rfl, rfl, trivial⟩) ⟨hm, hle2.trans hleI3, by dsimp only; omega, by dsimp only; rw [List.length_set]; exact hC6, .inl ⟨rfl, r, rfl, hr2, by dsimp only; rw [htk]; exact hsn⟩⟩ (by dsimp only; omega)
      · skip
        repeat' (first
          | refine op_move (by rfl) (by rfl) (by rfl) ?_
          | refine op_assign (by rfl) (by rfl) (by rfl) ?_
          | refine op_lss (by rfl) (by rfl) (by rfl) (by rfl) ?_
          | refine op_eql (by rfl) (by rfl) (by rfl) (by rfl) ?_
          | refine op_add (by rfl) (by rfl) (by rfl) (by rfl) (by omega) ?_
          | refine wl_nil ?_
          | refine at_then_normal ?_
          | refine at_block_normal ?_
          | refine wc_seq ?_
          | refine wc_region ?_
          | refine wc_block ?_
          | refine wc_skip ?_
          | refine wc_cond_false (by rfl) ?_
          | (refine wc_cond_dec (by rfl) (fun _ => ?_) (fun _ => ?_) <;> (try first | contradiction | (exfalso; omega))))
        all_goals try (exfalso; omega)
        all_goals exact at_round (⟨i + 1, C, k, false, I2⟩ : UH) (by exact ⟨rfl, rfl, rfl, rfl, rfl, rfl, rfl, rfl, rfl, trivial⟩) ⟨hm, hle2, by dsimp only; omega, hC6, .inr ⟨rfl, hnone⟩⟩ (by dsimp only; omega)
    · obtain rfl : i = 6 := by omega
      obtain ⟨v1, v2, v3, v4, v5, v6, rfl⟩ := six' hC6
      clear hC6 hi hi6
      rcases hst2 with ⟨rfl, q, rfl, hq, hnums⟩ | ⟨rfl, hnone⟩
      case inr =>
        have ho := hnoneH hnone
        rw [ho] at hst
        dsimp only at hst
        rw [hst] at has
        repeat' (first
          | (refine m_callV (d := 52) hm (by rfl) (by rfl) (by rfl) (by rfl) pm1_1 (by exact fr_badC _ 2 p b5) ?_; clear hm; rintro _ I9 _ _ ⟨rfl, rfl⟩ hleI9 hm)
          | (refine m_ret2b_agg hm (by rfl) (by rfl) (by rfl) (by first | exact gt0 | exact gt1 | exact gt2 | exact gt3 | exact gt4 | exact gt5 | exact gt6) (by rfl) ?_)
          | (refine m_storeAll hm (by rfl) (by rfl) (by rfl) (by rfl) (by first | exact gt0 | exact gt1 | exact gt2 | exact gt3 | exact gt4 | exact gt5 | exact gt6) (by rfl) (by rfl) (by rfl) ?_; clear hm; intro _ hm; try simp only [setn] at hm)
          | refine op_move (by rfl) (by rfl) (by rfl) ?_
          | refine op_assign (by rfl) (by rfl) (by rfl) ?_
          | refine op_pick_true (by rfl) (by rfl) (by rfl) (by rfl) ?_
          | refine op_lss (by rfl) (by rfl) (by rfl) (by rfl) ?_
          | refine op_not (by rfl) (by rfl) (by rfl) ?_
          | refine op_extract (by rfl) (by rfl) (by rfl) (by rfl) ?_
          | refine wl_skip (by rfl) (by rfl) (by rfl) ?_
          | refine wl_nil ?_
          | refine at_then_normal ?_
          | refine at_then_ret ?_
          | refine at_then_exit ?_
          | refine at_block_ret ?_
          | refine at_block_exit ?_
          | refine wc_seq ?_
          | refine wc_region ?_
          | refine wc_exit ?_
          | refine wc_ret ?_
          | refine wc_cond_true (by rfl) ?_
          | refine wc_cond_false (by rfl) ?_)
        all_goals try (exfalso; omega)
        exact ⟨I9, [], ⟨rfl, by rw [has]; exact ⟨rfl, by decide⟩⟩, hm.left (H := [])⟩
      have hone := Sp.oneAt_some hnums
      obtain ⟨b0, o0, rfl⟩ := hr.addr (by omega)
      by_cases hneg : v5 < 0 ∨ v6 < 0
      · rw [if_pos hneg] at hone
        rw [hone] at hst
        dsimp only at hst
        rw [hst] at has
        repeat' (first
          | (refine m_callV (d := 52) hm (by rfl) (by rfl) (by rfl) (by rfl) pm1_1 (by exact fr_badC _ 2 p b5) ?_; clear hm; rintro _ I9 _ _ ⟨rfl, rfl⟩ hleI9 hm)
          | (refine m_ret2b_agg hm (by rfl) (by rfl) (by rfl) (by first | exact gt0 | exact gt1 | exact gt2 | exact gt3 | exact gt4 | exact gt5 | exact gt6) (by rfl) ?_)
          | refine m_load1 hm (by rfl) (by rfl) (by rfl) (by first | exact gt0 | exact gt1 | exact gt2 | exact gt3 | exact gt4 | exact gt5 | exact gt6) (by rfl) ?_
          | (refine m_storeAll hm (by rfl) (by rfl) (by rfl) (by rfl) (by first | exact gt0 | exact gt1 | exact gt2 | exact gt3 | exact gt4 | exact gt5 | exact gt6) (by rfl) (by rfl) (by rfl) ?_; clear hm; intro _ hm; try simp only [setn] at hm)
          | refine op_move (by rfl) (by rfl) (by rfl) ?_
          | refine op_assign (by rfl) (by rfl) (by rfl) ?_
          | refine op_pick_true (by rfl) (by rfl) (by rfl) (by rfl) ?_
          | refine op_pick_false (by rfl) (by rfl) (by rfl) (by rfl) ?_
          | refine op_lss (by rfl) (by rfl) (by rfl) (by rfl) ?_
          | refine op_not (by rfl) (by rfl) (by rfl) ?_
          | refine op_extract (by rfl) (by rfl) (by rfl) (by rfl) ?_
          | refine op_indexAddr_arr (by rfl) (by rfl) (by rfl) (by rfl) (by omega) (by omega) ?_
          | refine wl_skip (by rfl) (by rfl) (by rfl) ?_
          | (refine wl_split_dec (by rfl) (by rfl) (by rfl) (fun _ => ?_) (fun _ => ?_) <;> (try first | contradiction | (exfalso; omega)))
          | refine wl_nil ?_
          | refine at_then_normal ?_
          | refine at_then_ret ?_
          | refine at_then_exit ?_
          | refine at_block_ret ?_
          | refine at_block_exit ?_
          | refine wc_seq ?_
          | refine wc_region ?_
          | refine wc_exit ?_
          | refine wc_ret ?_
          | refine wc_cond_true (by rfl) ?_
          | refine wc_cond_false (by rfl) ?_
          | (refine wc_cond_dec (by rfl) (fun _ => ?_) (fun _ => ?_) <;> (try first | contradiction | (exfalso; omega))))
        all_goals try (exfalso; omega)
        all_goals exact ⟨I9, [], ⟨rfl, by rw [has]; exact ⟨rfl, by decide⟩⟩, hm.left (H := [])⟩
      rw [if_neg hneg] at hone
      obtain ⟨z, rfl⟩ := Int.eq_ofNat_of_zero_le (show 0 ≤ v6 by omega)
      obtain ⟨nz, rfl⟩ := Int.eq_ofNat_of_zero_le (show 0 ≤ v5 by omega)
      rw [Int.toNat_natCast, Int.toNat_natCast] at hone
      repeat' (first
        | (refine m_varS (d := 12) hm (by rfl) (by rfl) (by rfl) (by rfl) (by rfl) ?_; clear hm; intro b12 _ hm)
        | refine m_load1 hm (by rfl) (by rfl) (by rfl) (by first | exact gt0 | exact gt1 | exact gt2 | exact gt3 | exact gt4 | exact gt5 | exact gt6) (by rfl) ?_
        | refine op_move (by rfl) (by rfl) (by rfl) ?_
        | refine op_assign (by rfl) (by rfl) (by rfl) ?_
        | refine op_pick_false (by rfl) (by rfl) (by rfl) (by rfl) ?_
        | refine op_lss (by rfl) (by rfl) (by rfl) (by rfl) ?_
        | refine op_not (by rfl) (by rfl) (by rfl) ?_
        | refine op_indexAddr_arr (by rfl) (by rfl) (by rfl) (by rfl) (by omega) (by omega) ?_
        | refine op_struct (by rfl) (by rfl) (by rfl) (by rfl) ?_
        | refine wl_nil ?_
        | refine at_then_normal ?_
        | refine at_then_exit ?_
        | refine at_block_exit ?_
        | refine wc_seq ?_
        | refine wc_region ?_
        | refine wc_block ?_
        | refine wc_skip ?_
        | refine wc_exit ?_
        | refine wc_cond_false (by rfl) ?_)
      all_goals try (exfalso; omega)
      refine wc_loop (fun x : UA => [(0, .slice (some ⟨b0, o0, none⟩) b.length cp), (3, ptr b3), (4, .slice a qs.length ac), (5, ptr b5), (6, .func (.func 51) #[] #[ptr b5]), (7, ptr b7), (8, .int .i64 x.k), (9, .bool x.ok), (12, ptr b12), (13, nt x.us.length)])
        (fun x w' => Mem E x.I [.row (.slice x.a x.us.length x.cp) 3 1 x.us.length (x.us.flatMap encZ), askO b12 v1 v2 v3 v4 [] x.a x.us.length x.cp, .cell b7 ([v1, v2, v3, v4, (nz : Int), (z : Int)].map (Value.int .i64)) 100, .cell b5 [nt p] 3, .row (.slice a qs.length ac) 41 6 qs.length xs, .cell b3 [nt 0, nt 0] 44] w' ∧ Le I2 x.I ∧ x.us.length ≤ 6 ∧
          ((x.ok = true ∧ x.us.length ≤ min nz 6 ∧ ∃ q' : Nat, x.k = (q' : Int) ∧ q' ≤ b.length ∧ Sp.numsAt b (List.replicate x.us.length 10) q = some (x.us, q')) ∨ (x.ok = false ∧ Sp.numsAt b (List.replicate (min nz 6) 10) q = none))) (fun x => 6 - x.us.length) ⟨[], q, true, I2, none, 0⟩
        (by exact ⟨rfl, rfl, rfl, rfl, rfl, rfl, rfl, rfl, rfl, rfl, trivial⟩) ⟨hm.nil 3 1, Le.refl _, Nat.zero_le _, .inl ⟨rfl, Nat.zero_le _, q, rfl, hq, rfl⟩⟩ ?_
      clear hm
      rintro ⟨us, k, ok, I3, aa, ca⟩ w3 ⟨hm, hle3, hus6, hst3⟩
      dsimp only at hm hle3 hus6 hst3 ⊢
      have hleA : Le I I3 := (hle1.trans hle2).trans hle3
      by_cases hgo : ok = true ∧ us.length < min nz 6
      · obtain ⟨rfl, hlt6⟩ := hgo
        obtain ⟨_, _, q', rfl, hq', hnu⟩ := hst3.resolve_right (fun h => by cases h.1)
        have hsn := Sp.numsAt_snoc b (List.replicate us.length 10) 10 q
        rw [← List.replicate_succ', hnu] at hsn
        dsimp only at hsn
        cases hn : Sp.numAt b q' 10 with
        | none =>
          rw [hn] at hsn
          have hall : Sp.numsAt b (List.replicate (min nz 6) 10) q = none := by
            have h9 := Sp.numsAt_none b _ (List.replicate (min nz 6 - (us.length + 1)) 10) _ hsn
            rw [List.replicate_append_replicate, show us.length + 1 + (min nz 6 - (us.length + 1)) = min nz 6 by omega] at h9
            exact h9
          have hcl := rnum_none (I := I3) (hr.le hleA) hl (hI.le hleA) hq' _ hn
          repeat' (first
            | (refine m_call (d := 80) hm (by rfl) (by rfl) (by rfl) (by first | exact pm0 | exact pm1_0 | exact pm1_1 | exact pm1_2 | exact pm1_3 | exact pm2_0 | exact pm2_1 | exact pm2_2 | exact pm2_3 | exact pm2_4 | exact pm3_0 | exact pm3_1 | exact pm3_2) (hcl) ?_; clear hm; rintro _ I4 _ _ ⟨rfl, n, k', rfl⟩ hle hm; have hleI4 := hle; try simp only [setn] at hm)
            | (refine m_push (d := 88) hm (by rfl) (by rfl) (by rfl) (by rfl) (by rfl) (by first | exact gt0 | exact gt1 | exact gt2 | exact gt3 | exact gt4 | exact gt5 | exact gt6) (by rfl) (by rfl) (by rfl) (by rfl) (by omega) (by omega) ?_; clear hm; intro a88 cp88 _ _ hm; try simp only [setn] at hm)
            | refine m_load1 hm (by rfl) (by rfl) (by rfl) (by first | exact gt0 | exact gt1 | exact gt2 | exact gt3 | exact gt4 | exact gt5 | exact gt6) (by rfl) ?_
            | (refine m_store1 hm (by rfl) (by rfl) (by rfl) (by rfl) (by first | exact gt0 | exact gt1 | exact gt2 | exact gt3 | exact gt4 | exact gt5 | exact gt6) (by rfl) (by rfl) (by rfl) ?_; clear hm; intro _ hm; try simp only [setn] at hm)
            | refine op_move (by rfl) (by rfl) (by rfl) ?_
            | refine op_assign (by rfl) (by rfl) (by rfl) ?_
            | refine op_pick_true (by rfl) (by rfl) (by rfl) (by rfl) ?_
            | refine op_lss (by rfl) (by rfl) (by rfl) (by rfl) ?_
            | refine op_extract (by rfl) (by rfl) (by rfl) (by rfl) ?_
            | refine op_add (by rfl) (by rfl) (by rfl) (by rfl) (by omega) ?_
            | refine op_indexAddr_arr (by rfl) (by rfl) (by rfl) (by rfl) (by omega) (by omega) ?_
            | refine op_fieldAddr (by rfl) (by rfl) (by rfl) ?_
            | (refine wl_split_dec (by rfl) (by rfl) (by rfl) (fun _ => ?_) (fun _ => ?_) <;> (try first | contradiction | (exfalso; omega)))
            | refine wl_nil ?_
            | refine at_then_normal ?_
            | refine at_block_normal ?_
            | refine wc_seq ?_
            | refine wc_region ?_
            | refine wc_block ?_
            | refine wc_skip ?_
            | refine wc_cond_true (by rfl) ?_)
          all_goals try (exfalso; omega)
          have hl1 : (us ++ [n]).length = us.length + 1 := by rw [List.length_append, List.length_singleton]
          refine at_round (⟨us ++ [n], k', false, I4, a88, cp88⟩ : UA) (by exact ⟨rfl, rfl, rfl, rfl, rfl, rfl, rfl, rfl, rfl, by rw [hl1]; rfl, trivial⟩) ⟨?_, hle3.trans hleI4, by dsimp only; omega, .inr ⟨rfl, hall⟩⟩ (by dsimp only; omega)
          dsimp only
          rw [hl1, List.flatMap_append]
          exact hm
        | some y =>
          obtain ⟨v, r⟩ := y
          rw [hn] at hsn
          dsimp only at hsn
          have hr2 := (Sp.numAt_le hn).2
          have hcl := rnum_some (I := I3) (hr.le hleA) hl (hI.le hleA) hq' _ hn
          repeat' (first
            | (refine m_call (d := 80) hm (by rfl) (by rfl) (by rfl) (by first | exact pm0 | exact pm1_0 | exact pm1_1 | exact pm1_2 | exact pm1_3 | exact pm2_0 | exact pm2_1 | exact pm2_2 | exact pm2_3 | exact pm2_4 | exact pm3_0 | exact pm3_1 | exact pm3_2) (hcl) ?_; clear hm; rintro _ I4 _ _ ⟨rfl, rfl⟩ hle hm; have hleI4 := hle; try simp only [setn] at hm)
            | (refine m_push (d := 88) hm (by rfl) (by rfl) (by rfl) (by rfl) (by rfl) (by first | exact gt0 | exact gt1 | exact gt2 | exact gt3 | exact gt4 | exact gt5 | exact gt6) (by rfl) (by rfl) (by rfl) (by rfl) (by omega) (by omega) ?_; clear hm; intro a88 cp88 _ _ hm; try simp only [setn] at hm)
            | refine m_load1 hm (by rfl) (by rfl) (by rfl) (by first | exact gt0 | exact gt1 | exact gt2 | exact gt3 | exact gt4 | exact gt5 | exact gt6) (by rfl) ?_
            | (refine m_store1 hm (by rfl) (by rfl) (by rfl) (by rfl) (by first | exact gt0 | exact gt1 | exact gt2 | exact gt3 | exact gt4 | exact gt5 | exact gt6) (by rfl) (by rfl) (by rfl) ?_; clear hm; intro _ hm; try simp only [setn] at hm)
            | refine op_move (by rfl) (by rfl) (by rfl) ?_
            | refine op_assign (by rfl) (by rfl) (by rfl) ?_
            | refine op_pick_true (by rfl) (by rfl) (by rfl) (by rfl) ?_
            | refine op_lss (by rfl) (by rfl) (by rfl) (by rfl) ?_
            | refine op_extract (by rfl) (by rfl) (by rfl) (by rfl) ?_
            | refine op_add (by rfl) (by rfl) (by rfl) (by rfl) (by omega) ?_
            | refine op_indexAddr_arr (by rfl) (by rfl) (by rfl) (by rfl) (by omega) (by omega) ?_
            | refine op_fieldAddr (by rfl) (by rfl) (by rfl) ?_
            | (refine wl_split_dec (by rfl) (by rfl) (by rfl) (fun _ => ?_) (fun _ => ?_) <;> (try first | contradiction | (exfalso; omega)))
            | refine wl_nil ?_
            | refine at_then_normal ?_
            | refine at_block_normal ?_
            | refine wc_seq ?_
            | refine wc_region ?_
            | refine wc_block ?_
            | refine wc_skip ?_
            | refine wc_cond_true (by rfl) ?_)
          all_goals try (exfalso; omega)
          have hl1 : (us ++ [v]).length = us.length + 1 := by rw [List.length_append, List.length_singleton]
          refine at_round (⟨us ++ [v], r, true, I4, a88, cp88⟩ : UA) (by exact ⟨rfl, rfl, rfl, rfl, rfl, rfl, rfl, rfl, rfl, by rw [hl1]; rfl, trivial⟩) ⟨?_, hle3.trans hleI4, by dsimp only; omega, .inl ⟨rfl, by dsimp only; omega, r, rfl, hr2, by dsimp only; rw [hl1]; exact hsn⟩⟩ (by dsimp only; omega)
          dsimp only
          rw [hl1, List.flatMap_append]
          exact hm
      · rcases hst3 with ⟨rfl, hle6, q', rfl, hq', hnu⟩ | ⟨rfl, hnone⟩
        case inr =>
          rw [hnone] at hone
          dsimp only at hone
          rw [hone] at hst
          dsimp only at hst
          rw [hst] at has
          repeat' (first
            | (refine m_callV (d := 102) hm (by rfl) (by rfl) (by rfl) (by rfl) pm1_3 (by exact fr_badC _ 2 p b5) ?_; clear hm; rintro _ I9 _ _ ⟨rfl, rfl⟩ hleI9 hm)
            | (refine m_ret2b_agg hm (by rfl) (by rfl) (by rfl) (by first | exact gt0 | exact gt1 | exact gt2 | exact gt3 | exact gt4 | exact gt5 | exact gt6) (by rfl) ?_)
            | refine m_load1 hm (by rfl) (by rfl) (by rfl) (by first | exact gt0 | exact gt1 | exact gt2 | exact gt3 | exact gt4 | exact gt5 | exact gt6) (by rfl) ?_
            | (refine m_storeAll hm (by rfl) (by rfl) (by rfl) (by rfl) (by first | exact gt0 | exact gt1 | exact gt2 | exact gt3 | exact gt4 | exact gt5 | exact gt6) (by rfl) (by rfl) (by rfl) ?_; clear hm; intro _ hm; try simp only [setn] at hm)
            | refine op_move (by rfl) (by rfl) (by rfl) ?_
            | refine op_assign (by rfl) (by rfl) (by rfl) ?_
            | refine op_pick_true (by rfl) (by rfl) (by rfl) (by rfl) ?_
            | refine op_pick_false (by rfl) (by rfl) (by rfl) (by rfl) ?_
            | refine op_lss (by rfl) (by rfl) (by rfl) (by rfl) ?_
            | refine op_not (by rfl) (by rfl) (by rfl) ?_
            | refine op_extract (by rfl) (by rfl) (by rfl) (by rfl) ?_
            | refine op_indexAddr_arr (by rfl) (by rfl) (by rfl) (by rfl) (by omega) (by omega) ?_
            | refine wl_skip (by rfl) (by rfl) (by rfl) ?_
            | (refine wl_split_dec (by rfl) (by rfl) (by rfl) (fun _ => ?_) (fun _ => ?_) <;> (try first | contradiction | (exfalso; omega)))
            | refine wl_nil ?_
            | refine at_then_normal ?_
            | refine at_then_ret ?_
            | refine at_then_exit ?_
            | refine at_block_ret ?_
            | refine at_block_exit ?_
            | refine wc_seq ?_
            | refine wc_region ?_
            | refine wc_exit ?_
            | refine wc_ret ?_
            | refine wc_cond_true (by rfl) ?_
            | refine wc_cond_false (by rfl) ?_)
          all_goals try (exfalso; omega)
          all_goals exact ⟨I9, [], ⟨rfl, by rw [has]; exact ⟨rfl, by decide⟩⟩, hm.left (H := [])⟩
        have hj : us.length = min nz 6 := by
          rcases Nat.lt_or_ge us.length (min nz 6) with h | h
          · exact absurd ⟨rfl, h⟩ hgo
          · omega
        rw [← hj, hnu] at hone
        dsimp only at hone
        by_cases hz : (z : Int) > (b.length : Int) - q'
        · rw [if_pos hz] at hone
          rw [hone] at hst
          dsimp only at hst
          rw [hst] at has
          repeat' (first
            | (refine m_callV (d := 102) hm (by rfl) (by rfl) (by rfl) (by rfl) pm1_3 (by exact fr_badC _ 2 p b5) ?_; clear hm; rintro _ I9 _ _ ⟨rfl, rfl⟩ hleI9 hm)
            | (refine m_ret2b_agg hm (by rfl) (by rfl) (by rfl) (by first | exact gt0 | exact gt1 | exact gt2 | exact gt3 | exact gt4 | exact gt5 | exact gt6) (by rfl) ?_)
            | refine m_load1 hm (by rfl) (by rfl) (by rfl) (by first | exact gt0 | exact gt1 | exact gt2 | exact gt3 | exact gt4 | exact gt5 | exact gt6) (by rfl) ?_
            | (refine m_storeAll hm (by rfl) (by rfl) (by rfl) (by rfl) (by first | exact gt0 | exact gt1 | exact gt2 | exact gt3 | exact gt4 | exact gt5 | exact gt6) (by rfl) (by rfl) (by rfl) ?_; clear hm; intro _ hm; try simp only [setn] at hm)
            | refine op_move (by rfl) (by rfl) (by rfl) ?_
            | refine op_assign (by rfl) (by rfl) (by rfl) ?_
            | refine op_pick_true (by rfl) (by rfl) (by rfl) (by rfl) ?_
            | refine op_pick_false (by rfl) (by rfl) (by rfl) (by rfl) ?_
            | refine op_lss (by rfl) (by rfl) (by rfl) (by rfl) ?_
            | refine op_gtr (by rfl) (by rfl) (by rfl) (by rfl) ?_
            | refine op_len_slice (by rfl) (by rfl) (by rfl) ?_
            | refine op_not (by rfl) (by rfl) (by rfl) ?_
            | refine op_extract (by rfl) (by rfl) (by rfl) (by rfl) ?_
            | refine op_sub (by rfl) (by rfl) (by rfl) (by rfl) (by omega) ?_
            | refine op_indexAddr_arr (by rfl) (by rfl) (by rfl) (by rfl) (by omega) (by omega) ?_
            | refine wl_skip (by rfl) (by rfl) (by rfl) ?_
            | (refine wl_split_dec (by rfl) (by rfl) (by rfl) (fun _ => ?_) (fun _ => ?_) <;> (try first | contradiction | (exfalso; omega)))
            | refine wl_nil ?_
            | refine at_then_normal ?_
            | refine at_then_ret ?_
            | refine at_then_exit ?_
            | refine at_block_ret ?_
            | refine at_block_exit ?_
            | refine wc_seq ?_
            | refine wc_region ?_
            | refine wc_exit ?_
            | refine wc_ret ?_
            | refine wc_cond_false (by rfl) ?_
            | (refine wc_cond_dec (by rfl) (fun _ => ?_) (fun _ => ?_) <;> (try first | contradiction | (exfalso; omega))))
          all_goals try (exfalso; omega)
          all_goals exact ⟨I9, [], ⟨rfl, by rw [has]; exact ⟨rfl, by decide⟩⟩, hm.left (H := [])⟩
        rw [if_neg hz] at hone
        have hwr := fr_wrongAsk ⟨v1, v2, v3, v4, (b.drop q').take z, us⟩ aa ca
        have hrs : ((b.flatMap encB).drop (q' * 1)).take ((q' + z - q') * 1) = ((b.drop q').take z).map byteV := by
          rw [flat_sing byteV b, Nat.mul_one, Nat.mul_one, ← List.map_drop, ← List.map_take, show q' + z - q' = z by omega]
        have htl : ((b.drop q').take z).length = q' + z - q' := by rw [List.length_take, List.length_drop]; omega
        generalize (b.drop q').take z = tx at hone hwr hrs htl
        have hrA := hr.le hleA
        by_cases hq0 : Sp.qErr ⟨v1, v2, v3, v4, tx, us⟩ = 0
        · rw [if_neg (by omega)] at hone
          have hgo2 := Sp.oneAt_le hp hone
          rw [hone] at hst
          dsimp only at hst
          rw [hst] at has
          rw [hq0] at hwr
          repeat' (first
            | (refine i_sliceFT (d := 111) (p := q') (q := q' + z) hrA (by rfl) (by rfl) (by rfl) (by rfl) (by rfl) (by omega) (by omega) ?_; intro o84 h84; rw [hrs] at h84)
            | (refine i_bytesStr (d := 112) hm (by rfl) (by rfl) (by rfl) h84 (by omega) ?_)
            | (refine m_readC (d := 115) hm (by rfl) (by rfl) (by rfl) (by first | exact sub_nil | exact sub1_0 | exact sub1_1 | exact sub1_2 | exact sub1_3 | exact sub2_0 | exact sub2_1 | exact sub2_2 | exact sub2_3 | exact sub2_4) (hwr I3) ?_; clear hm; intro _ hm)
            | (refine m_var1 (d := 5) hm (by rfl) (by rfl) (by rfl) (by rfl) (by rfl) ?_; clear hm; intro b5 _ hm)
            | (refine m_push (d := 126) hm (by rfl) (by rfl) (by rfl) (by rfl) (by rfl) (by first | exact gt0 | exact gt1 | exact gt2 | exact gt3 | exact gt4 | exact gt5 | exact gt6) (by rfl) (by rfl) (by rfl) (by rfl) (by omega) (by omega) ?_; clear hm; intro a126 cp126 _ _ hm; try simp only [setn] at hm)
            | refine m_load1 hm (by rfl) (by rfl) (by rfl) (by first | exact gt0 | exact gt1 | exact gt2 | exact gt3 | exact gt4 | exact gt5 | exact gt6) (by rfl) ?_
            | refine m_loadAll hm (by rfl) (by rfl) (by rfl) (by first | exact gt0 | exact gt1 | exact gt2 | exact gt3 | exact gt4 | exact gt5 | exact gt6) (by rfl) ?_
            | (refine m_store1 hm (by rfl) (by rfl) (by rfl) (by rfl) (by first | exact gt0 | exact gt1 | exact gt2 | exact gt3 | exact gt4 | exact gt5 | exact gt6) (by rfl) (by rfl) (by rfl) ?_; clear hm; intro _ hm; try simp only [setn] at hm)
            | refine op_move (by rfl) (by rfl) (by rfl) ?_
            | refine op_assign (by rfl) (by rfl) (by rfl) ?_
            | refine op_pick_true (by rfl) (by rfl) (by rfl) (by rfl) ?_
            | refine op_pick_false (by rfl) (by rfl) (by rfl) (by rfl) ?_
            | refine op_lss (by rfl) (by rfl) (by rfl) (by rfl) ?_
            | refine op_gtr (by rfl) (by rfl) (by rfl) (by rfl) ?_
            | refine op_neq (by rfl) (by rfl) (by rfl) (by rfl) ?_
            | refine op_len_slice (by rfl) (by rfl) (by rfl) ?_
            | refine op_not (by rfl) (by rfl) (by rfl) ?_
            | refine op_add (by rfl) (by rfl) (by rfl) (by rfl) (by omega) ?_
            | refine op_sub (by rfl) (by rfl) (by rfl) (by rfl) (by omega) ?_
            | refine op_indexAddr_arr (by rfl) (by rfl) (by rfl) (by rfl) (by omega) (by omega) ?_
            | refine op_fieldAddr (by rfl) (by rfl) (by rfl) ?_
            | refine wl_skip (by rfl) (by rfl) (by rfl) ?_
            | (refine wl_split_dec (by rfl) (by rfl) (by rfl) (fun _ => ?_) (fun _ => ?_) <;> (try first | contradiction | (exfalso; omega)))
            | refine wl_nil ?_
            | refine at_then_normal ?_
            | refine at_then_exit ?_
            | refine at_block_normal ?_
            | refine at_block_exit ?_
            | refine wc_seq ?_
            | refine wc_region ?_
            | refine wc_skip ?_
            | refine wc_exit ?_
            | refine wc_cond_false (by rfl) ?_
            | (refine wc_cond_dec (by rfl) (fun _ => ?_) (fun _ => ?_) <;> (try first | contradiction | (exfalso; omega))))
          all_goals try (exfalso; omega)
          all_goals obtain ⟨I8, hle8, hm8, hrow⟩ := hm.swap.freeze
          all_goals have hm9 := (hm8.perm (List.perm_middle (l₁ := [_, _, _])).symm).tl.tl.tl
          all_goals have hl1 : (qs ++ [(⟨v1, v2, v3, v4, tx, us⟩ : Sp.Qn)]).length = qs.length + 1 := by rw [List.length_append, List.length_singleton]
          all_goals refine at_round (⟨qs ++ [⟨v1, v2, v3, v4, tx, us⟩], q' + z, I8, a126, cp126, xs ++ askV v1 v2 v3 v4 tx aa us.length ca, b5⟩ : UL) (by exact ⟨rfl, rfl, by rw [hl1]; rfl, rfl, trivial⟩) ⟨?_, ((hle1.trans hle2).trans hle3).trans hle8, AsksAt.snoc ⟨aa, ca, rfl, hrow⟩ (hat.le ((hle2.trans hle3).trans hle8)), by dsimp only; omega, by dsimp only; omega, ?_⟩ (by dsimp only; omega)
          all_goals dsimp only
          all_goals first
            | (rw [hl1]; exact hm9)
            | (rw [has]
               cases Sp.asksF b (b.length - (q' + z)) (q' + z) with
               | error e => rfl
               | ok l => exact congrArg Except.ok (by simp))
        · rw [if_pos hq0] at hone
          rw [hone] at hst
          dsimp only at hst
          rw [hst] at has
          repeat' (first
            | (refine i_sliceFT (d := 111) (p := q') (q := q' + z) hrA (by rfl) (by rfl) (by rfl) (by rfl) (by rfl) (by omega) (by omega) ?_; intro o84 h84; rw [hrs] at h84)
            | (refine i_bytesStr (d := 112) hm (by rfl) (by rfl) (by rfl) h84 (by omega) ?_)
            | (refine m_readC (d := 115) hm (by rfl) (by rfl) (by rfl) (by first | exact sub_nil | exact sub1_0 | exact sub1_1 | exact sub1_2 | exact sub1_3 | exact sub2_0 | exact sub2_1 | exact sub2_2 | exact sub2_3 | exact sub2_4) (hwr I3) ?_; clear hm; intro _ hm)
            | (refine m_callV (d := 120) hm (by rfl) (by rfl) (by rfl) (by rfl) pm1_3 (by exact fr_badC _ _ p b5) ?_; clear hm; rintro _ I9 _ _ ⟨rfl, rfl⟩ hleI9 hm)
            | (refine m_ret2b_agg hm (by rfl) (by rfl) (by rfl) (by first | exact gt0 | exact gt1 | exact gt2 | exact gt3 | exact gt4 | exact gt5 | exact gt6) (by rfl) ?_)
            | refine m_load1 hm (by rfl) (by rfl) (by rfl) (by first | exact gt0 | exact gt1 | exact gt2 | exact gt3 | exact gt4 | exact gt5 | exact gt6) (by rfl) ?_
            | refine m_loadAll hm (by rfl) (by rfl) (by rfl) (by first | exact gt0 | exact gt1 | exact gt2 | exact gt3 | exact gt4 | exact gt5 | exact gt6) (by rfl) ?_
            | (refine m_storeAll hm (by rfl) (by rfl) (by rfl) (by rfl) (by first | exact gt0 | exact gt1 | exact gt2 | exact gt3 | exact gt4 | exact gt5 | exact gt6) (by rfl) (by rfl) (by rfl) ?_; clear hm; intro _ hm; try simp only [setn] at hm)
            | (refine m_store1 hm (by rfl) (by rfl) (by rfl) (by rfl) (by first | exact gt0 | exact gt1 | exact gt2 | exact gt3 | exact gt4 | exact gt5 | exact gt6) (by rfl) (by rfl) (by rfl) ?_; clear hm; intro _ hm; try simp only [setn] at hm)
            | refine op_move (by rfl) (by rfl) (by rfl) ?_
            | refine op_assign (by rfl) (by rfl) (by rfl) ?_
            | refine op_pick_true (by rfl) (by rfl) (by rfl) (by rfl) ?_
            | refine op_pick_false (by rfl) (by rfl) (by rfl) (by rfl) ?_
            | refine op_lss (by rfl) (by rfl) (by rfl) (by rfl) ?_
            | refine op_gtr (by rfl) (by rfl) (by rfl) (by rfl) ?_
            | refine op_neq (by rfl) (by rfl) (by rfl) (by rfl) ?_
            | refine op_len_slice (by rfl) (by rfl) (by rfl) ?_
            | refine op_not (by rfl) (by rfl) (by rfl) ?_
            | refine op_extract (by rfl) (by rfl) (by rfl) (by rfl) ?_
            | refine op_add (by rfl) (by rfl) (by rfl) (by rfl) (by omega) ?_
            | refine op_sub (by rfl) (by rfl) (by rfl) (by rfl) (by omega) ?_
            | refine op_indexAddr_arr (by rfl) (by rfl) (by rfl) (by rfl) (by omega) (by omega) ?_
            | refine op_fieldAddr (by rfl) (by rfl) (by rfl) ?_
            | refine wl_skip (by rfl) (by rfl) (by rfl) ?_
            | (refine wl_split_dec (by rfl) (by rfl) (by rfl) (fun _ => ?_) (fun _ => ?_) <;> (try first | contradiction | (exfalso; omega)))
            | refine wl_nil ?_
            | refine at_then_normal ?_
            | refine at_then_ret ?_
            | refine at_then_exit ?_
            | refine at_block_ret ?_
            | refine at_block_exit ?_
            | refine wc_seq ?_
            | refine wc_region ?_
            | refine wc_skip ?_
            | refine wc_exit ?_
            | refine wc_ret ?_
            | refine wc_cond_false (by rfl) ?_
            | (refine wc_cond_dec (by rfl) (fun _ => ?_) (fun _ => ?_) <;> (try first | contradiction | (exfalso; omega))))
          all_goals try (exfalso; omega)
          all_goals exact ⟨I9, [], ⟨rfl, by rw [has]; exact ⟨rfl, hq0⟩⟩, hm.left (H := [])⟩
  · obtain rfl : p = b.length := by omega
    rw [Sp.asksF_out (Nat.le_refl _)] at has
    repeat' (first
      | (refine m_ret2b_agg hm (by rfl) (by rfl) (by rfl) (by first | exact gt0 | exact gt1 | exact gt2 | exact gt3 | exact gt4 | exact gt5 | exact gt6) (by rfl) ?_)
      | refine m_load1 hm (by rfl) (by rfl) (by rfl) (by first | exact gt0 | exact gt1 | exact gt2 | exact gt3 | exact gt4 | exact gt5 | exact gt6) (by rfl) ?_
      | (refine m_storeAll hm (by rfl) (by rfl) (by rfl) (by rfl) (by first | exact gt0 | exact gt1 | exact gt2 | exact gt3 | exact gt4 | exact gt5 | exact gt6) (by rfl) (by rfl) (by rfl) ?_; clear hm; intro _ hm; try simp only [setn] at hm)
      | refine op_move (by rfl) (by rfl) (by rfl) ?_
      | refine op_assign (by rfl) (by rfl) (by rfl) ?_
      | refine op_lss (by rfl) (by rfl) (by rfl) (by rfl) ?_
      | refine op_len_slice (by rfl) (by rfl) (by rfl) ?_
      | refine op_struct (by rfl) (by rfl) (by rfl) (by rfl) ?_
      | refine wl_nil ?_
      | refine at_then_normal ?_
      | refine at_then_exit ?_
      | refine at_block_exit ?_
      | refine wc_seq ?_
      | refine wc_region ?_
      | refine wc_exit ?_
      | refine wc_ret ?_
      | (refine wc_cond_dec (by rfl) (fun _ => ?_) (fun _ => ?_) <;> (try first | contradiction | (exfalso; omega))))
    all_goals try (exfalso; omega)
    obtain ⟨I8, hle8, hm8, hrow⟩ := hm.swap.freeze
    have has2 : Sp.asks b = .ok qs := by
      rw [has]
      exact congrArg Except.ok (List.append_nil qs)
    exact ⟨I8, [], ⟨rfl, by rw [has2]; exact ⟨a, ac, xs, rfl, hrow, hat.le hle8, hqp⟩⟩, hm8.left (H := [])⟩
end Go.Proofs.YtkbiakajlfmakaaDoor
end
