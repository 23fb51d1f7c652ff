/- Own work: texts FrD, FrE, FrF, FwApp, FrG, FrH, one behind the other. -/
import Derived.Test.YtkbiakajlfmakaaDoorFt9
import Derived.Lib.AppendStr
section
namespace Go.Fw
open Go
/-- is it cells of such a type? -/
def HItem.isTy (e : Nat) : HItem → Bool
  | .obj _ (.cells _ t _) => Nat.beq t e
  | .obj _ _ => false
  | .row _ t _ _ _ => Nat.beq t e
def othB (e i : Nat) (H : List HItem) : Bool := (H.eraseIdx i).all (fun h => !(h.isTy e))
section
variable {E : Ent} {I : Imm} {H : List HItem} {w w' : World}
theorem Mem.grow5 {e sz n n' i : Nat} {v v' : Value} {xs xs' : List Value} (hm : Mem E I H w) (hX : E.X = []) (hi : H[i]? = some (.row v e sz n xs)) (hb : RowKit.Below E.w0.heap.size w w')
    (hoth : ∀ (k : Nat) (o : Obj), w.heap[k]? = some o → (∀ c fz, o ≠ .cells c e fz) → w'.heap[k]? = some o) (ho : w'.ownsRow E.w0.heap.size e sz v' n' xs') (hI : ∀ b o, I b = some o → b < E.w0.heap.size) (hH : othB e i H = true) :
    Mem E I (H.set i (.row v' e sz n' xs')) w' := by
  have hs := hm.kept.size
  have hnt : ∀ j x, j ≠ i → H[j]? = some x → x.isTy e = false := fun j x hj hx => by
    have h1 := List.all_eq_true.1 hH x (List.mem_eraseIdx_iff_getElem?.2 ⟨j, hj, hx⟩)
    simpa using h1
  have hcell : ∀ j x b, j ≠ i → H[j]? = some x → x.blk = some b → ∃ o, w.heap[b]? = some o ∧ (∀ c fz, o ≠ .cells c e fz) := fun j x b hj hx hxb => by
    have h1 := hnt j x hj hx
    have h2 := hm.ok x (List.mem_of_getElem? hx)
    cases x with
    | obj b' o =>
      simp only [HItem.blk, Option.some.injEq] at hxb
      subst hxb
      refine ⟨o, h2, fun c fz hc => ?_⟩
      subst hc
      simp [HItem.isTy] at h1
    | row v2 t2 sz2 n2 xs2 =>
      obtain ⟨c, hc⟩ := own_has h2 hxb
      refine ⟨_, hc, fun c' fz hc' => ?_⟩
      injection hc' with _ e2 _
      subst e2
      simp [HItem.isTy] at h1
  have hkeep : ∀ j x b, j ≠ i → H[j]? = some x → x.blk = some b → w'.heap[b]? = w.heap[b]? := fun j x b hj hx hxb => by
    obtain ⟨o, h1, h2⟩ := hcell j x b hj hx hxb
    rw [hoth b o h1 h2, h1]
  have hok : ∀ j x, j ≠ i → H[j]? = some x → x.ok w' := fun j x hj hx => by
    classical
    have h2 := hm.ok x (List.mem_of_getElem? hx)
    refine HItem.ok.kept (X := (List.range w.heap.size).filter (fun k => decide (w'.heap[k]? ≠ w.heap[k]?))) h2 ⟨hb.os, hb.tape, hb.output, hb.size, fun k hk hn => ?_⟩ (fun b hxb hbx => ?_)
    · by_cases h : w'.heap[k]? = w.heap[k]?
      · exact h
      · exact absurd (List.mem_filter.2 ⟨List.mem_range.2 hk, by simpa using h⟩) hn
    · have h3 := (List.mem_filter.1 hbx).2
      exact absurd (hkeep j x b hj hx hxb) (by simpa using h3)
  have hge : ∀ g, v'.ownBlock = some g → E.w0.heap.size ≤ g ∧ ∃ c, w'.heap[g]? = some (.cells c e (0, 0)) := fun g hg => by
    rcases ho.2 with ⟨rfl, _⟩ | ⟨g', cap, cur, rfl, hbg, hh, _⟩
    · cases hg
    · simp only [Value.ownBlock, Option.some.injEq] at hg
      subst hg; exact ⟨hbg, cur, hh⟩
  have ho0 : w'.ownsRow 0 e sz v' n' xs' := by
    refine ⟨ho.1, ?_⟩
    rcases ho.2 with h | ⟨g', cap, cur, h1, _, h3⟩
    · exact .inl h
    · exact .inr ⟨g', cap, cur, h1, Nat.zero_le _, h3⟩
  have hset : ∀ x ∈ H.set i (.row v' e sz n' xs'), x = .row v' e sz n' xs' ∨ ∃ j, j ≠ i ∧ H[j]? = some x := fun x hx => by
    obtain ⟨j, hj⟩ := List.mem_iff_getElem?.1 hx
    rw [List.getElem?_set] at hj
    by_cases e : i = j
    · rw [if_pos e] at hj
      split at hj
      · simp only [Option.some.injEq] at hj; exact .inl hj.symm
      · cases hj
    · rw [if_neg e] at hj; exact .inr ⟨j, fun e' => e e'.symm, hj⟩
  have key : ∀ m z b, m ≠ i → H[m]? = some z → z.blk = some b → v'.ownBlock = some b → False := fun m z b hmi hz hzb hvb => by
    obtain ⟨o, h1, h2⟩ := hcell m z b hmi hz hzb
    obtain ⟨_, c, h3⟩ := hge b hvb
    rw [hoth b o h1 h2] at h3
    exact h2 _ _ (Option.some.inj h3)
  refine ⟨⟨by rw [hb.os, hm.kept.os], by rw [hb.tape, hm.kept.tape], by rw [hb.output, hm.kept.output], Nat.le_trans hs hb.size, fun k hk hn => by rw [hb.block k hk]; exact hm.kept.blk k hk hn⟩, hm.le, fun b o h => by rw [hb.block b (hI b o h)]; exact hm.inv b o h, fun x hx => ?_, fun x hx b hxb => ?_, fun x hx b hxb => ?_, ?_, hm.grow⟩
  · rcases hset x hx with rfl | ⟨j, hj, hx⟩
    · exact ho0
    · exact hok j x hj hx
  · rcases hset x hx with rfl | ⟨j, hj, hx⟩
    · cases hIb : I b with
      | none => rfl
      | some o => have h1 := hI b o hIb; have h2 := (hge b hxb).1; omega
    · exact hm.free x (List.mem_of_getElem? hx) b hxb
  · rcases hset x hx with rfl | ⟨j, hj, hx⟩
    · exact .inr (hge b hxb).1
    · exact hm.born x (List.mem_of_getElem? hx) b hxb
  · refine List.pairwise_iff_getElem.2 (fun j k hj hk hjk b h1 h2 => ?_)
    have g1 : (H.set i (.row v' e sz n' xs'))[j]? = some (H.set i (.row v' e sz n' xs'))[j] := List.getElem?_eq_getElem hj
    have g2 : (H.set i (.row v' e sz n' xs'))[k]? = some (H.set i (.row v' e sz n' xs'))[k] := List.getElem?_eq_getElem hk
    generalize (H.set i (.row v' e sz n' xs'))[j] = x at g1 h1
    generalize (H.set i (.row v' e sz n' xs'))[k] = y at g2 h2
    have hil : i < H.length := (List.getElem?_eq_some_iff.1 hi).1
    rw [List.getElem?_set] at g1 g2
    by_cases e1 : i = j
    · rw [if_pos e1, if_pos hil] at g1
      rw [if_neg (by omega)] at g2
      injection g1 with g1; subst g1
      exact key k y b (by omega) g2 h2 h1
    · rw [if_neg e1] at g1
      by_cases e2 : i = k
      · rw [if_pos e2, if_pos hil] at g2
        injection g2 with g2; subst g2
        exact key j x b (by omega) g1 h1 h2
      · rw [if_neg e2] at g2
        have := hm.dist' g1 g2 h1 h2
        omega
theorem Mem.base {e sz n i : Nat} {v : Value} {xs : List Value} (hm : Mem E I H w) (hX : E.X = []) (hi : H[i]? = some (.row v e sz n xs)) : w.ownsRow E.w0.heap.size e sz v n xs := by
  have ho := hm.getRow hi
  refine ⟨ho.1, ?_⟩
  rcases ho.2 with h | ⟨g, cap, cur, h1, _, h3⟩
  · exact .inl h
  · refine .inr ⟨g, cap, cur, h1, ?_, h3⟩
    rcases hm.born _ (List.mem_of_getElem? hi) g (by rw [h1]; rfl) with h | h
    · rw [hX] at h; cases h
    · exact h
end
section
variable {P : Program} {N : Nat} {ds : List Deferred} {Q : Exit → Act → World → Prop} {l : Log} {w : World} {ops : Array Oper} {os : List Oper}
variable {d : Nat} {ty : TypeId} {pos : String} {af : Array Edge} {g : Option (Nat × Bool)} {t t' : TypeId} {x y : Operand} {E : Ent} {I : Imm} {H : List HItem}
/-- 'append(s, u...)' of a text. -/
theorem m_appStr {e : TypeId} [TySlice P t e] [TyStr P t'] [Elem P e 1 1] (hz : (P.info? e).bind (·.zero) = some (.int .u8 0)) {i n : Nat} {v : Value} {xs : List Value} {s : List UInt8} (hm : Mem E I H w) (hX : E.X = []) (hI : ∀ b o, I b = some o → b < E.w0.heap.size)
    (hw : want ops l ⟨some d, .call ⟨.builtin .append, #[x, y], #[t, t']⟩, ty, pos, af, g⟩ = some true) (hN : Nat.blt d N = true)
    (hx : ev l x = some v) (hy : ev l y = some (str s)) (hi : H[i]? = some (.row v e 1 n xs)) (hH : othB e i H = true) (hlen : n + s.length ≤ 140737488355328)
    (k : ∀ a cp w', Mem E I (H.set i (.row (.slice a (n + s.length) cp) e 1 (n + s.length) (xs ++ s.map byteV))) w' → WL P N ds ops Q os ((d, .slice a (n + s.length) cp) :: l) w') :
    WL P N ds ops Q (⟨some d, .call ⟨.builtin .append, #[x, y], #[t, t']⟩, ty, pos, af, g⟩ :: os) l w := by
  obtain ⟨inf, z, hinf, hzz, hs, hby, _, _⟩ := Elem.out (P := P) (e := e)
  have hz2 : inf.zero = some (.int .u8 0) := by simpa [hinf] using hz
  have hsz : (⟨s.toArray⟩ : ByteArray).size = s.length := str_size s
  obtain ⟨v', w', hrun, ho, hg, _⟩ := Lib.run_append_own_string (P := P) (w := w) E.w0.heap.size t t' ty e inf (TySlice.out (P := P) (t := t)) (TyStr.out (P := P) (t := t')) hinf hz2 hs hby v n xs (hm.base hX hi) ⟨s.toArray⟩ (by unfold maxLen; rw [hsz]; omega) (by rw [hsz]; omega) hm.kept.size
  have hst : Lib.strCells ⟨s.toArray⟩ = s.map byteV := rfl
  rw [hsz, hst] at ho
  have hb : RowKit.Below E.w0.heap.size w w' := ⟨hg.os, hg.tape, hg.output, hg.size, fun k hk => hg.block k (by have := hm.kept.size; omega) (fun hv => by
    rcases hm.born _ (List.mem_of_getElem? hi) k hv.symm with h | h
    · rw [hX] at h; cases h
    · omega)⟩
  have hm' := hm.grow5 hX hi hb (fun k o hk hne => by
    rw [hg.block k (lt_of_heap hk) (fun hv => by
      obtain ⟨c, hc⟩ := own_has (hm.getRow hi) hv.symm
      rw [hc] at hk
      exact hne _ _ (Option.some.inj hk).symm)]
    exact hk) ho hI hH
  have hlt : i < H.length := (List.getElem?_eq_some_iff.1 hi).1
  obtain ⟨a, cp', rfl⟩ := own_val (hm'.getRow (i := i) (by rw [List.getElem?_set]; simp [hlt]; exact ⟨rfl, rfl, rfl, rfl, rfl⟩))
  refine wl_value (w' := w') (v := .slice a (n + s.length) cp') rfl hw hN (fun c hc => ?_) (k a cp' w' hm')
  simp [execOp, resolve, invoke, builtin, hc.ev hx, hc.ev hy]
  rw [show str s = Value.string ⟨s.toArray⟩ from rfl, hrun]; rfl
end
end Go.Fw
namespace Go.Proofs.YtkbiakajlfmakaaDoor
open Go.Fw
section
variable {N : Nat} {ds : List Deferred} {Q : Exit → Act → World → Prop} {l : Log} {w : World} {ops : Array Oper} {os : List Oper}
variable {d : Nat} {ty : TypeId} {pos : String} {af : Array Edge} {g : Option (Nat × Bool)} {E : Ent} {I : Imm} {H : List HItem}
/-- strconv.AppendInt, at base 10. -/
theorem m_appInt {i n : Nat} {v : Value} {z : Int} {xs : List Value} {ps : List Operand} {tys : Array TypeId} (hm : Mem E I H w) (hX : E.X = []) (hI : ∀ b o, I b = some o → b < E.w0.heap.size) (hC : ConvF I) (hz : Sp.i64 z)
    (hw : want ops l ⟨some d, .call ⟨.value (.func 48), ps.toArray, tys⟩, ty, pos, af, g⟩ = some true) (hN : Nat.blt d N = true)
    (hx : evs l ps = some [v, .int .i64 z, .int .i64 10]) (hi : H[i]? = some (.row v 5 1 n xs)) (hH : othB 5 i H = true) (hlen : n + 21 ≤ 140737488355328)
    (k : ∀ a cp w', Mem E I (H.set i (.row (.slice a (n + (Lib.itoa z).length) cp) 5 1 (n + (Lib.itoa z).length) (xs ++ (Lib.itoa z).map byteV))) w' → WL Tryd.prog N ds ops Q os ((d, .slice a (n + (Lib.itoa z).length) cp) :: l) w') :
    WL Tryd.prog N ds ops Q (⟨some d, .call ⟨.value (.func 48), ps.toArray, tys⟩, ty, pos, af, g⟩ :: os) l w := by
  have hB : E.w0.heap.size ≤ w.heap.size := hm.kept.size
  have htab : Lib.TabBelow Tryd.prog E.w0.heap.size w "internal/strconv.uint64pow10" .u64 Lib.pow10Tab := fun w2 hb => by
    obtain ⟨ty, fr, h1⟩ := hC.tab
    have hg : Tryd.prog.globalNamed "internal/strconv.uint64pow10" = some 0 := by kernel_rfl
    have h2 : w2.heap[0]? = some (.cells (Lib.pow10Tab.map fun z => Value.int .u64 z).toArray ty fr) := by
      rw [hb.block _ (hI _ _ h1)]; exact hm.inv _ _ h1
    unfold Lib.TabIs
    simp only [World.var?, hg, Option.bind_some, h2]
  have hc := Tryd.strconv_AppendInt_10 E.w0.heap.size n z hz.1 hz.2 v xs w (hm.base hX hi) hB hlen htab
  refine op_call hw hN hx (Post := fun u w' => w'.ownsRow E.w0.heap.size 5 1 u (n + (Lib.itoa z).length) (xs ++ Lib.byteCells (Lib.itoa z)) ∧ RowKit.Below E.w0.heap.size w w' ∧ Lib.OthersKept 5 none w w')
    ⟨hc.mono (fun e w' ⟨v', he, h1, h2, h3⟩ => by subst he; exact ⟨h1, h2, h3⟩)⟩ (fun u w' ⟨h1, h2, h3⟩ => ?_)
  have hbc : Lib.byteCells (Lib.itoa z) = (Lib.itoa z).map byteV := rfl
  rw [hbc] at h1
  have hm' := hm.grow5 hX hi h2 (fun k o hk hne => h3 k o hk (by simp) (fun c fz => hne c fz)) h1 hI hH
  have hlt : i < H.length := (List.getElem?_eq_some_iff.1 hi).1
  obtain ⟨a, cp', rfl⟩ := own_val (hm'.getRow (i := i) (by rw [List.getElem?_set]; simp [hlt]; exact ⟨rfl, rfl, rfl, rfl, rfl⟩))
  exact k a cp' w' hm'
end
end Go.Proofs.YtkbiakajlfmakaaDoor
end
section
namespace Go.Sp
open Go.Lib (itoa)
def hdP (a : Qn) (k : Nat) : List UInt8 := (List.range k).flatMap (fun i => (if 0 < i then [32] else []) ++ itoa ((hdN a).getD i 0))
def arP (a : Qn) (k : Nat) : List UInt8 := (a.args.take k).flatMap (fun v => itoa v ++ [10])
theorem hdP_succ (a : Qn) (k : Nat) : hdP a (k + 1) = hdP a k ++ ((if 0 < k then [32] else []) ++ itoa ((hdN a).getD k 0)) := by
  rw [hdP, List.range_succ, List.flatMap_append, ← hdP]; simp
theorem hdP_all (a : Qn) : hdP a 6 ++ [10] = wr (hdN a) hdr := by
  rw [hdP, show List.range 6 = [0, 1, 2, 3, 4, 5] from rfl]
  simp [hdN, hdr, wr]
theorem arP_succ {a : Qn} {k : Nat} {v : Int} (h : a.args[k]? = some v) : arP a (k + 1) = arP a k ++ (itoa v ++ [10]) := by
  rw [arP, List.take_add_one, h, List.flatMap_append, ← arP]; simp
theorem wr_ten : ∀ (l : List Int), l.flatMap (fun v => itoa v ++ [10]) = wr l (List.replicate l.length 10)
  | [] => rfl
  | v :: l => by
    rw [List.flatMap_cons, wr_ten l, List.length_cons, List.replicate_succ, wr]; simp
theorem arP_all (a : Qn) : arP a a.args.length = wr a.args (List.replicate a.args.length 10) := by
  rw [arP, List.take_length, wr_ten]
theorem qBytes_eq (a : Qn) : hdP a 6 ++ [10] ++ arP a a.args.length ++ a.text = qBytes a := by rw [hdP_all, arP_all]; rfl
theorem hd_i64 {a : Qn} (hf : a.fits) (hq : qErr a = 0) (k : Nat) : i64 ((hdN a).getD k 0) := by
  obtain ⟨f1, f2, f3, f4, _⟩ := hf
  obtain ⟨q1, q2⟩ := qErr_args hq
  have h5 : i64 (a.args.length : Int) := ⟨by omega, by omega⟩
  have h6 : i64 (a.text.length : Int) := ⟨by omega, by omega⟩
  have h0 : i64 0 := ⟨by decide, by decide⟩
  match k with
  | 0 => exact f1
  | 1 => exact f2
  | 2 => exact f3
  | 3 => exact f4
  | 4 => exact h5
  | 5 => exact h6
  | _ + 6 => exact h0
theorem hdP_len {a : Qn} (hf : a.fits) (hq : qErr a = 0) : ∀ k, (hdP a k).length ≤ 21 * k
  | 0 => by simp [hdP]
  | k + 1 => by
    rw [hdP_succ, List.length_append, List.length_append]
    have h1 := hdP_len hf hq k
    have h2 := itoa_len20 (hd_i64 hf hq k)
    have h3 : (if 0 < k then [32] else [] : List UInt8).length ≤ 1 := by split <;> simp
    omega
theorem arP_len {a : Qn} (hf : a.fits) : ∀ k, (arP a k).length ≤ 21 * k
  | 0 => by simp [arP]
  | k + 1 => by
    have h1 := arP_len hf k
    cases h : a.args[k]? with
    | none =>
      rw [arP, List.take_add_one, h, List.flatMap_append, ← arP]
      simp; omega
    | some v =>
      rw [arP_succ h, List.length_append, List.length_append]
      have h2 := itoa_len20 (hf.2.2.2.2 v (List.mem_of_getElem? h))
      simp; omega
/-- the first question with which something is wrong. -/
def badAt : List Qn → Nat → Option (Nat × Nat)
  | [], _ => none
  | q :: qs, i => if qErr q ≠ 0 then some (qErr q, i) else badAt qs (i + 1)
theorem badAt_ok : ∀ {qs : List Qn} {i : Nat}, badAt qs i = none → ∀ q ∈ qs, qErr q = 0
  | [], _, _, q, hq => by cases hq
  | x :: qs, i, h, q, hq => by
    rw [badAt] at h
    split at h
    · cases h
    · rename_i h0
      rcases List.mem_cons.1 hq with rfl | hq
      · omega
      · exact badAt_ok h q hq
end Go.Sp
namespace Go.Proofs.YtkbiakajlfmakaaDoor
open Go.Fw
/-- what 'Bytes' answers. -/
def ToBytes (qs : List Sp.Qn) : Value → Imm → List HItem → Prop := fun v I' H' => H' = [] ∧ match Sp.badAt qs 0 with
  | none => ∃ a cp, v = .tuple #[.slice a (qs.flatMap Sp.qBytes).length cp, .agg #[nt 0, nt 0]] ∧ RowI I' 5 1 (.slice a (qs.flatMap Sp.qBytes).length cp) (qs.flatMap Sp.qBytes).length ((qs.flatMap Sp.qBytes).map byteV) ∧ (qs.flatMap Sp.qBytes).length ≤ qs.length * 5000
  | some (e, p) => v = .tuple #[.slice none 0 0, .agg #[nt e, nt p]] ∧ e ≠ 0
structure BL where
  i : Nat
  o : List UInt8
  a : Option Addr
  cp : Nat
abbrev bRow (o : List UInt8) (a : Option Addr) (cp : Nat) : HItem := .row (.slice a o.length cp) 5 1 o.length (o.map byteV)
set_option maxHeartbeats 16000000 in
theorem fr_bytes {I : Imm} {qs : List Sp.Qn} {la : Option Addr} {lc : Nat} {xs : List Value} (hr : RowI I 41 6 (.slice la qs.length lc) qs.length xs) (hat : AsksAt I qs xs) (hl : qs.length ≤ 2097152) (hf : ∀ q ∈ qs, q.fits) (hC : ConvF I) :
    CalM Tryd.prog 18 #[.slice la qs.length lc] I [] (ToBytes qs) := by
  refine ⟨fun w hm => ?_⟩
  have hI : ∀ b o, I b = some o → b < (⟨w, blks [], I⟩ : Ent).w0.heap.size := fun b o h => lt_of_heap (hm.inv b o h)
  have hX : (⟨w, blks [], I⟩ : Ent).X = [] := rfl
  generalize (⟨w, blks [], I⟩ : Ent) = E at hm hI hX ⊢
  refine enter (N := 79) Tryd.func18 rfl [(0, .slice la qs.length lc)] args1 rfl ?_
  repeat' (first
    | (refine m_allocS (d := 3) hm (by rfl) (by rfl) ?_; clear hm; intro b3 _ hm)
    | refine op_move (by rfl) (by rfl) (by rfl) ?_
    | refine op_assign (by rfl) (by rfl) (by rfl) ?_
    | refine op_len_slice (by rfl) (by rfl) (by rfl) ?_
    | refine wl_nil ?_
    | refine at_then_normal ?_
    | refine wc_seq ?_
    | refine wc_region ?_
    | refine wc_block ?_)
  refine wc_loop (fun x : BL => [(3, ptr b3), (12, .slice la qs.length lc), (13, nt qs.length), (14, nt x.i), (4, .slice x.a x.o.length x.cp)])
    (fun x w' => Mem E I [bRow x.o x.a x.cp, .cell b3 [nt 0, nt 0] 44] w' ∧ x.i ≤ qs.length ∧ x.o = (qs.take x.i).flatMap Sp.qBytes ∧ x.o.length ≤ x.i * 5000 ∧ Sp.badAt qs 0 = Sp.badAt (qs.drop x.i) x.i) (fun x => qs.length - x.i) ⟨0, [], none, 0⟩
    (by exact ⟨rfl, rfl, rfl, rfl, rfl, trivial⟩) ⟨hm.nil 5 1, Nat.zero_le _, rfl, Nat.zero_le _, rfl⟩ ?_
  clear hm
  rintro ⟨i, o, a, cp⟩ w1 ⟨hm, hi, ho, hol, hbad⟩
  dsimp only at hm hi ho hol hbad ⊢
  by_cases hlt : i < qs.length
  · have hg : qs[i]? = some qs[i] := List.getElem?_eq_getElem hlt
    have hd : qs.drop i = qs[i] :: qs.drop (i + 1) := List.drop_eq_getElem_cons hlt
    have htk : (qs.take (i + 1)).flatMap Sp.qBytes = (qs.take i).flatMap Sp.qBytes ++ Sp.qBytes qs[i] := by rw [List.take_add_one, hg, List.flatMap_append]; simp
    have hfq := hf _ (List.getElem_mem hlt)
    have hcell := hat.get hg
    generalize qs[i] = q at hg hd htk hfq hcell
    rw [← ho] at htk
    rw [hd, Sp.badAt] at hbad
    obtain ⟨aa, ac, hci, hargs⟩ := hcell
    have hwr := fr_wrong q aa ac
    by_cases hq0 : Sp.qErr q = 0
    case neg =>
      rw [if_pos hq0] at hbad
      repeat' (first
        | (refine i_indexAddr (d := 17) (by rfl) (by rfl) (by rfl) (by rfl) hr (by omega) (by omega) ?_; intro bt ot hpt; rw [show ((i : Int).toNat * 6) = i * 6 from rfl, hci] at hpt)
        | (refine m_readC (d := 20) hm (by rfl) (by rfl) (by rfl) (by first | exact sub_nil | exact sub1_0 | exact sub1_1 | exact sub1_2 | exact sub1_3 | exact sub2_0 | exact sub2_1 | exact sub2_2 | exact sub2_3 | exact sub2_4) (hwr I) ?_; clear hm; intro _ hm)
        | (refine m_ret2b_agg hm (by rfl) (by rfl) (by rfl) (by first | exact gt0 | exact gt1 | exact gt2 | exact gt3 | exact gt4 | exact gt5 | exact gt6) (by rfl) ?_)
        | (refine m_allocS (d := 6) hm (by rfl) (by rfl) ?_; clear hm; intro b6 _ hm)
        | refine m_loadAll hm (by rfl) (by rfl) (by rfl) (by first | exact gt0 | exact gt1 | exact gt2 | exact gt3 | exact gt4 | exact gt5 | exact gt6) (by rfl) ?_
        | refine i_loadN hm (by rfl) (by rfl) (by rfl) (by assumption) (by rfl) ?_
        | (refine m_storeAll hm (by rfl) (by rfl) (by rfl) (by rfl) (by first | exact gt0 | exact gt1 | exact gt2 | exact gt3 | exact gt4 | exact gt5 | exact gt6) (by rfl) (by rfl) (by rfl) ?_; clear hm; intro _ hm; try simp only [setn] at hm)
        | refine op_move (by rfl) (by rfl) (by rfl) ?_
        | refine op_assign (by rfl) (by rfl) (by rfl) ?_
        | refine op_lss (by rfl) (by rfl) (by rfl) (by rfl) ?_
        | refine op_neq (by rfl) (by rfl) (by rfl) (by rfl) ?_
        | refine op_struct (by rfl) (by rfl) (by rfl) (by rfl) ?_
        | refine wl_nil ?_
        | refine at_then_normal ?_
        | refine at_then_ret ?_
        | refine at_block_ret ?_
        | refine wc_seq ?_
        | refine wc_region ?_
        | refine wc_block ?_
        | refine wc_skip ?_
        | refine wc_ret ?_
        | (refine wc_cond_dec (by rfl) (fun _ => ?_) (fun _ => ?_) <;> (try first | contradiction | (exfalso; omega))))
      all_goals try (exfalso; omega)
      exact ⟨I, [], ⟨rfl, by rw [hbad]; exact ⟨rfl, hq0⟩⟩, hm.left (H := [])⟩
    rw [if_neg (by omega)] at hbad
    rw [hq0] at hwr
    have hi64 := Sp.hd_i64 hfq hq0
    have hhl := Sp.hdP_len hfq hq0
    have hal := Sp.arP_len hfq
    obtain ⟨hq5, hq4⟩ := Sp.qErr_args hq0
    repeat' (first
      | (refine i_indexAddr (d := 17) (by rfl) (by rfl) (by rfl) (by rfl) hr (by omega) (by omega) ?_; intro bt ot hpt; rw [show ((i : Int).toNat * 6) = i * 6 from rfl, hci] at hpt)
      | (refine m_readC (d := 20) hm (by rfl) (by rfl) (by rfl) (by first | exact sub_nil | exact sub1_0 | exact sub1_1 | exact sub1_2 | exact sub1_3 | exact sub2_0 | exact sub2_1 | exact sub2_2 | exact sub2_3 | exact sub2_4) (hwr I) ?_; clear hm; intro _ hm)
      | (refine m_buildRow (d := 40) hm (by rfl) (by rfl) (by rfl) (by rfl) (by rfl) (by rfl) (by rfl) (by rfl) (by rfl) ?_; clear hm; intro bb _ hm)
      | (refine m_allocS (d := 6) hm (by rfl) (by rfl) ?_; clear hm; intro b6 _ hm)
      | refine m_load1 hm (by rfl) (by rfl) (by rfl) (by first | exact gt0 | exact gt1 | exact gt2 | exact gt3 | exact gt4 | exact gt5 | exact gt6) (by rfl) ?_
      | refine m_loadAll hm (by rfl) (by rfl) (by rfl) (by first | exact gt0 | exact gt1 | exact gt2 | exact gt3 | exact gt4 | exact gt5 | exact gt6) (by rfl) ?_
      | refine i_loadN hm (by rfl) (by rfl) (by rfl) (by assumption) (by rfl) ?_
      | (refine m_storeAll hm (by rfl) (by rfl) (by rfl) (by rfl) (by first | exact gt0 | exact gt1 | exact gt2 | exact gt3 | exact gt4 | exact gt5 | exact gt6) (by rfl) (by rfl) (by rfl) ?_; clear hm; intro _ hm; try simp only [setn] at hm)
      | refine op_move (by rfl) (by rfl) (by rfl) ?_
      | refine op_assign (by rfl) (by rfl) (by rfl) ?_
      | refine op_lss (by rfl) (by rfl) (by rfl) (by rfl) ?_
      | refine op_neq (by rfl) (by rfl) (by rfl) (by rfl) ?_
      | refine op_len_str (by rfl) (by rfl) (by rfl) ?_
      | refine op_len_slice (by rfl) (by rfl) (by rfl) ?_
      | refine op_fieldAddr (by rfl) (by rfl) (by rfl) ?_
      | refine wl_nil ?_
      | refine at_then_normal ?_
      | refine wc_seq ?_
      | refine wc_region ?_
      | refine wc_block ?_
      | refine wc_skip ?_
      | refine wc_cond_false (by rfl) ?_
      | (refine wc_cond_dec (by rfl) (fun _ => ?_) (fun _ => ?_) <;> (try first | contradiction | (exfalso; omega))))
    all_goals try (exfalso; omega)
    obtain ⟨g0, cap, cur, e1, hm2, hc0, hcm, hs0, ht0⟩ := hm.openRow (by decide)
    injection e1 with e1 _ e3
    injection e1 with e1
    injection e1 with e1 _ _
    subst e1; subst e3
    have hcur : cur = (List.map (Value.int .i64) (Sp.hdN q)).toArray := by
      apply Array.ext'
      rw [List.take_of_length_le (by rw [Array.length_toList, hs0]; exact Nat.le_refl _)] at ht0
      exact ht0
    subst hcur
    clear hm ht0 hs0 hcm hc0
    have hm := hm2
    clear hm2
    refine wc_loop (fun x : BL => [(3, ptr b3), (12, .slice la qs.length lc), (13, nt qs.length), (14, nt i), (6, ptr b6), (4, .slice x.a x.o.length x.cp), (40, .slice (some ⟨bb, 0, none⟩) 6 6), (41, nt 6), (42, nt x.i)])
      (fun x w' => Mem E I [.cell bb (List.map (Value.int .i64) (Sp.hdN q)) 3, askO b6 q.id q.kind q.fr q.to q.text aa q.args.length ac, bRow x.o x.a x.cp, .cell b3 [nt 0, nt 0] 44] w' ∧ x.i ≤ 6 ∧ x.o = o ++ Sp.hdP q x.i) (fun x => 6 - x.i) ⟨0, o, a, cp⟩
      (by exact ⟨rfl, rfl, rfl, rfl, rfl, rfl, rfl, rfl, rfl, trivial⟩) ⟨hm, Nat.zero_le _, by simp [Sp.hdP]⟩ ?_
    clear hm
    rintro ⟨k, o1, a1, cp1⟩ w2 ⟨hm, hk, ho1⟩
    dsimp only at hm hk ho1 ⊢
    have hk1 := hhl k
    have hol1 : o1.length = o.length + (Sp.hdP q k).length := by rw [ho1, List.length_append]
    by_cases hk6 : k < 6
    · have hkv : (List.map (Value.int .i64) (Sp.hdN q))[0 + (k : Int).toNat * 1]? = some (.int .i64 ((Sp.hdN q).getD k 0)) := by
        have h6 : (Sp.hdN q).length = 6 := rfl
        rw [Int.toNat_natCast, Nat.mul_one, Nat.zero_add, List.getElem?_map, List.getD_eq_getElem?_getD, List.getElem?_eq_getElem (by omega)]; rfl
      have hz := hi64 k
      have hsu := Sp.hdP_succ q k
      generalize (Sp.hdN q).getD k 0 = z at hkv hz hsu
      have hz20 := Sp.itoa_len20 hz
      repeat' (first
        | (refine m_load1 (d := 46) hm (by rfl) (by rfl) (by rfl) (by first | exact gt0 | exact gt1 | exact gt2 | exact gt3 | exact gt4 | exact gt5 | exact gt6) (by exact hkv) ?_)
        | (refine m_appInt (d := 54) hm hX hI hC hz (by rfl) (by rfl) (by rfl) (by first | exact gt0 | exact gt1 | exact gt2 | exact gt3 | exact gt4 | exact gt5 | exact gt6) (by rfl) (by omega) ?_; clear hm; intro a54 cp54 _ hm; try simp only [setn] at hm)
        | (refine m_push (d := 51) hm (by rfl) (by rfl) (by rfl) (by rfl) (by rfl) (by first | exact gt0 | exact gt1 | exact gt2 | exact gt3 | exact gt4 | exact gt5 | exact gt6) (by rfl) (by rfl) (by rfl) (by rfl) (by omega) (by omega) ?_; clear hm; intro a51 cp51 _ _ hm; try simp only [setn] at hm)
        | refine op_move (by rfl) (by rfl) (by rfl) ?_
        | refine op_assign (by rfl) (by rfl) (by rfl) ?_
        | refine op_lss (by rfl) (by rfl) (by rfl) (by rfl) ?_
        | refine op_gtr (by rfl) (by rfl) (by rfl) (by rfl) ?_
        | refine op_add (by rfl) (by rfl) (by rfl) (by rfl) (by omega) ?_
        | refine op_indexAddr (by rfl) (by rfl) (by rfl) (by rfl) (by omega) (by omega) ?_
        | refine wl_nil ?_
        | refine at_then_normal ?_
        | refine at_block_normal ?_
        | refine wc_seq ?_
        | refine wc_region ?_
        | refine wc_block ?_
        | refine wc_skip ?_
        | (refine wc_cond_dec (by rfl) (fun _ => ?_) (fun _ => ?_) <;> (try first | contradiction | (exfalso; omega))))
      all_goals try (exfalso; omega)
      · rw [if_pos (by omega)] at hsu
        have hl2 : (o1 ++ ([32] ++ Lib.itoa z)).length = o1.length + 1 + (Lib.itoa z).length := by rw [List.length_append, List.length_append, List.length_singleton]; omega
        refine at_round (⟨k + 1, o1 ++ ([32] ++ Lib.itoa z), a54, cp54⟩ : BL) (by exact ⟨rfl, rfl, rfl, rfl, rfl, by rw [hl2]; rfl, rfl, rfl, rfl, trivial⟩) ⟨?_, by dsimp only; omega, by dsimp only; rw [hsu, ho1, List.append_assoc]⟩ (by dsimp only; omega)
        dsimp only [bRow]
        rw [hl2, List.map_append, List.map_append, ← List.append_assoc]
        exact hm
      · rw [if_neg (by omega)] at hsu
        have hl2 : (o1 ++ ([] ++ Lib.itoa z)).length = o1.length + (Lib.itoa z).length := by rw [List.nil_append, List.length_append]
        refine at_round (⟨k + 1, o1 ++ ([] ++ Lib.itoa z), a54, cp54⟩ : BL) (by exact ⟨rfl, rfl, rfl, rfl, rfl, by rw [hl2]; rfl, rfl, rfl, rfl, trivial⟩) ⟨?_, by dsimp only; omega, by dsimp only; rw [hsu, ho1, List.append_assoc]⟩ (by dsimp only; omega)
        dsimp only [bRow]
        rw [hl2, List.nil_append, List.map_append]
        exact hm
    · obtain rfl : k = 6 := by omega
      repeat' (first
        | (refine m_push (d := 58) hm (by rfl) (by rfl) (by rfl) (by rfl) (by rfl) (by first | exact gt0 | exact gt1 | exact gt2 | exact gt3 | exact gt4 | exact gt5 | exact gt6) (by rfl) (by rfl) (by rfl) (by rfl) (by omega) (by omega) ?_; clear hm; intro a58 cp58 _ _ hm; try simp only [setn] at hm)
        | refine m_load1 hm (by rfl) (by rfl) (by rfl) (by first | exact gt0 | exact gt1 | exact gt2 | exact gt3 | exact gt4 | exact gt5 | exact gt6) (by rfl) ?_
        | refine op_move (by rfl) (by rfl) (by rfl) ?_
        | refine op_assign (by rfl) (by rfl) (by rfl) ?_
        | refine op_lss (by rfl) (by rfl) (by rfl) (by rfl) ?_
        | refine op_len_slice (by rfl) (by rfl) (by rfl) ?_
        | refine op_fieldAddr (by rfl) (by rfl) (by rfl) ?_
        | refine wl_nil ?_
        | refine at_then_normal ?_
        | refine at_then_exit ?_
        | refine at_block_exit ?_
        | refine wc_seq ?_
        | refine wc_region ?_
        | refine wc_block ?_
        | refine wc_exit ?_
        | refine wc_cond_false (by rfl) ?_)
      all_goals try (exfalso; omega)
      have hl2 : (o1 ++ [10]).length = o1.length + 1 := by rw [List.length_append, List.length_singleton]
      refine wc_loop (fun x : BL => [(3, ptr b3), (12, .slice la qs.length lc), (13, nt qs.length), (14, nt i), (6, ptr b6), (4, .slice x.a x.o.length x.cp), (60, .slice aa q.args.length ac), (61, nt q.args.length), (62, nt x.i)])
        (fun x w' => Mem E I [askO b6 q.id q.kind q.fr q.to q.text aa q.args.length ac, bRow x.o x.a x.cp, .cell b3 [nt 0, nt 0] 44] w' ∧ x.i ≤ q.args.length ∧ x.o = o1 ++ [10] ++ Sp.arP q x.i) (fun x => q.args.length - x.i) ⟨0, o1 ++ [10], a58, cp58⟩
        (by exact ⟨rfl, rfl, rfl, rfl, rfl, by rw [hl2]; rfl, rfl, rfl, rfl, trivial⟩) ⟨?_, Nat.zero_le _, by simp [Sp.arP]⟩ ?_
      · dsimp only [bRow]
        rw [hl2, List.map_append]
        exact hm.tl
      clear hm
      rintro ⟨k, o2, a2, cp2⟩ w3 ⟨hm, hk, ho2⟩
      dsimp only at hm hk ho2 ⊢
      have hk2 := hal k
      have hol2 : o2.length = o1.length + 1 + (Sp.arP q k).length := by rw [ho2, List.length_append, List.length_append, List.length_singleton]
      by_cases hk6 : k < q.args.length
      · have hgk : q.args[((k : Nat) : Int).toNat]? = some q.args[k] := List.getElem?_eq_getElem hk6
        have hz := hfq.2.2.2.2 _ (List.getElem_mem hk6)
        have hsu := Sp.arP_succ (List.getElem?_eq_getElem hk6)
        generalize q.args[k] = z at hgk hz hsu
        have hz20 := Sp.itoa_len20 hz
        repeat' (first
          | (refine i_indexFlat (d := 64) (enc := encZ) (z := z) (by rfl) (by rfl) (by rfl) (by rfl) hargs (fun _ => rfl) (by omega) (by omega) hgk ?_; intro bt2 ot2 hpt2)
          | (refine m_appInt (d := 68) hm hX hI hC hz (by rfl) (by rfl) (by rfl) (by first | exact gt0 | exact gt1 | exact gt2 | exact gt3 | exact gt4 | exact gt5 | exact gt6) (by rfl) (by omega) ?_; clear hm; intro a68 cp68 _ hm; try simp only [setn] at hm)
          | (refine m_push (d := 70) hm (by rfl) (by rfl) (by rfl) (by rfl) (by rfl) (by first | exact gt0 | exact gt1 | exact gt2 | exact gt3 | exact gt4 | exact gt5 | exact gt6) (by rfl) (by rfl) (by rfl) (by rfl) (by omega) (by omega) ?_; clear hm; intro a70 cp70 _ _ hm; try simp only [setn] at hm)
          | refine i_load1z hm (by rfl) (by rfl) (by rfl) (by assumption) (by rfl) ?_
          | refine op_move (by rfl) (by rfl) (by rfl) ?_
          | refine op_assign (by rfl) (by rfl) (by rfl) ?_
          | refine op_lss (by rfl) (by rfl) (by rfl) (by rfl) ?_
          | refine op_add (by rfl) (by rfl) (by rfl) (by rfl) (by omega) ?_
          | refine wl_nil ?_
          | refine at_then_normal ?_
          | refine at_block_normal ?_
          | refine wc_seq ?_
          | refine wc_region ?_
          | refine wc_block ?_
          | refine wc_skip ?_
          | (refine wc_cond_dec (by rfl) (fun _ => ?_) (fun _ => ?_) <;> (try first | contradiction | (exfalso; omega))))
        all_goals try (exfalso; omega)
        have hl3 : (o2 ++ (Lib.itoa z ++ [10])).length = o2.length + (Lib.itoa z).length + 1 := by rw [List.length_append, List.length_append, List.length_singleton]; omega
        refine at_round (⟨k + 1, o2 ++ (Lib.itoa z ++ [10]), a70, cp70⟩ : BL) (by exact ⟨rfl, rfl, rfl, rfl, rfl, by rw [hl3]; rfl, rfl, rfl, rfl, trivial⟩) ⟨?_, by dsimp only; omega, by dsimp only; rw [hsu, ho2, List.append_assoc]⟩ (by dsimp only; omega)
        dsimp only [bRow]
        rw [hl3, List.map_append, List.map_append, ← List.append_assoc]
        exact hm
      · obtain rfl : k = q.args.length := by omega
        repeat' (first
          | (refine m_appStr (e := 5) (d := 75) (by kernel_rfl) hm hX hI (by rfl) (by rfl) (by rfl) (by rfl) (by first | exact gt0 | exact gt1 | exact gt2 | exact gt3 | exact gt4 | exact gt5 | exact gt6) (by rfl) (by omega) ?_; clear hm; intro a75 cp75 _ hm; try simp only [setn] at hm)
          | refine m_load1 hm (by rfl) (by rfl) (by rfl) (by first | exact gt0 | exact gt1 | exact gt2 | exact gt3 | exact gt4 | exact gt5 | exact gt6) (by rfl) ?_
          | refine op_move (by rfl) (by rfl) (by rfl) ?_
          | refine op_assign (by rfl) (by rfl) (by rfl) ?_
          | refine op_lss (by rfl) (by rfl) (by rfl) (by rfl) ?_
          | refine op_add (by rfl) (by rfl) (by rfl) (by rfl) (by omega) ?_
          | refine op_fieldAddr (by rfl) (by rfl) (by rfl) ?_
          | refine wl_nil ?_
          | refine at_then_normal ?_
          | refine at_then_exit ?_
          | refine at_block_normal ?_
          | refine at_block_exit ?_
          | refine wc_seq ?_
          | refine wc_region ?_
          | refine wc_exit ?_
          | (refine wc_cond_dec (by rfl) (fun _ => ?_) (fun _ => ?_) <;> (try first | contradiction | (exfalso; omega))))
        all_goals try (exfalso; omega)
        have hqb : o ++ Sp.qBytes q = o2 ++ q.text := by rw [ho2, ho1, ← Sp.qBytes_eq]; simp only [List.append_assoc]
        have hl4 : (o ++ Sp.qBytes q).length = o2.length + q.text.length := by rw [hqb, List.length_append]
        refine at_round (⟨i + 1, o ++ Sp.qBytes q, a75, cp75⟩ : BL) (by exact ⟨rfl, rfl, rfl, rfl, by rw [hl4]; rfl, trivial⟩) ⟨?_, by dsimp only; omega, htk.symm, by dsimp only; omega, hbad⟩ (by dsimp only; omega)
        dsimp only [bRow]
        rw [hl4, hqb, List.map_append]
        exact hm.tl
  · obtain rfl : i = qs.length := by omega
    repeat' (first
      | (refine m_ret2b_agg hm (by rfl) (by rfl) (by rfl) (by first | exact gt0 | exact gt1 | exact gt2 | exact gt3 | exact gt4 | exact gt5 | exact gt6) (by rfl) ?_)
      | (refine m_storeAll hm (by rfl) (by rfl) (by rfl) (by rfl) (by first | exact gt0 | exact gt1 | exact gt2 | exact gt3 | exact gt4 | exact gt5 | exact gt6) (by rfl) (by rfl) (by rfl) ?_; clear hm; intro _ hm; try simp only [setn] at hm)
      | refine op_move (by rfl) (by rfl) (by rfl) ?_
      | refine op_assign (by rfl) (by rfl) (by rfl) ?_
      | refine op_lss (by rfl) (by rfl) (by rfl) (by rfl) ?_
      | refine op_struct (by rfl) (by rfl) (by rfl) (by rfl) ?_
      | refine wl_nil ?_
      | refine at_then_normal ?_
      | refine at_then_exit ?_
      | refine at_block_exit ?_
      | refine wc_seq ?_
      | refine wc_region ?_
      | refine wc_exit ?_
      | refine wc_ret ?_
      | (refine wc_cond_dec (by rfl) (fun _ => ?_) (fun _ => ?_) <;> (try first | contradiction | (exfalso; omega))))
    all_goals try (exfalso; omega)
    rw [List.drop_length] at hbad
    rw [List.take_length] at ho
    subst ho
    obtain ⟨I8, hle8, hm8, hrow⟩ := hm.freeze
    exact ⟨I8, [], ⟨rfl, by rw [hbad]; exact ⟨a, cp, rfl, hrow, hol⟩⟩, hm8.left (H := [])⟩
end Go.Proofs.YtkbiakajlfmakaaDoor
end
section
namespace Go.Proofs.YtkbiakajlfmakaaDoor
open Go.Fw
structure FAB where
  a : Nat
  b : Nat
set_option maxHeartbeats 8000000 in
theorem fr_same {I : Imm} {qs : List Sp.Qn} {a b : Option Addr} {c d : Nat} {xs ys : List Value} (hr : RowI I 41 6 (.slice a qs.length c) qs.length xs) (hx : AsksAt I qs xs)
    (hr2 : RowI I 41 6 (.slice b qs.length d) qs.length ys) (hy : AsksAt I qs ys) (hl : qs.length ≤ 1099511627776) (hE : ∀ q ∈ qs, Sp.qErr q = 0) :
    CalM Tryd.prog 22 #[.slice a qs.length c, .slice b qs.length d] I [] (fun v _ H' => v = .bool true ∧ H' = []) := by
  refine CalM.of fun w E hm => enter (N := 88) Tryd.func22 rfl [(0, .slice a qs.length c), (1, .slice b qs.length d)] args2 rfl ?_
  repeat' (first
    | refine op_move (by rfl) (by rfl) (by rfl) ?_
    | refine op_assign (by rfl) (by rfl) (by rfl) ?_
    | refine op_neq (by rfl) (by rfl) (by rfl) (by rfl) ?_
    | refine op_len_slice (by rfl) (by rfl) (by rfl) ?_
    | refine wl_nil ?_
    | refine at_then_normal ?_
    | refine wc_seq ?_
    | refine wc_region ?_
    | refine wc_block ?_
    | refine wc_skip ?_
    | (refine wc_cond_dec (by rfl) (fun _ => ?_) (fun _ => ?_) <;> (try first | contradiction | (exfalso; omega))))
  all_goals try (exfalso; omega)
  refine wc_loop (fun k : Nat => [(0, .slice a qs.length c), (1, .slice b qs.length d), (15, nt qs.length), (16, nt k)])
    (fun k w' => Mem E I [] w' ∧ k ≤ qs.length) (fun k => qs.length - k) 0 (by exact ⟨rfl, rfl, rfl, rfl, trivial⟩) ⟨hm, Nat.zero_le _⟩ ?_
  clear hm
  rintro k w1 ⟨hm, hk⟩
  try dsimp only at hm hk ⊢
  by_cases hlt : k < qs.length
  · have hg : qs[k]? = some qs[k] := List.getElem?_eq_getElem hlt
    obtain ⟨a1, c1, hc1, hr3⟩ := hx.get hg
    obtain ⟨a2, c2, hc2, hr4⟩ := hy.get hg
    have hq5 := (Sp.qErr_args (hE _ (List.getElem_mem hlt))).1
    generalize qs[k] = q at hg hc1 hc2 hr3 hr4 hq5
    repeat' (first
      | refine wc_hold 6 ?_
      | refine op_move (by rfl) (by rfl) (by rfl) ?_
      | refine op_assign (by rfl) (by rfl) (by rfl) ?_
      | refine op_lss (by rfl) (by rfl) (by rfl) (by rfl) ?_
      | refine wl_nil ?_
      | refine at_then_normal ?_
      | refine wc_seq ?_
      | refine wc_region ?_
      | refine wc_block ?_
      | refine wc_skip ?_
      | (refine wc_cond_dec (by rfl) (fun _ => ?_) (fun _ => ?_) <;> (try first | contradiction | (exfalso; omega))))
    refine ⟨wc_midF 6 (fun x : FAB => [(15, nt qs.length), (16, nt k), (0, .slice a qs.length c), (1, .slice b qs.length d), (6, ptr x.a), (7, ptr x.b)]) (fun x w' => Mem E I [askO x.b q.id q.kind q.fr q.to q.text a2 q.args.length c2, askO x.a q.id q.kind q.fr q.to q.text a1 q.args.length c1] w') ?_ ?_⟩
    · skip
      repeat' (first
        | (refine wc_fork_mem (id := 6) (hm.perm pm0) [0,1,2,3,4,5,6,7] 11 (by kernel_rfl) ?_; clear hm; intro wd hR hm)
        | (refine iw_indexAddr (d := 21) (by rfl) (by rfl) (by rfl) (by rfl) hr (by omega) (by omega) ?_; intro bt ot hpt; rw [show ((k : Int).toNat * 6) = k * 6 from rfl, hc1] at hpt)
        | (refine iw_indexAddr (d := 25) (by rfl) (by rfl) (by rfl) (by rfl) hr2 (by omega) (by omega) ?_; intro bu ou hpu; rw [show ((k : Int).toNat * 6) = k * 6 from rfl, hc2] at hpu)
        | (refine iw_loadN (d := 22) hR (by rfl) (by rfl) (by rfl) hpt (by rfl) ?_)
        | (refine iw_loadN (d := 26) hR (by rfl) (by rfl) (by rfl) hpu (by rfl) ?_)
        | (refine wa_two (i := 8) (j := 9) (by decide +kernel) (by rfl) (by rfl) (by rfl) (by rfl) ?_ ?_)
        | (refine wa_one (i := 8) (by decide +kernel) (by rfl) (by rfl) ?_)
        | (refine wa_one (i := 9) (by decide +kernel) (by rfl) (by rfl) ?_)
        | (refine wa_one (i := 10) (by decide +kernel) (by rfl) (by rfl) ?_)
        | (refine wa_nil (by decide +kernel) ?_; replace hm := hR.back hm; clear hR; try simp only [setn] at hm)
        | (refine mu_allocS (d := 6) hm (by rfl) (by rfl) ?_; clear hm; intro b6 _ hm)
        | (refine mu_allocS (d := 7) hm (by rfl) (by rfl) ?_; clear hm; intro b7 _ hm)
        | refine wv_nilA ?_
        | (refine mu_storeAll hm (by rfl) (by rfl) (by rfl) (by rfl) (by first | exact gt0 | exact gt1 | exact gt2 | exact gt3 | exact gt4 | exact gt5 | exact gt6) (by rfl) (by rfl) (by rfl) ?_; clear hm; intro _ hm; try simp only [setn] at hm)
        | (refine m_storeAll hm (by rfl) (by rfl) (by rfl) (by rfl) (by first | exact gt0 | exact gt1 | exact gt2 | exact gt3 | exact gt4 | exact gt5 | exact gt6) (by rfl) (by rfl) (by rfl) ?_; clear hm; intro _ hm; try simp only [setn] at hm)
        | refine wl_nil ?_
        | refine v_move (by rfl) (by rfl) (by rfl) ?_)
      all_goals first
        | exact at_cut (⟨b6, b7⟩ : FAB) (by exact ⟨rfl, rfl, rfl, rfl, rfl, rfl, trivial⟩) hm
        | exact at_cut (⟨b6, b7⟩ : FAB) (by exact ⟨rfl, rfl, rfl, rfl, rfl, rfl, trivial⟩) (hm.perm (.swap _ _ _))
    · clear hm
      rintro ⟨b6, b7⟩ w3 hm
      dsimp only at hm ⊢
      repeat' (first
        | refine m_load1 hm (by rfl) (by rfl) (by rfl) (by first | exact gt0 | exact gt1 | exact gt2 | exact gt3 | exact gt4 | exact gt5 | exact gt6) (by rfl) ?_
        | refine op_move (by rfl) (by rfl) (by rfl) ?_
        | refine op_pick_false (by rfl) (by rfl) (by rfl) (by rfl) ?_
        | refine op_neq (by rfl) (by rfl) (by rfl) (by rfl) ?_
        | refine op_neq_str (by rfl) (by rfl) (by rfl) (by rfl) ?_
        | refine op_len_slice (by rfl) (by rfl) (by rfl) ?_
        | refine op_fieldAddr (by rfl) (by rfl) (by rfl) ?_
        | (refine wl_split_dec (by rfl) (by rfl) (by rfl) (fun _ => ?_) (fun _ => ?_) <;> (try first | contradiction | (exfalso; omega)))
        | refine wl_nil ?_
        | refine at_then_normal ?_
        | refine wc_seq ?_
        | refine wc_region ?_
        | refine wc_block ?_
        | refine wc_skip ?_
        | (refine wc_cond_dec (by rfl) (fun _ => ?_) (fun _ => ?_) <;> (try first | contradiction | (exfalso; omega))))
      all_goals try (exfalso; first | omega | contradiction)
      refine wc_loop (fun j : Nat => [(0, .slice a qs.length c), (1, .slice b qs.length d), (15, nt qs.length), (16, nt k), (6, ptr b6), (7, ptr b7), (71, nt q.args.length), (72, nt j)])
        (fun j w' => Mem E I [askO b7 q.id q.kind q.fr q.to q.text a2 q.args.length c2, askO b6 q.id q.kind q.fr q.to q.text a1 q.args.length c1] w' ∧ j ≤ q.args.length) (fun j => q.args.length - j) 0
        (by exact ⟨rfl, rfl, rfl, rfl, rfl, rfl, rfl, rfl, trivial⟩) ⟨hm, Nat.zero_le _⟩ ?_
      clear hm
      rintro j w4 ⟨hm, hj⟩
      try dsimp only at hm hj ⊢
      by_cases hjl : j < q.args.length
      · have hgj : q.args[((j : Nat) : Int).toNat]? = some q.args[j] := List.getElem?_eq_getElem hjl
        generalize q.args[j] = z at hgj
        repeat' (first
          | (refine iq_indexFlat (d := 78) (enc := encZ) (z := z) (by rfl) (by rfl) (by rfl) (by rfl) hr3 (fun _ => rfl) (by omega) (by omega) hgj ?_; intro bt ot hpt)
          | (refine iq_indexFlat (d := 83) (enc := encZ) (z := z) (by rfl) (by rfl) (by rfl) (by rfl) hr4 (fun _ => rfl) (by omega) (by omega) hgj ?_; intro bu ou hpu)
          | refine mq_load1 hm (by rfl) (by rfl) (by rfl) (by first | exact gt0 | exact gt1 | exact gt2 | exact gt3 | exact gt4 | exact gt5 | exact gt6) (by rfl) ?_
          | refine iq_load1z hm (by rfl) (by rfl) (by rfl) (by assumption) (by rfl) ?_
          | refine op_move (by rfl) (by rfl) (by rfl) ?_
          | refine op_assign (by rfl) (by rfl) (by rfl) ?_
          | refine op_lss (by rfl) (by rfl) (by rfl) (by rfl) ?_
          | refine op_add (by rfl) (by rfl) (by rfl) (by rfl) (by omega) ?_
          | refine wl_nil ?_
          | refine at_then_normal ?_
          | refine at_block_normal ?_
          | refine wc_seq ?_
          | refine wc_region ?_
          | refine wc_block ?_
          | refine wc_skip ?_
          | refine wc_quiet (by kernel_rfl) ?_
          | (refine wq_nil ?_; intro _ hkq; replace hm := hm.kept0 hkq; clear hkq)
          | (refine wc_cond_dec (by rfl) (fun _ => ?_) (fun _ => ?_) <;> (try first | contradiction | (exfalso; omega)))
          | refine q_move (by rfl) (by rfl) (by rfl) ?_
          | refine q_neq (by rfl) (by rfl) (by rfl) (by rfl) ?_
          | refine q_fieldAddr (by rfl) (by rfl) (by rfl) ?_)
        all_goals try (exfalso; first | omega | contradiction)
        exact at_round (j + 1 : Nat) (by exact ⟨rfl, rfl, rfl, rfl, rfl, rfl, rfl, rfl, trivial⟩) ⟨hm, by omega⟩ (by omega)
      · obtain rfl : j = q.args.length := by omega
        repeat' (first
          | refine op_move (by rfl) (by rfl) (by rfl) ?_
          | refine op_lss (by rfl) (by rfl) (by rfl) (by rfl) ?_
          | refine op_add (by rfl) (by rfl) (by rfl) (by rfl) (by omega) ?_
          | refine wl_nil ?_
          | refine at_then_normal ?_
          | refine at_then_exit ?_
          | refine at_block_normal ?_
          | refine at_block_exit ?_
          | refine wc_seq ?_
          | refine wc_region ?_
          | refine wc_exit ?_
          | (refine wc_cond_dec (by rfl) (fun _ => ?_) (fun _ => ?_) <;> (try first | contradiction | (exfalso; omega))))
        all_goals try (exfalso; omega)
        exact at_round (k + 1 : Nat) (by exact ⟨rfl, rfl, rfl, rfl, trivial⟩) ⟨hm.left (H := []), by omega⟩ (by omega)
  · obtain rfl : k = qs.length := by omega
    repeat' (first
      | refine op_assign (by rfl) (by rfl) (by rfl) ?_
      | refine op_lss (by rfl) (by rfl) (by rfl) (by rfl) ?_
      | refine wl_nil ?_
      | refine at_then_normal ?_
      | refine at_then_exit ?_
      | refine at_block_exit ?_
      | refine wc_seq ?_
      | refine wc_region ?_
      | refine wc_exit ?_
      | refine wc_ret ?_
      | refine at_ret1 (by rfl) (by rfl) ?_
      | (refine wc_cond_dec (by rfl) (fun _ => ?_) (fun _ => ?_) <;> (try first | contradiction | (exfalso; omega))))
    all_goals try (exfalso; omega)
    exact ⟨I, [], ⟨rfl, rfl⟩, hm⟩
end Go.Proofs.YtkbiakajlfmakaaDoor
end
section
namespace Go.Fw
open Go
section
variable {P : Program} {N : Nat} {ds : List Deferred} {Q : Exit → Act → World → Prop} {l : Log} {w : World} {ops : Array Oper} {os : List Oper}
variable {d : Nat} {ty : TypeId} {pos : String} {af : Array Edge} {g : Option (Nat × Bool)} {t : TypeId} {x y : Operand} {E : Ent} {I : Imm} {H : List HItem}
end
end Go.Fw
end
section
namespace Go.Fw
open Go
section
variable {P : Program} {N : Nat} {ds : List Deferred} {Q : Exit → Act → World → Prop} {l : Log} {w : World} {ops : Array Oper} {os : List Oper}
variable {d : Nat} {ty : TypeId} {pos : String} {af : Array Edge} {g : Option (Nat × Bool)} {t t' : TypeId} {x : Operand} {E : Ent} {I : Imm} {H : List HItem}
theorem i_bytesStr {e : TypeId} [TySlice P t e] [TyInt P e .u8] [TyStr P t'] {a : Option Addr} {n cp : Nat} {s : List UInt8} (hm : Mem E I H w)
    (hw : want ops l ⟨some d, .convert t t' x, ty, pos, af, g⟩ = some true) (hN : Nat.blt d N = true)
    (hx : ev l x = some (.slice a n cp)) (hr : RowI I e 1 (.slice a n cp) n (s.map byteV)) (hl : s.length = n)
    (k : WL P N ds ops Q os ((d, str s) :: l) w) : WL P N ds ops Q (⟨some d, .convert t t' x, ty, pos, af, g⟩ :: os) l w :=
  wl_value rfl hw hN (fun c hc => by
    cases a with
    | none =>
      have hn : n = 0 := by
        rcases Nat.eq_zero_or_pos n with h | h
        · exact h
        · obtain ⟨b, off, e1⟩ := hr.addr h; cases e1
      subst hn
      obtain rfl : s = [] := List.eq_nil_of_length_eq_zero hl
      simp only [execOp, hc.ev hx, run_convert_bytes_string (P := P) w t t' e _ _ _ (TySlice.out (P := P) (t := t)) (TyInt.out (P := P) (t := e)) (TyStr.out (P := P) (t := t')), Sem.run_bind]
      rfl
    | some ad =>
      have h4 := run_loadCells_list (P := P) w ad (s.map byteV) (fun j z hj => by
        obtain ⟨h0, a', cap, q1, q2, q3⟩ := hr
        obtain ⟨rfl, _, rfl⟩ := Value.slice.inj q1
        have hlt := (List.getElem?_eq_some_iff.1 hj).1
        rw [List.length_map] at hlt
        obtain ⟨b', off', c, fr, e1, e2, e3⟩ := q3 (by omega)
        injection e1 with e1
        subst e1
        rw [Addr.add_lit]
        exact cell_of (hm.inv _ _ e2) (e3 _ _ hj))
      have h5 := run_bytesToString (P := P) w ad n cp (s.map (fun c => (c.toNat : Int))) (by
        rw [← hl]
        have e1 : (s.map (fun c => (c.toNat : Int))).map (Value.int .u8) = s.map byteV := by simp [Function.comp_def]
        rw [e1, ← h4]; simp)
      have h6 : ∀ (u : List UInt8) (r : List UInt8), (u.map (fun c => (c.toNat : Int))).foldl (fun (r : ByteArray) n => r.push (UInt8.ofNat n.toNat)) ⟨r.toArray⟩ = ⟨(r ++ u).toArray⟩ := by
        intro u
        induction u with
        | nil => intro r; simp
        | cons a u ih =>
          intro r
          have := ih (r ++ [a])
          simp only [List.map_cons, List.foldl_cons, List.append_assoc, List.singleton_append] at this ⊢
          rw [← this]
          congr 1
          apply ByteArray.ext
          simp [ByteArray.push]
      have h7 := h6 s []
      simp only [List.nil_append] at h7
      have h8 : (ByteArray.empty) = ⟨([] : List UInt8).toArray⟩ := rfl
      rw [h8, h7] at h5
      simp only [execOp, hc.ev hx, run_convert_bytes_string (P := P) w t t' e _ _ _ (TySlice.out (P := P) (t := t)) (TyInt.out (P := P) (t := e)) (TyStr.out (P := P) (t := t')), Sem.run_bind, h5]
      simp) k
end
end Go.Fw
namespace Go.Proofs.YtkbiakajlfmakaaDoor
open Go.Fw
def q0 : Sp.Qn := ⟨7, 8, 0, 0, [102], [-3]⟩
def b0 : List UInt8 := [55, 32, 56, 32, 48, 32, 48, 32, 49, 32, 49, 10, 45, 51, 10, 102]
end Go.Proofs.YtkbiakajlfmakaaDoor
end
section
namespace Go.Proofs.YtkbiakajlfmakaaDoor
open Go.Fw
theorem AsksAt.one {I : Imm} : ∀ {qs : List Sp.Qn} {xs : List Value}, AsksAt I qs xs → ∀ u ∈ xs, u.oneCell' = true
  | [], xs, h, u, hu => by
    obtain rfl : xs = [] := h
    cases hu
  | q :: qs, _, ⟨c, r, e, ⟨a, cp, hc, _⟩, h2⟩, u, hu => by
    rw [e, hc] at hu
    rcases List.mem_append.1 hu with hu | hu
    · have : (askV q.id q.kind q.fr q.to q.text a q.args.length cp).all (·.oneCell') = true := rfl
      exact List.all_eq_true.1 this u hu
    · exact AsksAt.one h2 u hu
theorem fr_same' {I : Imm} {qs : List Sp.Qn} {a b : Option Addr} {c d n m : Nat} {xs ys : List Value} (hn : n = qs.length) (hm : m = qs.length) (hr : RowI I 41 6 (.slice a n c) n xs) (hx : AsksAt I qs xs)
    (hr2 : RowI I 41 6 (.slice b m d) m ys) (hy : AsksAt I qs ys) (hl : qs.length ≤ 1099511627776) (hE : ∀ q ∈ qs, Sp.qErr q = 0) :
    CalM Tryd.prog 22 #[.slice a n c, .slice b m d] I [] (fun v _ H' => v = .bool true ∧ H' = []) := by
  subst hn; subst hm
  exact fr_same hr hx hr2 hy hl hE
end Go.Proofs.YtkbiakajlfmakaaDoor
end
