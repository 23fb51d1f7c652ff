/- Own work: texts RFind, FwQue, FwMapZ, one behind the other. -/
import Derived.Test.YtjfkjpbkmpofkaaEt16
import Derived.ArgAppend
section
namespace Go.Proofs.Ytjfkjpbkmpofkaa
open Go.Fw
set_option maxHeartbeats 4000000 in
theorem r_find (k : Int) (n : List UInt8) (its : List Sp.Itm) (I : Imm) (a : Option Addr) (cp : Nat) (xs : List Value) (h : FE I its a cp xs) :
    CalM Try.prog 30 #[.agg [.slice a its.length cp].toArray, .int .i64 k, str n] I [] (fun v _ H' => v = .int .i64 (Sp.findV its k n) ∧ H' = []) := by
  refine CalM.of fun w E hm => enter (N := 33) Try.func30 rfl [(0, .agg [.slice a its.length cp].toArray), (1, .int .i64 k), (2, str n)] args3 rfl ?_
  have hfew := h.few
  repeat' (first
  | (refine m_box (d:=3) hm (k:=?_); clear hm; intro b3 _ hm)
  | refine m_load1 hm (k:=?_)
  | refine op_move (k:=?_)
  | refine op_assign (k:=?_)
  | refine op_len_slice (k:=?_)
  | refine op_fieldAddr (k:=?_)
  | refine wl_nil ?_
  | refine at_then_normal ?_
  | refine wc_seq ?_
  | refine wc_region ?_
  | refine wc_block ?_)
  refine wc_loop (fun x : Nat => [(1, .int .i64 k), (2, str n), (10, .slice a its.length cp), (11, nt its.length), (12, nt x)])
    (fun x w' => Mem E I [] w' ∧ x ≤ its.length ∧ ∀ j it', j < x → its[j]? = some it' → Sp.itIs k n it' = false) (fun x => its.length - x) 0 (by exact ⟨rfl, rfl, rfl, rfl, rfl, trivial⟩) ⟨hm.tl, Nat.zero_le _, fun j _ hj => absurd hj (Nat.not_lt_zero j)⟩ ?_
  clear hm
  rintro x w1 ⟨hm, hk, hno⟩
  try dsimp only at hm hk hno ⊢
  by_cases hlt : x < its.length
  · have hg : its[x]? = some its[x] := List.getElem?_eq_getElem hlt
    obtain ⟨cs, hcs, hat, hl10⟩ := h.get hg
    have hri := h.row
    generalize its[x] = it at hg hat
    obtain ⟨pa, pc, sa9, sc9, ba, bc9, da9, dc9, xb, rfl, _⟩ := hat
    cases hb : Sp.itIs k n it with
    | true =>
      have hb2 := hb
      simp only [Sp.itIs, Bool.and_eq_true, decide_eq_true_eq] at hb2
      obtain ⟨e1, e2, e3⟩ := hb2
      repeat' (first
      | (refine i_indexAddr (d:=15) (hr:=hri) (k:=?_); intro bt ot hpt; rw [show ((x : Int).toNat * 10) = x * 10 from rfl, hcs] at hpt)
      | (refine i_loadN (d:=16) hm (hp:=hpt) (k:=?_))
      | (refine m_allocS (d:=8) hm (k:=?_); clear hm; intro b8 _ hm)
      | refine m_load1 hm (k:=?_)
      | (refine m_storeAll hm (k:=?_); clear hm; intro _ hm; try simp only [setn] at hm)
      | refine op_move (k:=?_)
      | refine op_assign (k:=?_)
      | refine op_pick_true (k:=?_)
      | refine op_lss (k:=?_)
      | refine op_eql (k:=?_)
      | refine op_eql_str (k:=?_)
      | refine op_neq_str (k:=?_)
      | refine op_fieldAddr (k:=?_)
      | (refine wl_split_dec (h1:=fun _ => ?_) (h0:=fun _ => ?_)<;> (try first | contradiction | (exfalso; omega)))
      | refine wl_nil ?_
      | refine at_then_normal ?_
      | refine at_then_ret ?_
      | refine at_block_ret ?_
      | refine wc_seq ?_
      | refine wc_region ?_
      | refine wc_block ?_
      | refine wc_skip ?_
      | refine wc_ret ?_
      | refine at_ret1 (h:=?_)
      | (refine wc_cond_dec (ht:=fun _ => ?_) (hf:=fun _ => ?_)<;> (try first | contradiction | (exfalso; omega))))
      all_goals try (exfalso; first | omega | contradiction)
      exact ⟨I, [], ⟨by rw [show Sp.findV its k n = Sp.idxV (Sp.itIs k n) its from rfl, Sp.idxV_at hg hb hno], rfl⟩, hm.left (H := [])⟩
    | false =>
      have hne : n ≠ [] → (it.kind : Int) = k → it.name ≠ n := fun e3 e1 e2 => by
        rw [Sp.itIs, decide_eq_true e1, decide_eq_true e2, decide_eq_true e3] at hb
        cases hb
      repeat' (first
      | (refine i_indexAddr (d:=15) (hr:=hri) (k:=?_); intro bt ot hpt; rw [show ((x : Int).toNat * 10) = x * 10 from rfl, hcs] at hpt)
      | (refine i_loadN (d:=16) hm (hp:=hpt) (k:=?_))
      | (refine m_allocS (d:=8) hm (k:=?_); clear hm; intro b8 _ hm)
      | refine m_load1 hm (k:=?_)
      | (refine m_storeAll hm (k:=?_); clear hm; intro _ hm; try simp only [setn] at hm)
      | refine op_move (k:=?_)
      | refine op_assign (k:=?_)
      | refine op_pick_true (k:=?_)
      | refine op_pick_false (k:=?_)
      | refine op_lss (k:=?_)
      | refine op_eql (k:=?_)
      | refine op_eql_str (k:=?_)
      | refine op_neq_str (k:=?_)
      | refine op_add (k:=?_)
      | refine op_fieldAddr (k:=?_)
      | refine wl_skip (k:=?_)
      | (refine wl_split_dec (h1:=fun _ => ?_) (h0:=fun _ => ?_)<;> (try first | contradiction | (exfalso; omega)))
      | refine wl_nil ?_
      | refine at_then_normal ?_
      | refine at_then_ret ?_
      | refine at_block_normal ?_
      | refine at_block_ret ?_
      | refine wc_seq ?_
      | refine wc_region ?_
      | refine wc_block ?_
      | refine wc_skip ?_
      | refine wc_ret ?_
      | refine at_ret1 (h:=?_)
      | refine wc_cond_false (hf:=?_)
      | (refine wc_cond_dec (ht:=fun _ => ?_) (hf:=fun _ => ?_)<;> (try first | contradiction | (exfalso; omega))))
      all_goals try (exfalso; first | omega | contradiction | exact hne (by assumption) (by assumption) (by assumption))
      all_goals refine at_round (x + 1 : Nat) (by exact ⟨rfl, rfl, rfl, rfl, rfl, trivial⟩) ⟨hm.right (H := [_]), by omega, fun j it' hj hg' => ?_⟩ (by omega)
      all_goals
        rcases Nat.lt_or_ge j x with hjk | hjk
        · exact hno j it' hjk hg'
        · obtain rfl : j = x := by omega
          rw [hg] at hg'
          obtain rfl := Option.some.inj hg'
          exact hb
  · obtain rfl : x = its.length := by omega
    repeat' (first
    | refine op_assign (k:=?_)
    | refine op_lss (k:=?_)
    | refine wl_nil ?_
    | refine at_then_normal ?_
    | refine at_then_exit ?_
    | refine at_block_exit ?_
    | refine wc_seq ?_
    | refine wc_region ?_
    | refine wc_exit ?_
    | refine wc_ret ?_
    | refine at_ret1 (h:=?_)
    | (refine wc_cond_dec (ht:=fun _ => ?_) (hf:=fun _ => ?_)<;> (try first | contradiction | (exfalso; omega))))
    all_goals try (exfalso; omega)
    exact ⟨I, [], ⟨by rw [show Sp.findV its k n = Sp.idxV (Sp.itIs k n) its from rfl, Sp.idxV_none hno], rfl⟩, hm.left (H := [])⟩
end Go.Proofs.Ytjfkjpbkmpofkaa
end
section
namespace Go.Fw
open Go
/-- where a queue's elements lie in its block. -/
structure Que (off cap : Nat) (cur xs : List Value) : Prop where
  room : off + cap ≤ cur.length
  fits : xs.length ≤ cap
  holds : ∀ (j : Nat) (v : Value), xs[j]? = some v → cur[off + j]? = some v
theorem Que.one (v : Value) : Que 0 1 [v] [v] := ⟨Nat.le_refl _, Nat.le_refl _, fun j u h => by rw [Nat.zero_add]; exact h⟩
theorem Que.head {off cap : Nat} {cur xs : List Value} {v : Value} (h : Que off cap cur (v :: xs)) : cur[off]? = some v := h.holds 0 v rfl
theorem Que.cut {off cap : Nat} {cur xs : List Value} {v : Value} (h : Que off cap cur (v :: xs)) : Que (if cap = 1 then off else off + 1) (cap - 1) cur xs := by
  have h1 := h.room
  have h2 := h.fits
  rw [List.length_cons] at h2
  by_cases e : cap = 1
  · rw [if_pos e]
    have hn : xs = [] := List.eq_nil_of_length_eq_zero (by omega)
    exact ⟨by omega, by omega, fun j u hj => by rw [hn] at hj; cases hj⟩
  · rw [if_neg e]
    exact ⟨by omega, by omega, fun j u hj => by
      have := h.holds (j + 1) u hj
      rwa [show off + 1 + j = off + (j + 1) by omega]⟩
theorem Que.put {off cap n : Nat} {cur xs : List Value} {v : Value} (h : Que off cap cur xs) (hn : xs.length = n) (hr : n + 1 ≤ cap) : Que off cap (cur.take (off + n) ++ ([v] ++ cur.drop (off + n + [v].length))) (xs ++ [v]) := by
  have h1 := h.room
  have hl : (cur.take (off + n)).length = off + n := by rw [List.length_take]; omega
  refine ⟨?_, by rw [List.length_append, hn]; exact hr, fun j u hj => ?_⟩
  · rw [List.length_append, hl, List.length_append, List.length_drop]
    show off + cap ≤ off + n + (1 + (cur.length - (off + n + 1)))
    omega
  · rcases Nat.lt_or_ge j n with hlt | hge
    · rw [List.getElem?_append_left (by rw [hn]; exact hlt)] at hj
      rw [List.getElem?_append_left (by rw [hl]; omega), List.getElem?_take, if_pos (by omega)]
      exact h.holds j u hj
    · have hj0 : j = n := by
        have := (List.getElem?_eq_some_iff.1 hj).1
        rw [List.length_append, hn] at this
        have h3 : j < n + 1 := this
        omega
      subst hj0
      rw [List.getElem?_append_right (by omega), hn, Nat.sub_self] at hj
      rw [List.getElem?_append_right (by rw [hl]; exact Nat.le_refl _), hl, Nat.sub_self]
      exact hj
section
variable {P : Program} {N : Nat} {ds : List Deferred} {Q : Exit → Act → World → Prop} {l : Log} {w : World} {ops : Array Oper} {os : List Oper}
variable {d : Nat} {ty : TypeId} {pos : String} {af : Array Edge} {g : Option (Nat × Bool)} {t : TypeId} {x y : Operand} {E : Ent} {I : Imm} {H : List HItem}
/-- a slice that is laid out, as a block. -/
theorem m_buildO {e : TypeId} {sz by_ n : Nat} [TySlice P t e] [Elem P e sz by_] {ps : List (Nat × Operand)} {vs : List (Nat × Value)} {xs : List Value} (hm : Mem E I H w)
    (hw : want ops l ⟨some d, .buildSlice t n ps.toArray, ty, pos, af, g⟩ = some true) (hN : Nat.blt d N = true) (hx : evp l ps = some vs)
    (hi : vs.map (·.1) = List.range' 0 n) (hs : vs.all (fun p => Nat.beq p.2.cells.toList.length sz) = true) (hn : Nat.ble (n * sz) 16777216 = true) (hxs : vs.flatMap (·.2.cells.toList) = xs)
    (k : ∀ b w', Mem E I (.obj b (.cells xs.toArray e (0, 0)) :: H) w' → WL P N ds ops Q os ((d, .slice (some ⟨b, 0, none⟩) n n) :: l) w') :
    WL P N ds ops Q (⟨some d, .buildSlice t n ps.toArray, ty, pos, af, g⟩ :: os) l w := by
  subst hxs
  exact op_buildSlice hw hN hx hi hs (Nat.le_of_ble_eq_true hn) (fun b w' hb hh hk => k b w' (hm.add hk hh (fun b' hb' => by simp only [HItem.blk, Option.some.injEq] at hb'; omega)))
/-- 's[1:]'. -/
theorem op_cutQ {e : TypeId} {sz by_ : Nat} [TySlice P t e] [Elem P e sz by_] {b off n cap m : Nat} {k1 : Value} (hw : want ops l ⟨some d, .slice t x (some (.const k1)) none none, ty, pos, af, g⟩ = some true) (hN : Nat.blt d N = true)
    (hx : ev l x = some (.slice (some ⟨b, off, none⟩) n cap)) (hk : k1 = .int .i64 1) (hs1 : sz = 1) (hn : n = m + 1) (hc : n ≤ cap)
    (k : WL P N ds ops Q os ((d, .slice (some ⟨b, if cap = 1 then off else off + 1, none⟩) m (cap - 1)) :: l) w) :
    WL P N ds ops Q (⟨some d, .slice t x (some (.const k1)) none none, ty, pos, af, g⟩ :: os) l w := by
  subst hk
  subst hn
  obtain ⟨inf, z, hinf, _, hs, _, _, _⟩ := Elem.out (P := P) (e := e)
  have h6 := run_underlying (P := P) (w := w) (TySlice.out (P := P) (t := t))
  have e2 : ∀ c : Act, c.eval (.const (.int .i64 1)) = .int .i64 1 := fun _ => rfl
  have h7 : 1 ≤ m + 1 := by omega
  refine wl_value (w' := w) (v := .slice (some ⟨b, if cap = 1 then off else off + 1, none⟩) m (cap - 1)) rfl hw hN (fun c hc' => ?_) k
  by_cases h1 : cap = 1
  · simp [execOp, Instr.sliceAt, Instr.slice, Instr.sliceBounds, Instr.sliceBound, hc'.ev hx, e2, h6, asIntOf, hc, sizeOf, typeInfo, hinf, hs, h1, hs1]
    omega
  · simp [execOp, Instr.sliceAt, Instr.slice, Instr.sliceBounds, Instr.sliceBound, hc'.ev hx, e2, h6, asIntOf, hc, sizeOf, typeInfo, hinf, hs, h1, hs1, Addr.add]
    intro h; omega
/-- 'append(s, u)', to a queue. -/
theorem m_pushQ {e : TypeId} {by_ : Nat} [TySlice P t e] [Elem P e 1 by_] {d1 i b off cap n : Nat} {s : Operand} {u : Value} {cur xs : List Value}
    {ty' : TypeId} {pos' : String} {af' : Array Edge} (hm : Mem E I H w) (hN1 : Nat.blt d1 N = true) (hN : Nat.blt d N = true)
    (hs : ev l s = some (.slice (some ⟨b, off, none⟩) n cap)) (hne : neTmp s d1 = true) (hx : ev l x = some u) (hi : H[i]? = some (.obj b (.cells cur.toArray e (0, 0)))) (hq : Que off cap cur xs) (hn : xs.length = n)
    (hus : u.cells.toList = [u]) (h1 : u.oneCell' = true) (hlen : (n + 1) * by_ ≤ 140737488355328) (h63 : n + 1 ≤ 9223372036854775807)
    (k : ∀ b' off' cap' cur' b1 w', Que off' cap' cur' (xs ++ [u]) → Mem E I (H.set i (.obj b' (.cells cur'.toArray e (0, 0)))) w' → WL P N ds ops Q os ((d, .slice (some ⟨b', off', none⟩) (n + 1) cap') :: (d1, .slice (some ⟨b1, 0, none⟩) 1 1) :: l) w') :
    WL P N ds ops Q (⟨some d1, .buildSlice t 1 #[(0, x)], ty, pos, af, none⟩ :: ⟨some d, .call ⟨.builtin .append, #[s, .tmp d1], #[t, t]⟩, ty', pos', af', none⟩ :: os) l w := by
  obtain ⟨i', z, hi', hz, hs', hby, hzc, hpos⟩ := Elem.out (P := P) (e := e)
  have h6 := fun w => run_underlying (P := P) (w := w) (TySlice.out (P := P) (t := t))
  have hs2 : ev ((d1, .slice (some ⟨w.heap.size, 0, none⟩) 1 1) :: l) s = some (.slice (some ⟨b, off, none⟩) n cap) := ev_ne hne hs
  have hm1 := hm.kept0 (Kept.alloc w (.cells u.cells e (0, 0)))
  have hu1 : u.cells.size = 1 := by rw [← Array.length_toList, hus]; rfl
  have hnews : ∀ (j : Nat) (r : Value), [u][j]? = some r → (w.alloc (.cells u.cells e (0, 0))).cell? ((⟨w.heap.size, 0, none⟩ : Addr).add j) = some r := fun j r hj => by
    rw [Addr.add_lit]; refine cell_of (heap_alloc_new w _) ?_
    rw [← Array.getElem?_toList, hus, Nat.zero_add]; exact hj
  have hone : ∀ r ∈ [u], r.oneCell' = true := fun r hr => by obtain rfl := List.mem_singleton.1 hr; exact h1
  have hget := hm1.get hi
  have key : ∃ b' off' cap' cur' w', (Builtin.append_ #[t, t] ty' #[.slice (some ⟨b, off, none⟩) n cap, .slice (some ⟨w.heap.size, 0, none⟩) 1 1]).run P (w.alloc (.cells u.cells e (0, 0))) = .ok (.slice (some ⟨b', off', none⟩) (n + 1) cap') w' ∧
      Que off' cap' cur' (xs ++ [u]) ∧ Mem E I (H.set i (.obj b' (.cells cur'.toArray e (0, 0)))) w' := by
    have hroom0 := hq.room
    by_cases hroom : n + 1 ≤ cap
    · have hlt : off + n < cur.length := by omega
      have hr := run_append_room_cells (P := P) (w := w.alloc (.cells u.cells e (0, 0))) (ty := ty') t e i' (TySlice.out (P := P) (t := t)) hi' b off n cap ⟨w.heap.size, 0, none⟩ 1 1 [u] (by rw [hs']; rfl) hnews hone hroom
        (fun j hj => by
          obtain rfl : j = 0 := by simpa using hj
          rw [hs', Nat.mul_one, Nat.add_zero, cell_of hget (v := cur[off + n]) (by simp [hlt])]; rfl)
        (fun j hj => by simp [World.frozen?, hget])
      rw [hs', Nat.mul_one] at hr
      have hh := setCells_heap [u] (off + n) _ cur hget (by show off + n + 1 ≤ _; omega)
      refine ⟨b, off, cap, _, _, hr, hq.put hn hroom, hm1.turn hi (by simpa [HItem.blk] using setCells_kept b [u] (off + n) _) hh (.inl rfl)⟩
    · have hnc := hq.fits
      obtain ⟨v', w', hr, ho, hk⟩ := run_append_arg_grows (P := P) (w := w.alloc (.cells u.cells e (0, 0))) (ty := ty') t e i' z 1 by_ (TySlice.out (P := P) (t := t)) hi' hz hs' hby hzc hpos ⟨b, off, none⟩ n cap xs (by rw [Nat.mul_one]; exact hn)
        (fun j r hj => by rw [Addr.add_lit]; exact cell_of hget (by simpa using hq.holds j r hj)) ⟨w.heap.size, 0, none⟩ 1 1 [u] rfl hnews (by omega) (by unfold maxLen; exact h63) hlen
      rcases ho.2 with ⟨_, h0⟩ | ⟨g, cp, cu, rfl, hbg, hg, hnc2, hcm, hcs, ht⟩
      · omega
      · refine ⟨g, 0, cp, cu.toList, w', hr, ⟨?_, by rw [List.length_append, hn]; exact hnc2, fun j r hj => ?_⟩, hm1.turn hi ((Kept.of_grown hk).mono (fun _ h => by cases h)) (by simpa [HItem.ok] using hg) (.inr ⟨g, rfl, hbg⟩)⟩
        · rw [Nat.zero_add, Array.length_toList, hcs, Nat.mul_one]; exact Nat.le_refl _
        · rw [Nat.zero_add]
          rw [← ht, List.getElem?_take] at hj
          split at hj
          · exact hj
          · cases hj
  obtain ⟨b', off', cap', cur', w', hr, hq', hm'⟩ := key
  refine wl_value (w' := w.alloc (.cells u.cells e (0, 0))) (v := .slice (some ⟨w.heap.size, 0, none⟩) 1 1) rfl rfl hN1 (fun a ha => ?_) ?_
  · have hf := fill_one hu1 ((Array.range 1).map (z.cells[· % z.cells.size]!)) (by simp)
    simp only [Nat.mul_one] at hf
    simp [execOp, Instr.buildSlice, h6, sizeOf, typeInfo, hi', hs', zeroValue, hz, ha.ev hx, hf, newRow, newObj]
    rfl
  · refine wl_value (w' := w') (v := .slice (some ⟨b', off', none⟩) (n + 1) cap') rfl rfl hN (fun a ha => ?_) (k b' off' cap' cur' _ w' hq' hm')
    have e1 := ha.ev hs2
    have e2 : a.eval (.tmp d1) = .slice (some ⟨w.heap.size, 0, none⟩) 1 1 := ha.ev (by simp [ev, lk])
    simp [execOp, resolve, invoke, builtin, e1, e2, hr]
end
end Go.Fw
end
section
namespace Go.Fw
open Go
abbrev numZ (k : Int) : Value := .int .i64 k
abbrev EntsZ := List (Int × Value)
def entsZ (es : EntsZ) (n : Nat) : List MapEntry := (es.zipIdx n).map (fun p => { key := numZ p.1.1, val := p.1.2, born := p.2 })
structure MapAtZ (w : World) (b : Nat) (es : EntsZ) : Prop where
  out : w.heap[b]? = some (.map (entsZ es 0).toArray es.length)
  nodup : (es.map (·.1)).Nodup
theorem findNow_z (s : Int) : ∀ (es : EntsZ) (n m : Nat), Instr.findNow (.int .i64) (numZ s) (entsZ es n) m = some ((es.findIdx? (fun p => decide (p.1 = s))).bind (fun i => (es[i]?).map (fun p => (m + i, p.2))))
  | [], n, m => rfl
  | (u, v) :: es, n, m => by
    have ih := findNow_z s es (n + 1) (m + 1)
    simp only [entsZ, List.zipIdx_cons, List.map_cons, Instr.findNow, Instr.sameNow, if_true] at ih ⊢
    have e1 : (s == u) = decide (u = s) := by
      rw [Bool.eq_iff_iff]
      constructor
      · intro h
        exact decide_eq_true (by simpa using h : s = u).symm
      · intro h
        rw [of_decide_eq_true h]; simp
    rw [e1, List.findIdx?_cons]
    cases hd : decide (u = s) with
    | true => simp
    | false =>
      simp only
      rw [ih]
      congr 1
      cases hf : es.findIdx? (fun p => decide (p.1 = s)) with
      | none => simp
      | some i => simp [Nat.add_comm, Nat.add_left_comm]
section
variable {P : Program} {N : Nat} {ds : List Deferred} {Q : Exit → Act → World → Prop} {l l' : Log} {w w' : World} {ops : Array Oper} {os : List Oper} {o : Oper}
variable {d : Nat} {ty : TypeId} {pos : String} {af : Array Edge} {g : Option (Nat × Bool)} {t t' : TypeId} {x y z : Operand} {E : Ent} {I : Imm} {H : List HItem}
def mlookZ (es : EntsZ) (s : Int) (z : Value) : Value := ((es.find? (fun p => decide (p.1 = s))).map (·.2)).getD z
theorem find_idxZ (es : EntsZ) (s : Int) : (es.findIdx? (fun p => decide (p.1 = s))).bind (fun i => (es[i]?).map (·.2)) = (es.find? (fun p => decide (p.1 = s))).map (·.2) := by
  induction es with
  | nil => rfl
  | cons p es ih =>
    rw [List.findIdx?_cons, List.find?_cons]
    cases hd : decide (p.1 = s) with
    | true => simp
    | false =>
      simp only [Bool.false_eq_true, if_false]
      rw [← ih]
      cases es.findIdx? (fun p => decide (p.1 = s)) <;> simp
theorem run_findKeyZ {kt : TypeId} (hk : P.underlying kt = some (.int .i64)) (s : Int) (es : EntsZ) (n : Nat) :
    (Instr.findKey kt (numZ s) (entsZ es n)).run P w = .ok ((es.findIdx? (fun p => decide (p.1 = s))).bind (fun i => (es[i]?).map (fun p => (0 + i, p.2)))) w := by
  have h1 := run_underlying (P := P) (w := w) hk
  simp only [Instr.findKey, Sem.run_bind, h1, Result.andThen_ok, findNow_z]
  simp
theorem run_checkKeyZ {kt : TypeId} (hk : P.underlying kt = some (.int .i64)) (s : Int) (b : Bool) : (Instr.checkKey b 10000 kt (numZ s)).run P w = .ok () w := by
  have h1 := run_underlying (P := P) (w := w) hk
  show (Instr.checkKey b (9999 + 1) kt (numZ s)).run P w = .ok () w
  rw [Instr.checkKey]
  simp [h1]
theorem op_insertZ {kt et : TypeId} [TyMap P t kt et] [TyInt P kt .i64] {b : Nat} {es : EntsZ} {s : Int} {v : Value} {dst : Option Nat} (hd : dst = none) (hw : want ops l ⟨dst, .insert t x y z, ty, pos, af, g⟩ = some true)
    (hx : ev l x = some (.map (some b))) (hy : ev l y = some (numZ s)) (hz : ev l z = some v) (hm : MapAtZ w b es) (hs : (es.map (·.1)).contains s = false)
    (k : ∀ w', MapAtZ w' b (es ++ [(s, v)]) → Kept [b] w w' → WL P N ds ops Q os l w') :
    WL P N ds ops Q (⟨dst, .insert t x y z, ty, pos, af, g⟩ :: os) l w :=
  wl_op hw fun a ha => by
    have h1 := run_underlying (P := P) (w := w) (TyMap.out (P := P) (t := t))
    have hk := TyInt.out (P := P) (t := kt)
    have h2 := run_findKeyZ (P := P) (w := w) hk s es 0
    have h3 := run_checkKeyZ (P := P) (w := w) hk s false
    have h4 := MapKept.run_getObj_map (P := P) hm.out
    have hnone : es.findIdx? (fun p => decide (p.1 = s)) = none := by
      rw [List.findIdx?_eq_none_iff]
      intro p hp
      have : s ∉ es.map (·.1) := by
        intro hc
        rw [List.contains_iff_mem.2 hc] at hs
        cases hs
      simp only [decide_eq_false_iff_not]
      rintro rfl
      exact this (List.mem_map_of_mem hp)
    subst hd
    rw [hnone] at h2
    have h5 := fun o' => MapKept.run_setObj_map (P := P) o' hm.out
    have e1 : (entsZ (es ++ [(s, v)]) 0).toArray = (entsZ es 0).toArray.push { key := numZ s, val := v, born := es.length } := by
      simp [entsZ, List.zipIdx_append]
    have hlt := lt_of_heap hm.out
    simp only [Oper.wp, execOp, Instr.mapUpdate, ha.ev hx, ha.ev hy, ha.ev hz, Sem.run_bind, h1, Result.andThen_ok, h4, h3, h2, Option.bind_none, h5, Oper.upon_skip, Act.put, Sem.run_pure]
    refine (k { w with heap := w.heap.setIfInBounds b (.map ((entsZ es 0).toArray.push { key := numZ s, val := v, born := es.length }) (es.length + 1)) } ⟨?_, ?_⟩ ⟨rfl, rfl, rfl, by simp, fun i hi hx => ?_⟩).run _ ha
    · rw [e1, List.length_append]
      simp [hlt]
    · rw [List.map_append, List.nodup_append]
      refine ⟨hm.nodup, by simp, fun a h1 b h2 => ?_⟩
      simp only [List.map_cons, List.map_nil, List.mem_singleton] at h2
      subst h2
      rintro rfl
      rw [List.contains_iff_mem.2 h1] at hs
      cases hs
    · have : b ≠ i := by rintro rfl; simp at hx
      simp [Array.getElem?_setIfInBounds_ne this]
theorem op_lookupZ {kt et : TypeId} [TyMap P t kt et] [TyInt P kt .i64] {b : Nat} {es : EntsZ} {s : Int} {zv : Value} (hw : want ops l ⟨some d, .lookup t x y false, ty, pos, af, g⟩ = some true) (hN : Nat.blt d N = true)
    (hx : ev l x = some (.map (some b))) (hy : ev l y = some (numZ s)) (hm : MapAtZ w b es) (hz : ∀ w, (zeroValue et).run P w = .ok zv w)
    (k : WL P N ds ops Q os ((d, mlookZ es s zv) :: l) w) :
    WL P N ds ops Q (⟨some d, .lookup t x y false, ty, pos, af, g⟩ :: os) l w :=
  wl_value rfl hw hN (fun a ha => by
    have h1 := run_underlying (P := P) (w := w) (TyMap.out (P := P) (t := t))
    have hk := TyInt.out (P := P) (t := kt)
    have h2 := run_findKeyZ (P := P) (w := w) hk s es 0
    have h3 := fun b => run_checkKeyZ (P := P) (w := w) hk s b
    have h4 := MapKept.run_getObj_map (P := P) hm.out
    have h5 := find_idxZ es s
    rw [mlookZ, ← h5]
    cases hf : es.findIdx? (fun p => decide (p.1 = s)) with
    | none =>
      rw [hf] at h2
      simp [execOp, Instr.lookup, ha.ev hx, ha.ev hy, h1, h4, h3, h2, hz]
    | some i =>
      rw [hf] at h2
      have hi : i < es.length := by
        have := List.findIdx?_eq_some_iff_getElem.1 hf
        exact this.1
      have hg : es[i]? = some es[i] := List.getElem?_eq_getElem hi
      simp only [Option.bind_some, hg, Option.map_some] at h2
      simp [execOp, Instr.lookup, ha.ev hx, ha.ev hy, h1, h4, h3, h2, hg]) k
abbrev HItem.mz (b : Nat) (es : EntsZ) : HItem := .obj b (.map (entsZ es 0).toArray es.length)
theorem m_insertNewZ {kt et : TypeId} [TyMap P t kt et] [TyInt P kt .i64] {i b : Nat} {es : EntsZ} {s : Int} {v : Value} {dst : Option Nat} (hm : Mem E I H w) (hd : dst = none) (hw : want ops l ⟨dst, .insert t x y z, ty, pos, af, g⟩ = some true)
    (hx : ev l x = some (.map (some b))) (hy : ev l y = some (numZ s)) (hz : ev l z = some v) (hi : H[i]? = some (.mz b es)) (hn : (es.map (·.1)).Nodup) (hs : (es.map (·.1)).contains s = false)
    (k : ∀ w', Mem E I (H.set i (.mz b (es ++ [(s, v)]))) w' → WL P N ds ops Q os l w') :
    WL P N ds ops Q (⟨dst, .insert t x y z, ty, pos, af, g⟩ :: os) l w :=
  op_insertZ hd hw hx hy hz ⟨hm.get hi, hn⟩ hs (fun w' h1 hk => k w' (hm.turn hi (by simpa [HItem.blk] using hk) h1.out (.inl rfl)))
theorem m_lookupZ {kt et : TypeId} [TyMap P t kt et] [TyInt P kt .i64] {i b : Nat} {es : EntsZ} {s : Int} {zv : Value} (hm : Mem E I H w) (hw : want ops l ⟨some d, .lookup t x y false, ty, pos, af, g⟩ = some true) (hN : Nat.blt d N = true)
    (hx : ev l x = some (.map (some b))) (hy : ev l y = some (numZ s)) (hi : H[i]? = some (.mz b es)) (hn : (es.map (·.1)).Nodup) (hz : ∀ w, (zeroValue et).run P w = .ok zv w)
    (k : WL P N ds ops Q os ((d, mlookZ es s zv) :: l) w) :
    WL P N ds ops Q (⟨some d, .lookup t x y false, ty, pos, af, g⟩ :: os) l w :=
  op_lookupZ hw hN hx hy ⟨hm.get hi, hn⟩ hz k
def mputZ (es : EntsZ) (s : Int) (v : Value) : EntsZ := match es.findIdx? (fun p => decide (p.1 = s)) with
  | some i => es.set i (s, v)
  | none => es ++ [(s, v)]
theorem ents_modifyZ (es : EntsZ) (i : Nat) (s : Int) (v : Value) : (entsZ es 0).toArray.modify i (fun e => { e with key := numZ s, val := v }) = (entsZ (es.set i (s, v)) 0).toArray := by
  apply Array.ext_getElem?
  intro j
  rw [Array.getElem?_modify]
  simp only [entsZ, List.getElem?_toArray, List.getElem?_map, List.getElem?_zipIdx, List.getElem?_set]
  by_cases h : i = j
  · subst h
    rw [if_pos rfl, if_pos rfl]
    by_cases h2 : i < es.length
    · rw [if_pos h2, List.getElem?_eq_getElem h2]; rfl
    · rw [if_neg h2, List.getElem?_eq_none (by omega)]; rfl
  · rw [if_neg h, if_neg h]
theorem mput_nodupZ {es : EntsZ} {s : Int} {v : Value} (h : (es.map (·.1)).Nodup) : ((mputZ es s v).map (·.1)).Nodup := by
  rw [mputZ]
  cases hf : es.findIdx? (fun p => decide (p.1 = s)) with
  | some i =>
    obtain ⟨hi, hs, _⟩ := List.findIdx?_eq_some_iff_getElem.1 hf
    have hs' : es[i].1 = s := by simpa using hs
    have : (es.set i (s, v)).map (·.1) = es.map (·.1) := by
      apply List.ext_getElem?
      intro j
      simp only [List.getElem?_map, List.getElem?_set]
      split
      · rename_i h
        subst h
        rw [List.getElem?_eq_getElem hi]
        simp [hs']
      · rfl
    dsimp only
    rw [this]
    exact h
  | none =>
    dsimp only
    rw [List.map_append, List.nodup_append]
    refine ⟨h, by simp, fun a h1 b h2 => ?_⟩
    simp only [List.map_cons, List.map_nil, List.mem_singleton] at h2
    subst h2
    rintro rfl
    obtain ⟨p, hp, hps⟩ := List.mem_map.1 h1
    have := List.findIdx?_eq_none_iff.1 hf p hp
    simp [hps] at this
theorem m_putZ {kt et : TypeId} [TyMap P t kt et] [TyInt P kt .i64] {i b : Nat} {es : EntsZ} {s : Int} {v : Value} {dst : Option Nat} (hm : Mem E I H w) (hd : dst = none) (hw : want ops l ⟨dst, .insert t x y z, ty, pos, af, g⟩ = some true)
    (hx : ev l x = some (.map (some b))) (hy : ev l y = some (numZ s)) (hz : ev l z = some v) (hi : H[i]? = some (.mz b es)) (hn : (es.map (·.1)).Nodup)
    (k : ∀ w', Mem E I (H.set i (.mz b (mputZ es s v))) w' → WL P N ds ops Q os l w') :
    WL P N ds ops Q (⟨dst, .insert t x y z, ty, pos, af, g⟩ :: os) l w := by
  cases hf : es.findIdx? (fun p => decide (p.1 = s)) with
  | none =>
    have hs : (es.map (·.1)).contains s = false := by
      rw [← Bool.not_eq_true, List.contains_iff_mem]
      intro h1
      obtain ⟨p, hp, hps⟩ := List.mem_map.1 h1
      have := List.findIdx?_eq_none_iff.1 hf p hp
      simp [hps] at this
    have e : mputZ es s v = es ++ [(s, v)] := by rw [mputZ, hf]
    rw [e] at k
    exact m_insertNewZ hm hd hw hx hy hz hi hn hs k
  | some j =>
    obtain ⟨hj, hsj, _⟩ := List.findIdx?_eq_some_iff_getElem.1 hf
    have hsj' : es[j].1 = s := by simpa using hsj
    have e : mputZ es s v = es.set j (s, v) := by rw [mputZ, hf]
    rw [e] at k
    have hget := hm.get hi
    subst hd
    refine wl_op hw fun a ha => ?_
    have h1 := run_underlying (P := P) (w := w) (TyMap.out (P := P) (t := t))
    have hk := TyInt.out (P := P) (t := kt)
    have h2 := run_findKeyZ (P := P) (w := w) hk s es 0
    have h3 := run_checkKeyZ (P := P) (w := w) hk s false
    have h4 := MapKept.run_getObj_map (P := P) hget
    rw [hf] at h2
    have hg : es[j]? = some es[j] := List.getElem?_eq_getElem hj
    simp only [Option.bind_some, hg, Option.map_some, Nat.zero_add] at h2
    have h5 := fun o' => MapKept.run_setObj_map (P := P) o' hget
    have hkey : (entsZ es 0).toArray[j]? = some { key := numZ s, val := es[j].2, born := j } := by
      simp [entsZ, List.getElem?_zipIdx, hg, hsj']
    have h6 : (Instr.keyThatStays (numZ s) (numZ s)).run P w = .ok (numZ s) w := by
      have : Instr.sameBits 10000 (numZ s) (numZ s) = true := by simp [Instr.sameBits]
      simp [Instr.keyThatStays, this]
    have hb := lt_of_heap hget
    have hkept : Kept [b] w { w with heap := w.heap.setIfInBounds b (.map ((entsZ es 0).toArray.modify j (fun e => { e with key := numZ s, val := v })) es.length) } :=
      ⟨rfl, rfl, rfl, by simp, fun i hi hx => by
        have : b ≠ i := by rintro rfl; simp at hx
        simp [Array.getElem?_setIfInBounds_ne this]⟩
    have hm' := hm.turn (h' := .mz b (es.set j (s, v))) hi (by simpa [HItem.blk] using hkept) (by
      show HItem.ok _ _
      have e2 := ents_modifyZ es j s v
      simp only [HItem.ok, ← e2, List.length_set]
      simp [hb]) (.inl rfl)
    have h7 := (k _ hm').run _ ha
    simp only [Oper.wp, execOp, Instr.mapUpdate, ha.ev hx, ha.ev hy, ha.ev hz, Sem.run_bind, h1, Result.andThen_ok, h4, h3, h2, hkey, Option.map_some, Option.getD_some, h6, h5, Oper.upon_skip, Act.put, Sem.run_pure]
    simpa only [List.modify_toArray] using h7
def mgetZ (es : EntsZ) (s : Int) : Option Value := (es.find? (fun p => decide (p.1 = s))).map (·.2)
theorem mget_appendZ {es : EntsZ} {s : Int} {v : Value} (n : Int) (h : mgetZ es s = none) : mgetZ (es ++ [(s, v)]) n = if n = s then some v else mgetZ es n := by
  simp only [mgetZ] at h ⊢
  rw [List.find?_append]
  by_cases e : n = s
  · subst e
    rw [if_pos rfl, Option.map_eq_none_iff.1 h]
    simp
  · rw [if_neg e]
    cases hf : es.find? (fun p => decide (p.1 = n)) with
    | some p => rfl
    | none => simp [Ne.symm e]
theorem mget_setZ : ∀ {es : EntsZ} {i : Nat} {s : Int} {v : Value} (n : Int), (es.map (·.1)).Nodup → (∃ c, es[i]? = some (s, c)) → mgetZ (es.set i (s, v)) n = if n = s then some v else mgetZ es n
  | [], i, s, v, n, _, h => by obtain ⟨_, h⟩ := h; simp at h
  | (a, c) :: es, 0, s, v, n, _, h => by
    obtain ⟨_, h⟩ := h
    simp only [List.getElem?_cons_zero, Option.some.injEq, Prod.mk.injEq] at h
    obtain ⟨rfl, _⟩ := h
    simp only [mgetZ, List.set_cons_zero, List.find?_cons]
    by_cases e : n = a
    · subst e; simp
    · rw [if_neg e, decide_eq_false (Ne.symm e)]
  | (a, c) :: es, i + 1, s, v, n, hn, h => by
    obtain ⟨c', h⟩ := h
    rw [List.getElem?_cons_succ] at h
    rw [List.map_cons, List.nodup_cons] at hn
    have ih := mget_setZ (v := v) n hn.2 ⟨c', h⟩
    have has : a ≠ s := by
      rintro rfl
      exact hn.1 (List.mem_map_of_mem (f := (·.1)) (List.mem_of_getElem? h))
    simp only [mgetZ, List.set_cons_succ, List.find?_cons] at ih ⊢
    by_cases e : a = n
    · subst e
      rw [decide_eq_true rfl, if_neg has]
    · rw [decide_eq_false e]
      exact ih
theorem mget_mputZ {es : EntsZ} {s : Int} {v : Value} (n : Int) (hn : (es.map (·.1)).Nodup) : mgetZ (mputZ es s v) n = if n = s then some v else mgetZ es n := by
  rw [mputZ]
  cases hf : es.findIdx? (fun p => decide (p.1 = s)) with
  | some i =>
    obtain ⟨hi, hs, _⟩ := List.findIdx?_eq_some_iff_getElem.1 hf
    have hs' : es[i].1 = s := by simpa using hs
    exact mget_setZ n hn ⟨es[i].2, by rw [List.getElem?_eq_getElem hi, ← hs']⟩
  | none =>
    refine mget_appendZ n ?_
    rw [List.findIdx?_eq_none_iff] at hf
    simp only [mgetZ, Option.map_eq_none_iff, List.find?_eq_none]
    intro p hp
    simpa using hf p hp
end
end Go.Fw
end
