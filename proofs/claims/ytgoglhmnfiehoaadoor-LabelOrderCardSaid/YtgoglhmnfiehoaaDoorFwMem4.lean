/- Own work: the executor's rules: slices that are laid out; what an owned row's cells are. -/
import Derived.Test.YtgoglhmnfiehoaaDoorFwMem3
namespace Go.Fw
open Go
section
variable {P : Program} {N : Nat} {ds : List Deferred} {Q : Exit → Act → World → Prop} {l l' : Log} {w w' : World} {ops : Array Oper} {os : List Oper} {o : Oper}
variable {d : Nat} {ty : TypeId} {pos : String} {af : Array Edge} {g : Option (Nat × Bool)} {t t' : TypeId} {x y : Operand}

theorem fill_all (sz : Nat) : ∀ (vs : List (Nat × Value)) (k : Nat) (cs : List Value), vs.map (·.1) = List.range' k vs.length → cs.length = (k + vs.length) * sz →
    (∀ p ∈ vs, p.2.cells.toList.length = sz) → Instr.fill (fun i => some (i * sz, sz)) cs.toArray vs = some (cs.take (k * sz) ++ vs.flatMap (·.2.cells.toList)).toArray
  | [], k, cs, _, hl, _ => by
    simp only [Instr.fill, List.flatMap_nil, List.append_nil]
    rw [List.take_of_length_le (by simp only [List.length_nil, Nat.add_zero] at hl; omega)]
  | (i, v) :: vs, k, cs, hi, hl, hs => by
    simp only [List.map_cons, List.length_cons, List.range'_succ, List.cons.injEq] at hi
    obtain ⟨rfl, hi⟩ := hi
    have hv : v.cells.toList.length = sz := hs (i, v) (by simp)
    have hv' : v.cells.size = sz := by simpa using hv
    have hl' : cs.length = i * sz + sz + vs.length * sz := by rw [hl]; simp only [List.length_cons, Nat.add_mul, Nat.one_mul]; omega
    rw [Instr.fill]
    simp only
    rw [if_neg (by simp [hv', hl'])]
    have e : (v.cells.zipIdx.foldl (fun cs (x : Value × Nat) => cs.setIfInBounds (i * sz + x.2) x.1) cs.toArray) = (cs.take (i * sz) ++ (v.cells.toList ++ cs.drop (i * sz + sz))).toArray := by
      apply Array.ext_getElem?
      intro j
      rw [← Array.foldl_toList, Array.toList_zipIdx, fold_set]
      simp only [List.getElem?_toArray, List.size_toArray, Array.length_toList, Nat.add_zero, hv']
      by_cases h1 : j < i * sz
      · rw [if_neg (by omega), List.getElem?_append_left (by simp; omega)]
        simp [h1]
      · by_cases h2 : j < i * sz + sz
        · rw [if_pos (by omega), List.getElem?_append_right (by simp; omega), List.getElem?_append_left (by simp; omega)]
          congr 1
          simp; omega
        · rw [if_neg (by omega), List.getElem?_append_right (by simp; omega), List.getElem?_append_right (by simp; omega), List.getElem?_drop]
          congr 1
          simp; omega
    have ih := fill_all sz vs (i + 1) (cs.take (i * sz) ++ (v.cells.toList ++ cs.drop (i * sz + sz))) hi (by simp [hv', hl', Nat.add_mul]; omega) (fun p hp => hs p (by simp [hp]))
    have e3 : List.take ((i + 1) * sz) (cs.take (i * sz) ++ (v.cells.toList ++ cs.drop (i * sz + sz))) = cs.take (i * sz) ++ v.cells.toList := by
      rw [← List.append_assoc, List.take_append_of_le_length (by simp [hv', hl', Nat.add_mul]; omega), List.take_of_length_le (by simp [hv', hl', Nat.add_mul]; omega)]
    refine Eq.trans (congrArg (fun c => Instr.fill _ c vs) e) (ih.trans ?_)
    rw [e3, List.append_assoc]
    rfl

theorem op_buildSlice {e : TypeId} {sz by_ n : Nat} [TySlice P t e] [Elem P e sz by_] {ps : List (Nat × Operand)} {vs : List (Nat × Value)}
    (hw : want ops l ⟨some d, .buildSlice t n ps.toArray, ty, pos, af, g⟩ = some true) (hN : Nat.blt d N = true) (hx : evp l ps = some vs)
    (hi : vs.map (·.1) = List.range' 0 n) (hs : vs.all (fun p => Nat.beq p.2.cells.toList.length sz) = true) (hn : n * sz ≤ 16777216)
    (k : ∀ b w', b = w.heap.size → w'.heap[b]? = some (.cells (vs.flatMap (·.2.cells.toList)).toArray e (0, 0)) → Kept [] w w' → WL P N ds ops Q os ((d, .slice (some ⟨b, 0, none⟩) n n) :: l) w') :
    WL P N ds ops Q (⟨some d, .buildSlice t n ps.toArray, ty, pos, af, g⟩ :: os) l w := by
  obtain ⟨i, z, hi', hz, hs', hby, hzc, hpos⟩ := Elem.out (P := P) (e := e)
  have h6 := fun w => run_underlying (P := P) (w := w) (TySlice.out (P := P) (t := t))
  have hlen : vs.length = n := by have := congrArg List.length hi; simpa using this
  have hf := fill_all sz vs 0 ((List.range (n * sz)).map (fun j => z.cells[j % z.cells.size]!)) (by rw [hlen]; exact hi) (by simp [hlen]) (fun p hp => by
    have := List.all_eq_true.1 hs p hp
    exact Nat.eq_of_beq_eq_true this)
  simp only [Nat.zero_mul, List.take_zero, List.nil_append] at hf
  refine wl_value (w' := w.alloc (.cells (vs.flatMap (·.2.cells.toList)).toArray e (0, 0))) (v := .slice (some ⟨w.heap.size, 0, none⟩) n n) rfl hw hN (fun a ha => ?_) (k w.heap.size _ rfl (heap_alloc_new w _) (Kept.alloc w _))
  have e1 := ha.evp hx
  have hz0 : ¬ (2 ^ 24 < n * sz) := by omega
  have e2 : (Array.range (n * sz)).map (fun j => z.cells[j % z.cells.size]!) = ((List.range (n * sz)).map (fun j => z.cells[j % z.cells.size]!)).toArray := by
    apply Array.ext'; simp
  simp only [execOp, Instr.buildSlice]
  by_cases hz1 : n * sz = 0
  · have hn0 : n = 0 := by
      rcases Nat.mul_eq_zero.1 hz1 with h | h
      · exact h
      · omega
    subst hn0
    have : vs = [] := List.eq_nil_of_length_eq_zero hlen
    subst this
    have e4 : Array.range 0 = #[] := rfl
    simp [e1, h6, sizeOf, typeInfo, hi', Instr.fill, newRow, newObj, e4]
    rfl
  · simp [e1, h6, sizeOf, typeInfo, hi', hs', zeroValue, hz, hz0, newRow, newObj, e2, hf]
    rw [if_neg hz1]
    rfl

theorem own_of_block {b n e sz base : Nat} {r : List Value} (hb : w.heap[b]? = some (.cells r.toArray e (0, 0))) (hl : r.length = n * sz) (hbase : base ≤ b) (hn : n ≤ 9223372036854775807) :
    w.ownsRow base e sz (.slice (some ⟨b, 0, none⟩) n n) n r :=
  ⟨hl, .inr ⟨b, n, r.toArray, rfl, hbase, hb, Nat.le_refl _, by unfold maxLen; exact hn, by simp [hl], by simp [← hl]⟩⟩
/-- an owned row that is not empty, seen. -/
theorem own_open {base e sz n : Nat} {v : Value} {xs : List Value} (h : w.ownsRow base e sz v n xs) (hn : 0 < n) :
    ∃ g cap cur, v = .slice (some ⟨g, 0, none⟩) n cap ∧ base ≤ g ∧ w.heap[g]? = some (.cells cur e (0, 0)) ∧ n ≤ cap ∧ (∀ (j : Nat) (u : Value), xs[j]? = some u → cur[j]? = some u) ∧ cur.size = cap * sz := by
  rcases h.2 with ⟨_, h0⟩ | ⟨g, cap, cur, rfl, hb, hg, hc, _, hs, ht⟩
  · omega
  · refine ⟨g, cap, cur, rfl, hb, hg, hc, fun j u hj => ?_, hs⟩
    rw [← ht, List.getElem?_take] at hj
    split at hj
    · simpa using hj
    · cases hj
/-- an owned row's value is a slice of so many. -/
theorem own_val {base e sz n : Nat} {v : Value} {xs : List Value} (h : w.ownsRow base e sz v n xs) : ∃ a cap, v = .slice a n cap := by
  rcases h.2 with ⟨rfl, h0⟩ | ⟨g, cap, cur, rfl, _⟩
  · exact ⟨none, 0, by rw [h0]⟩
  · exact ⟨_, _, rfl⟩

/-- a slice's value reads so, cell by cell. -/
structure Reads (w : World) (sz : Nat) (v : Value) (n : Nat) (xs : List Value) : Prop where
  len : xs.length = n * sz
  out : ∃ a cap, v = .slice a n cap ∧ n ≤ cap ∧ (0 < n → ∃ b off c e fr, a = some ⟨b, off, none⟩ ∧ w.heap[b]? = some (.cells c e fr) ∧ ∀ (j : Nat) (u : Value), xs[j]? = some u → c[off + j]? = some u)
theorem own_reads {base e sz n : Nat} {v : Value} {xs : List Value} (h : w.ownsRow base e sz v n xs) : Reads w sz v n xs := by
  refine ⟨h.1, ?_⟩
  rcases h.2 with ⟨rfl, h0⟩ | ⟨g, cap, cur, rfl, hb, hg, hc, _, hs, ht⟩
  · exact ⟨none, 0, by rw [h0], by omega, fun h => by omega⟩
  · refine ⟨_, cap, rfl, hc, fun _ => ⟨g, 0, cur, e, (0, 0), rfl, hg, fun j u hj => ?_⟩⟩
    rw [← ht, List.getElem?_take] at hj
    split at hj
    · rw [Nat.zero_add]; simpa using hj
    · cases hj
theorem Reads.kept {sz n : Nat} {v : Value} {xs : List Value} (h : Reads w sz v n xs) (k : Kept [] w w') : Reads w' sz v n xs := by
  obtain ⟨hl, a, cap, hv, hc, hr⟩ := h
  exact ⟨hl, a, cap, hv, hc, fun h0 => let ⟨b, off, c, e, fr, h1, h2, h3⟩ := hr h0; ⟨b, off, c, e, fr, h1, k.get0 h2, h3⟩⟩
theorem reads_nil (sz cap : Nat) (a : Option Addr) : Reads w sz (.slice a 0 cap) 0 [] := ⟨by simp, a, cap, rfl, Nat.zero_le _, fun h => by omega⟩

/-- 'v[lo:hi]' of what reads so. -/
theorem run_sub {e : TypeId} {sz by_ n : Nat} [TySlice P t e] [Elem P e sz by_] {v : Value} {xs : List Value} (h : Reads w sz v n xs) (lo hi : Option Value) (i j : Nat)
    (hlo : (lo = none ∧ i = 0) ∨ lo = some (.int .i64 (i : Int))) (hhi : (hi = none ∧ j = n) ∨ hi = some (.int .i64 (j : Int))) (hij : i ≤ j) (hj : j ≤ n) :
    ∃ v', (Instr.sliceAt t v lo hi none).run P w = .ok v' w ∧ Reads w sz v' (j - i) ((xs.drop (i * sz)).take ((j - i) * sz)) := by
  obtain ⟨hl, a, cap, rfl, hc, hr⟩ := h
  obtain ⟨inf, z, hi', _, hs, _, _, hpos⟩ := Elem.out (P := P) (e := e)
  have h6 := run_underlying (P := P) (w := w) (TySlice.out (P := P) (t := t))
  refine ⟨.slice (if cap = i then a else a.map (·.add (i * sz))) (j - i) (cap - i), ?_, ?_⟩
  · have h1 : j ≤ cap := by omega
    rcases hlo with ⟨rfl, rfl⟩ | rfl <;> rcases hhi with ⟨rfl, rfl⟩ | rfl <;>
      simp [Instr.sliceAt, Instr.slice, Instr.sliceBounds, Instr.sliceBound, h6, asIntOf, sizeOf, typeInfo, hi', hs, h1, hij]
  · have hm : (j - i) * sz ≤ n * sz - i * sz := by rw [← Nat.sub_mul]; exact Nat.mul_le_mul_right _ (by omega)
    refine ⟨by simp only [List.length_take, List.length_drop, hl]; omega, _, _, rfl, by omega, fun h0 => ?_⟩
    obtain ⟨b, off, c, e', fr, rfl, h2, h3⟩ := hr (by omega)
    refine ⟨b, off + i * sz, c, e', fr, ?_, h2, fun k u hk => ?_⟩
    · rw [if_neg (by omega)]; simp [Addr.add_lit]
    · rw [List.getElem?_take] at hk
      split at hk
      · rw [List.getElem?_drop] at hk
        rw [Nat.add_assoc]; exact h3 _ _ hk
      · cases hk
theorem op_sub_to {e : TypeId} {sz by_ n : Nat} [TySlice P t e] [Elem P e sz by_] {v : Value} {xs : List Value} {j : Int} (hw : want ops l ⟨some d, .slice t x none (some y) none, ty, pos, af, g⟩ = some true) (hN : Nat.blt d N = true)
    (hx : ev l x = some v) (hy : ev l y = some (.int .i64 j)) (hr : Reads w sz v n xs) (h0 : 0 ≤ j ∧ j ≤ n)
    (k : ∀ v', Reads w sz v' j.toNat (xs.take (j.toNat * sz)) → WL P N ds ops Q os ((d, v') :: l) w) :
    WL P N ds ops Q (⟨some d, .slice t x none (some y) none, ty, pos, af, g⟩ :: os) l w := by
  obtain ⟨j, rfl⟩ := Int.eq_ofNat_of_zero_le h0.1
  obtain ⟨v', h1, h2⟩ := run_sub (P := P) (t := t) hr none (some (.int .i64 (j : Int))) 0 j (.inl ⟨rfl, rfl⟩) (.inr rfl) (by omega) (by omega)
  exact wl_value rfl hw hN (fun c hc => by simp [execOp, hc.ev hx, hc.ev hy, h1]) (k v' (by simpa using h2))
theorem op_sub_from {e : TypeId} {sz by_ n : Nat} [TySlice P t e] [Elem P e sz by_] {v : Value} {xs : List Value} {i : Int} (hw : want ops l ⟨some d, .slice t x (some y) none none, ty, pos, af, g⟩ = some true) (hN : Nat.blt d N = true)
    (hx : ev l x = some v) (hy : ev l y = some (.int .i64 i)) (hr : Reads w sz v n xs) (h0 : 0 ≤ i ∧ i ≤ n)
    (k : ∀ v', Reads w sz v' (n - i.toNat) (xs.drop (i.toNat * sz)) → WL P N ds ops Q os ((d, v') :: l) w) :
    WL P N ds ops Q (⟨some d, .slice t x (some y) none none, ty, pos, af, g⟩ :: os) l w := by
  obtain ⟨i, rfl⟩ := Int.eq_ofNat_of_zero_le h0.1
  obtain ⟨v', h1, h2⟩ := run_sub (P := P) (t := t) hr (some (.int .i64 (i : Int))) none i n (.inr rfl) (.inl ⟨rfl, rfl⟩) (by omega) (by omega)
  refine wl_value rfl hw hN (fun c hc => by simp [execOp, hc.ev hx, hc.ev hy, h1]) (k v' ?_)
  rw [List.take_of_length_le (by rw [List.length_drop, hr.len, Nat.sub_mul]; omega)] at h2
  simpa using h2
end
end Go.Fw
