/- Own work: texts FwMap3, RnA, FwFork, FwNil, NsC, FwCut, NsD, FwCut2, NsE, one behind the other. -/
import Derived.Test.YtkbiakajlfmakaaGreatDoorFp21
import Derived.Maps.RangeRun
section
namespace Go.Fw
open Go
/-- what a map has under a text. -/
def mget (es : Ents) (s : List UInt8) : Option Value := (es.find? (fun p => decide (p.1 = s))).map (·.2)
theorem mget_at : ∀ {es : Ents} {j : Nat} {u : List UInt8} {v : Value}, (es.map (·.1)).Nodup → es[j]? = some (u, v) → mget es u = some v
  | [], j, u, v, _, h => by simp at h
  | (a, c) :: es, 0, u, v, _, h => by
    simp only [List.getElem?_cons_zero, Option.some.injEq, Prod.mk.injEq] at h
    obtain ⟨rfl, rfl⟩ := h
    simp [mget]
  | (a, c) :: es, j + 1, u, v, hn, h => by
    rw [List.getElem?_cons_succ] at h
    rw [List.map_cons, List.nodup_cons] at hn
    have hne : a ≠ u := by
      rintro rfl
      exact hn.1 (List.mem_map_of_mem (f := (·.1)) (List.mem_of_getElem? h))
    have ih := mget_at hn.2 h
    simp only [mget] at ih ⊢
    rw [List.find?_cons, decide_eq_false hne]
    exact ih
theorem mget_some : ∀ {es : Ents} {u : List UInt8} {v : Value}, mget es u = some v → ∃ j : Nat, es[j]? = some (u, v)
  | [], u, v, h => by cases h
  | (a, c) :: es, u, v, h => by
    simp only [mget] at h
    rw [List.find?_cons] at h
    by_cases e : a = u
    · rw [decide_eq_true e] at h
      simp only [Option.map_some, Option.some.injEq] at h
      subst e; subst h
      exact ⟨0, rfl⟩
    · rw [decide_eq_false e] at h
      obtain ⟨j, hj⟩ := mget_some (es := es) h
      exact ⟨j + 1, by rw [List.getElem?_cons_succ]; exact hj⟩
theorem mget_none {es : Ents} {u : List UInt8} (h : mget es u = none) {j : Nat} {p : List UInt8 × Value} (hj : es[j]? = some p) : p.1 ≠ u := by
  rintro rfl
  simp only [mget, Option.map_eq_none_iff, List.find?_eq_none] at h
  have := h p (List.mem_of_getElem? hj)
  simp at this
theorem mget_append {es : Ents} {s : List UInt8} {v : Value} (n : List UInt8) (h : mget es s = none) : mget (es ++ [(s, v)]) n = if n = s then some v else mget es n := by
  simp only [mget] at h ⊢
  rw [List.find?_append]
  by_cases e : n = s
  · subst e
    rw [if_pos rfl, Option.map_eq_none_iff.1 h]
    simp
  · rw [if_neg e]
    cases hf : es.find? (fun p => decide (p.1 = n)) with
    | some p => rfl
    | none => simp [Ne.symm e]
theorem mget_set : ∀ {es : Ents} {i : Nat} {s : List UInt8} {v : Value} (n : List UInt8), (es.map (·.1)).Nodup → (∃ c, es[i]? = some (s, c)) → mget (es.set i (s, v)) n = if n = s then some v else mget es n
  | [], i, s, v, n, _, h => by obtain ⟨_, h⟩ := h; simp at h
  | (a, c) :: es, 0, s, v, n, _, h => by
    obtain ⟨_, h⟩ := h
    simp only [List.getElem?_cons_zero, Option.some.injEq, Prod.mk.injEq] at h
    obtain ⟨rfl, _⟩ := h
    simp only [mget, List.set_cons_zero, List.find?_cons]
    by_cases e : n = a
    · subst e; simp
    · rw [if_neg e, decide_eq_false (Ne.symm e)]
  | (a, c) :: es, i + 1, s, v, n, hn, h => by
    obtain ⟨c', h⟩ := h
    rw [List.getElem?_cons_succ] at h
    rw [List.map_cons, List.nodup_cons] at hn
    have ih := mget_set (v := v) n hn.2 ⟨c', h⟩
    have has : a ≠ s := by
      rintro rfl
      exact hn.1 (List.mem_map_of_mem (f := (·.1)) (List.mem_of_getElem? h))
    simp only [mget, List.set_cons_succ, List.find?_cons] at ih ⊢
    by_cases e : a = n
    · subst e
      rw [decide_eq_true rfl, if_neg has]
    · rw [decide_eq_false e]
      exact ih
theorem mget_mput {es : Ents} {s : List UInt8} {v : Value} (n : List UInt8) (hn : (es.map (·.1)).Nodup) : mget (mput es s v) n = if n = s then some v else mget es n := by
  rw [mput]
  cases hf : es.findIdx? (fun p => decide (p.1 = s)) with
  | some i =>
    obtain ⟨hi, hs, _⟩ := List.findIdx?_eq_some_iff_getElem.1 hf
    have hs' : es[i].1 = s := by simpa using hs
    exact mget_set n hn ⟨es[i].2, by rw [List.getElem?_eq_getElem hi, ← hs']⟩
  | none =>
    refine mget_append n ?_
    rw [List.findIdx?_eq_none_iff] at hf
    simp only [mget, Option.map_eq_none_iff, List.find?_eq_none]
    intro p hp
    simpa using hf p hp
/-- a map that does not turn. -/
structure MapI (I : Imm) (b : Nat) (es : Ents) : Prop where
  out : I b = some (.map (entsOf es 0).toArray es.length)
  nodup : (es.map (·.1)).Nodup
theorem MapI.le {I I' : Imm} {b : Nat} {es : Ents} (h : MapI I b es) (hl : Le I I') : MapI I' b es := ⟨hl _ _ h.out, h.nodup⟩
theorem Mem.mapI {E : Ent} {I : Imm} {H : List HItem} {w : World} {b : Nat} {es : Ents} (hm : Mem E I H w) (h : MapI I b es) : MapAt w b es := ⟨hm.inv _ _ h.out, h.nodup⟩
abbrev HItem.it (r b n : Nat) (S : List Nat) : HItem := .obj r (.mapIter (some b) n S.toArray n)
theorem ents_mem {es : Ents} {e : MapEntry} : e ∈ entsOf es 0 ↔ ∃ (j : Nat) (u : List UInt8) (v : Value), es[j]? = some (u, v) ∧ e = { key := str u, val := v, born := j } := by
  simp only [entsOf, List.mem_map]
  constructor
  · rintro ⟨⟨⟨u, v⟩, j⟩, h, rfl⟩
    rw [List.mem_zipIdx_iff_getElem?] at h
    exact ⟨j, u, v, h, rfl⟩
  · rintro ⟨j, u, v, h, rfl⟩
    exact ⟨((u, v), j), by rw [List.mem_zipIdx_iff_getElem?]; exact h, rfl⟩
theorem left_mem {es : Ents} {S : List Nat} {e : MapEntry} (h : e ∈ (leftOf (entsOf es 0).toArray S.toArray).toList) : ∃ (j : Nat) (u : List UInt8) (v : Value), es[j]? = some (u, v) ∧ j ∉ S ∧ e = { key := str u, val := v, born := j } := by
  simp only [leftOf, List.filter_toArray, List.mem_filter] at h
  obtain ⟨j, u, v, h1, rfl⟩ := ents_mem.1 h.1
  exact ⟨j, u, v, h1, by simpa using h.2, rfl⟩
theorem left_none {es : Ents} {S : List Nat} (h : (leftOf (entsOf es 0).toArray S.toArray).size = 0) : ∀ j, j < es.length → j ∈ S := by
  intro j hj
  have h2 : (entsOf es 0).filter (fun e => !S.toArray.contains e.born) = [] := by
    simpa [leftOf] using h
  rw [List.filter_eq_nil_iff] at h2
  have := h2 { key := str es[j].1, val := es[j].2, born := j } (ents_mem.2 ⟨j, es[j].1, es[j].2, List.getElem?_eq_getElem hj, rfl⟩)
  simpa using this
theorem ents_born (es : Ents) : ((entsOf es 0).map (·.born)).Nodup := by
  have : (entsOf es 0).map (·.born) = List.range' 0 es.length := by
    simp only [entsOf, List.map_map]
    rw [← List.zipIdx_map_snd 0 es]
    rfl
  rw [this]
  exact List.nodup_range' (step := 1) (by omega)
section
variable {P : Program} {N : Nat} {ds : List Deferred} {Q : Exit → Act → World → Prop} {K : Act → World → Prop} {l : Log} {w : World} {ops : Array Oper} {os : List Oper}
variable {d : Nat} {ty : TypeId} {pos : String} {af : Array Edge} {g : Option (Nat × Bool)} {t : TypeId} {x y : Operand} {E : Ent} {I : Imm} {H : List HItem}
theorem m_range {kt et : TypeId} [TyMap P t kt et] {b : Nat} {es : Ents} (hm : Mem E I H w) (hw : want ops l ⟨some d, .range t x, ty, pos, af, g⟩ = some true) (hN : Nat.blt d N = true)
    (hx : ev l x = some (.map (some b))) (hb : MapAt w b es) (k : ∀ r w', Mem E I (.it r b es.length [] :: H) w' → WL P N ds ops Q os ((d, .pointer (some ⟨r, 0, none⟩)) :: l) w') :
    WL P N ds ops Q (⟨some d, .range t x, ty, pos, af, g⟩ :: os) l w :=
  wl_value (w' := w.alloc (.mapIter (some b) es.length #[] es.length)) rfl hw hN (fun a ha => by
    have h1 := run_range_map (P := P) w t kt et b _ _ (TyMap.out (P := P) (t := t)) hb.out
    simp [execOp, ha.ev hx, h1])
    (k w.heap.size _ (hm.add (Kept.alloc w _) (heap_alloc_new w _) (fun b' hb' => by simp only [HItem.blk, Option.some.injEq] at hb'; omega)))
theorem m_next {i r b : Nat} {es : Ents} {S : List Nat} (hm : Mem E I H w) (hw : want ops l ⟨some d, .next x false, ty, pos, af, g⟩ = some true) (hN : Nat.blt d N = true)
    (hx : ev l x = some (.pointer (some ⟨r, 0, none⟩))) (hi : H[i]? = some (.it r b es.length S)) (hb : MapAt w b es)
    (k1 : (∀ j, j < es.length → j ∈ S) → WL P N ds ops Q os ((d, .tuple #[.bool false]) :: l) w)
    (k2 : ∀ j u v w', es[j]? = some (u, v) → j ∉ S → Mem E I (H.set i (.it r b es.length (S ++ [j]))) w' → WL P N ds ops Q os ((d, .tuple #[.bool true, str u, v]) :: l) w') :
    WL P N ds ops Q (⟨some d, .next x false, ty, pos, af, g⟩ :: os) l w := by
  have hr := hm.get hi
  rcases run_next_at (P := P) w ty r b es.length es.length S.toArray (entsOf es 0).toArray es.length hr hb.out (fun e he => by
    obtain ⟨j, u, v, h1, rfl⟩ := ents_mem.1 he
    exact (List.getElem?_eq_some_iff.1 h1).1) (Nat.le_refl _) with ⟨h0, hrun⟩ | ⟨e, he, w1, hw1, hrun⟩
  · exact wl_value rfl hw hN (fun a ha => by simp [execOp, ha.ev hx, hrun]) (k1 (left_none h0))
  · obtain ⟨j, u, v, hj, hS, rfl⟩ := left_mem he
    have hlt := lt_of_heap hr
    have hh : w1.heap = w.heap ∧ w1.os = w.os ∧ w1.tape = w.tape ∧ w1.output = w.output := by rcases hw1 with rfl | rfl <;> exact ⟨rfl, rfl, rfl, rfl⟩
    have hk : Kept [r] w (ChangeMaps.setBlock w1 r (.mapIter (some b) es.length (S ++ [j]).toArray es.length)) :=
      ⟨hh.2.1, hh.2.2.1, hh.2.2.2, by simp [ChangeMaps.setBlock, hh.1], fun k hk hx => by
          have : r ≠ k := by rintro rfl; simp at hx
          simp [ChangeMaps.setBlock, hh.1, Array.getElem?_setIfInBounds_ne this]⟩
    have hS2 : (S ++ [j]).toArray = S.toArray.push j := by simp
    have hok : HItem.ok (ChangeMaps.setBlock w1 r (.mapIter (some b) es.length (S ++ [j]).toArray es.length)) (.it r b es.length (S ++ [j])) := by
      simp [HItem.ok, ChangeMaps.setBlock, hh.1, hlt]
    rw [← hS2] at hrun
    exact wl_value rfl hw hN (fun a ha => by simp [execOp, ha.ev hx, hrun]) (k2 j u v _ hj hS (hm.turn hi (by simpa [HItem.blk] using hk) hok (.inl rfl)))
theorem m_entry {i r b j : Nat} {es : Ents} {S : List Nat} {u : List UInt8} {v : Value} (hm : Mem E I H w) (hw : want ops l ⟨some d, .entry x, ty, pos, af, g⟩ = some true) (hN : Nat.blt d N = true)
    (hx : ev l x = some (.pointer (some ⟨r, 0, none⟩))) (hi : H[i]? = some (.it r b es.length (S ++ [j]))) (hb : MapAt w b es) (hj : es[j]? = some (u, v))
    (k : WL P N ds ops Q os ((d, .tuple #[str u, v]) :: l) w) : WL P N ds ops Q (⟨some d, .entry x, ty, pos, af, g⟩ :: os) l w := by
  have hr := hm.get hi
  have hrun := run_entry_at (P := P) w r b es.length S.toArray (entsOf es 0).toArray es.length { key := str u, val := v, born := j } (by rw [hr]; simp) hb.out (ents_mem.2 ⟨j, u, v, hj, rfl⟩) (ents_born es)
  exact wl_value rfl hw hN (fun a ha => by simp [execOp, ha.ev hx, hrun]) k
theorem op_lookup2 {kt et : TypeId} [TyMap P t kt et] [TyStr P kt] {b : Nat} {es : Ents} {s : List UInt8} {zv : Value} (hw : want ops l ⟨some d, .lookup t x y true, ty, pos, af, g⟩ = some true) (hN : Nat.blt d N = true)
    (hx : ev l x = some (.map (some b))) (hy : ev l y = some (str s)) (hm : MapAt w b es) (hz : ∀ w, (zeroValue et).run P w = .ok zv w)
    (k : WL P N ds ops Q os ((d, .tuple #[(mget es s).getD zv, .bool (mget es s).isSome]) :: l) w) :
    WL P N ds ops Q (⟨some d, .lookup t x y true, ty, pos, af, g⟩ :: os) l w :=
  wl_value rfl hw hN (fun a ha => by
    have h1 := run_underlying (P := P) (w := w) (TyMap.out (P := P) (t := t))
    have hk := TyStr.out (P := P) (t := kt)
    have h2 := run_findKey (P := P) (w := w) hk s es 0
    have h3 := fun b => run_checkKey (P := P) (w := w) hk s b
    have h4 := MapKept.run_getObj_map (P := P) hm.out
    have h5 := find_idx es s
    rw [mget, ← h5]
    cases hf : es.findIdx? (fun p => decide (p.1 = s)) with
    | none =>
      rw [hf] at h2
      simp [execOp, Instr.lookup, ha.ev hx, ha.ev hy, h1, h4, h3, h2, hz]
    | some i =>
      rw [hf] at h2
      have hi : i < es.length := by
        have := List.findIdx?_eq_some_iff_getElem.1 hf
        exact this.1
      have hg : es[i]? = some es[i] := List.getElem?_eq_getElem hi
      simp only [Option.bind_some, hg, Option.map_some] at h2
      simp [execOp, Instr.lookup, ha.ev hx, ha.ev hy, h1, h4, h3, h2, hg]) k
theorem Mem.freezeM {b : Nat} {es : Ents} (hm : Mem E I (.mp b es :: H) w) (hn : (es.map (·.1)).Nodup) : ∃ I', Le I I' ∧ Mem E I' H w ∧ MapI I' b es := by
  have hf := hm.free _ List.mem_cons_self b rfl
  exact ⟨I.add b (.map (entsOf es 0).toArray es.length), Le.add hf, hm.tl.freezeB (hm.ok _ List.mem_cons_self) hf (hm.born _ List.mem_cons_self b rfl) (fun h hh e => (List.pairwise_cons.1 hm.dist).1 h hh b rfl e), ⟨Imm.add_self _ _ _, hn⟩⟩
end
/-! copying a map, entry by entry -/
structure Copied (es : Ents) (S : List Nat) (es2 : Ents) : Prop where
  nodup : (es2.map (·.1)).Nodup
  get : ∀ n v, mget es2 n = some v ↔ ∃ j ∈ S, es[j]? = some (n, v)
theorem Copied.start (es : Ents) : Copied es [] [] := ⟨by simp, fun n v => by simp [mget]⟩
theorem Copied.put {es es2 : Ents} {S : List Nat} {j : Nat} {u : List UInt8} {v : Value} (h : Copied es S es2) (hn : (es.map (·.1)).Nodup) (hj : es[j]? = some (u, v)) : Copied es (S ++ [j]) (mput es2 u v) := by
  refine ⟨mput_nodup h.nodup, fun n v' => ?_⟩
  rw [mget_mput n h.nodup]
  by_cases e : n = u
  · subst e
    rw [if_pos rfl]
    constructor
    · rintro h'; cases h'; exact ⟨j, by simp, hj⟩
    · rintro ⟨i, _, hi⟩
      rw [← mget_at hn hj, mget_at hn hi]
  · rw [if_neg e, h.get]
    constructor
    · rintro ⟨i, hi, h2⟩; exact ⟨i, by simp [hi], h2⟩
    · rintro ⟨i, hi, h2⟩
      rcases List.mem_append.1 hi with hi | hi
      · exact ⟨i, hi, h2⟩
      · rw [List.mem_singleton] at hi
        subst hi
        rw [hj] at h2
        cases h2
        exact absurd rfl e
theorem Copied.done {es es2 : Ents} {S : List Nat} (h : Copied es S es2) (_hn : (es.map (·.1)).Nodup) (hS : ∀ j, j < es.length → j ∈ S) (n : List UInt8) : mget es2 n = mget es n := by
  cases hg : mget es n with
  | some v =>
    obtain ⟨j, hj⟩ := mget_some hg
    exact (h.get n v).2 ⟨j, hS j (List.getElem?_eq_some_iff.1 hj).1, hj⟩
  | none =>
    cases hg2 : mget es2 n with
    | none => rfl
    | some v =>
      obtain ⟨j, _, hj⟩ := (h.get n v).1 hg2
      exact absurd rfl (mget_none hg hj)
/-- how many are left. -/
def leftN (n : Nat) (S : List Nat) : Nat := ((List.range n).filter (fun j => !S.contains j)).length
theorem filter_less {α : Type} (p q : α → Bool) : ∀ (l : List α), (∀ x ∈ l, p x = true → q x = true) → (∃ x ∈ l, q x = true ∧ p x = false) → (l.filter p).length < (l.filter q).length
  | [], _, h => by obtain ⟨_, h, _⟩ := h; cases h
  | a :: l, h1, h2 => by
    have hle : ∀ (l : List α), (∀ x ∈ l, p x = true → q x = true) → (l.filter p).length ≤ (l.filter q).length := fun l h => by
      induction l with
      | nil => simp
      | cons a l ih =>
        have ih' := ih (fun x hx => h x (List.mem_cons_of_mem _ hx))
        have ha := h a List.mem_cons_self
        simp only [List.filter_cons]
        cases hp : p a <;> cases hq : q a <;> simp_all <;> omega
    have h1' : ∀ x ∈ l, p x = true → q x = true := fun x hx => h1 x (List.mem_cons_of_mem _ hx)
    obtain ⟨x, hx, hq, hp⟩ := h2
    rcases List.mem_cons.1 hx with rfl | hx
    · simp only [List.filter_cons, hq, hp, if_true, Bool.false_eq_true, if_false, List.length_cons]
      exact Nat.lt_succ_of_le (hle l h1')
    · have ih := filter_less p q l h1' ⟨x, hx, hq, hp⟩
      have ha := h1 a List.mem_cons_self
      simp only [List.filter_cons]
      cases hp : p a <;> cases hq : q a <;> simp_all <;> omega
theorem leftN_step {n j : Nat} {S : List Nat} (hj : j < n) (hS : j ∉ S) : leftN n (S ++ [j]) < leftN n S :=
  filter_less _ _ _ (fun x _ h => by simp at h ⊢; exact h.1) ⟨j, List.mem_range.2 hj, by simpa using hS, by simp⟩
end Go.Fw
end
section
namespace Go.Proofs.YtkbiakajlfmakaaGreatDoor
open Go.Fw
theorem zero_num (w : World) : (zeroValue 3).run Tryz.prog w = .ok (.int .i64 0) w := by kernel_rfl
set_option maxHeartbeats 4000000 in
theorem r_find (k : Int) (n : List UInt8) (its : List Sp.Itm) (I : Imm) (a : Option Addr) (cp : Nat) (xs : List Value) (h : FE I its a cp xs) :
    CalM Tryz.prog 8 #[.agg [.slice a its.length cp].toArray, .int .i64 k, str n] I [] (fun v _ H' => v = .int .i64 (Sp.findV its k n) ∧ H' = []) := by
  refine CalM.of fun w E hm => enter (N := 33) Tryz.func8 rfl [(0, .agg [.slice a its.length cp].toArray), (1, .int .i64 k), (2, str n)] args3 rfl ?_
  have hfew := h.few
  repeat' (first
  | (refine m_box (d:=3) hm (k:=?_); clear hm; intro b3 _ hm)
  | refine m_load1 hm (k:=?_)
  | refine op_move (k:=?_)
  | refine op_assign (k:=?_)
  | refine op_len_slice (k:=?_)
  | refine op_fieldAddr (k:=?_)
  | refine wl_nil ?_
  | refine at_then_normal ?_
  | refine wc_seq ?_
  | refine wc_region ?_
  | refine wc_block ?_)
  refine wc_loop (fun x : Nat => [(1, .int .i64 k), (2, str n), (10, .slice a its.length cp), (11, nt its.length), (12, nt x)])
    (fun x w' => Mem E I [] w' ∧ x ≤ its.length ∧ ∀ j it', j < x → its[j]? = some it' → Sp.itIs k n it' = false) (fun x => its.length - x) 0 (by exact ⟨rfl, rfl, rfl, rfl, rfl, trivial⟩) ⟨hm.tl, Nat.zero_le _, fun j _ hj => absurd hj (Nat.not_lt_zero j)⟩ ?_
  clear hm
  rintro x w1 ⟨hm, hk, hno⟩
  try dsimp only at hm hk hno ⊢
  by_cases hlt : x < its.length
  · have hg : its[x]? = some its[x] := List.getElem?_eq_getElem hlt
    obtain ⟨cs, hcs, hat, hl10⟩ := h.get hg
    have hri := h.row
    generalize its[x] = it at hg hat
    obtain ⟨pa, pc, sa9, sc9, ba, bc9, da9, dc9, xb, rfl, _⟩ := hat
    cases hb : Sp.itIs k n it with
    | true =>
      have hb2 := hb
      simp only [Sp.itIs, Bool.and_eq_true, decide_eq_true_eq] at hb2
      obtain ⟨e1, e2, e3⟩ := hb2
      repeat' (first
      | (refine i_indexAddr (d:=15) (hr:=hri) (k:=?_); intro bt ot hpt; rw [show ((x : Int).toNat * 10) = x * 10 from rfl, hcs] at hpt)
      | (refine i_loadN (d:=16) hm (hp:=hpt) (k:=?_))
      | (refine m_allocS (d:=8) hm (k:=?_); clear hm; intro b8 _ hm)
      | refine m_load1 hm (k:=?_)
      | (refine m_storeAll hm (k:=?_); clear hm; intro _ hm; try simp only [setn] at hm)
      | refine op_move (k:=?_)
      | refine op_assign (k:=?_)
      | refine op_pick_true (k:=?_)
      | refine op_lss (k:=?_)
      | refine op_eql (k:=?_)
      | refine op_eql_str (k:=?_)
      | refine op_neq_str (k:=?_)
      | refine op_fieldAddr (k:=?_)
      | (refine wl_split_dec (h1:=fun _ => ?_) (h0:=fun _ => ?_)<;> (try first | contradiction | (exfalso; omega)))
      | refine wl_nil ?_
      | refine at_then_normal ?_
      | refine at_then_ret ?_
      | refine at_block_ret ?_
      | refine wc_seq ?_
      | refine wc_region ?_
      | refine wc_block ?_
      | refine wc_skip ?_
      | refine wc_ret ?_
      | refine at_ret1 (h:=?_)
      | (refine wc_cond_dec (ht:=fun _ => ?_) (hf:=fun _ => ?_)<;> (try first | contradiction | (exfalso; omega))))
      all_goals try (exfalso; first | omega | contradiction)
      exact ⟨I, [], ⟨by rw [show Sp.findV its k n = Sp.idxV (Sp.itIs k n) its from rfl, Sp.idxV_at hg hb hno], rfl⟩, hm.left (H := [])⟩
    | false =>
      have hne : n ≠ [] → (it.kind : Int) = k → it.name ≠ n := fun e3 e1 e2 => by
        rw [Sp.itIs, decide_eq_true e1, decide_eq_true e2, decide_eq_true e3] at hb
        cases hb
      repeat' (first
      | (refine i_indexAddr (d:=15) (hr:=hri) (k:=?_); intro bt ot hpt; rw [show ((x : Int).toNat * 10) = x * 10 from rfl, hcs] at hpt)
      | (refine i_loadN (d:=16) hm (hp:=hpt) (k:=?_))
      | (refine m_allocS (d:=8) hm (k:=?_); clear hm; intro b8 _ hm)
      | refine m_load1 hm (k:=?_)
      | (refine m_storeAll hm (k:=?_); clear hm; intro _ hm; try simp only [setn] at hm)
      | refine op_move (k:=?_)
      | refine op_assign (k:=?_)
      | refine op_pick_true (k:=?_)
      | refine op_pick_false (k:=?_)
      | refine op_lss (k:=?_)
      | refine op_eql (k:=?_)
      | refine op_eql_str (k:=?_)
      | refine op_neq_str (k:=?_)
      | refine op_add (k:=?_)
      | refine op_fieldAddr (k:=?_)
      | refine wl_skip (k:=?_)
      | (refine wl_split_dec (h1:=fun _ => ?_) (h0:=fun _ => ?_)<;> (try first | contradiction | (exfalso; omega)))
      | refine wl_nil ?_
      | refine at_then_normal ?_
      | refine at_then_ret ?_
      | refine at_block_normal ?_
      | refine at_block_ret ?_
      | refine wc_seq ?_
      | refine wc_region ?_
      | refine wc_block ?_
      | refine wc_skip ?_
      | refine wc_ret ?_
      | refine at_ret1 (h:=?_)
      | refine wc_cond_false (hf:=?_)
      | (refine wc_cond_dec (ht:=fun _ => ?_) (hf:=fun _ => ?_)<;> (try first | contradiction | (exfalso; omega))))
      all_goals try (exfalso; first | omega | contradiction | exact hne (by assumption) (by assumption) (by assumption))
      all_goals refine at_round (x + 1 : Nat) (by exact ⟨rfl, rfl, rfl, rfl, rfl, trivial⟩) ⟨hm.right (H := [_]), by omega, fun j it' hj hg' => ?_⟩ (by omega)
      all_goals
        rcases Nat.lt_or_ge j x with hjk | hjk
        · exact hno j it' hjk hg'
        · obtain rfl : j = x := by omega
          rw [hg] at hg'
          obtain rfl := Option.some.inj hg'
          exact hb
  · obtain rfl : x = its.length := by omega
    repeat' (first
    | refine op_assign (k:=?_)
    | refine op_lss (k:=?_)
    | refine wl_nil ?_
    | refine at_then_normal ?_
    | refine at_then_exit ?_
    | refine at_block_exit ?_
    | refine wc_seq ?_
    | refine wc_region ?_
    | refine wc_exit ?_
    | refine wc_ret ?_
    | refine at_ret1 (h:=?_)
    | (refine wc_cond_dec (ht:=fun _ => ?_) (hf:=fun _ => ?_)<;> (try first | contradiction | (exfalso; omega))))
    all_goals try (exfalso; omega)
    exact ⟨I, [], ⟨by rw [show Sp.findV its k n = Sp.idxV (Sp.itIs k n) its from rfl, Sp.idxV_none hno], rfl⟩, hm.left (H := [])⟩
/-- who looks at an item's names: it, what it used, what it told. -/
abbrev wObj (bc : Nat) (a : Option Addr) (n cp i : Nat) (s : Sp.NW) (da : Option Addr) (dp : Nat) (ua : Option Addr) (up : Nat) : HItem :=
  .obj bc (.cells [.slice a n cp, nt i, .slice da s.ds.length dp, .slice ua s.us.length up].toArray 34 (0, 0))
abbrev WSt (bc : Nat) (a : Option Addr) (n cp i : Nat) (s : Sp.NW) (da : Option Addr) (dp : Nat) (ua : Option Addr) (up : Nat) : List HItem :=
  [wObj bc a n cp i s da dp ua up, usRow s.us ua up, dgRow s.ds da dp]
abbrev ToW (bc : Nat) (a : Option Addr) (n cp i : Nat) (s : Sp.NW) (val : Value) : Value → Imm → List HItem → Prop :=
  fun v _ H' => v = val ∧ ∃ da dp ua up, H' = WSt bc a n cp i s da dp ua up
/-- what does not turn beside it; the text. -/
structure RC (I : Imm) (src : List UInt8) (p : Nat) (q : List UInt8) (its : List Sp.Itm) (i : Nat) (it : Sp.Itm) (a : Option Addr) (cp : Nat) (xs : List Value) : Prop where
  fe : FE I its a cp xs
  at_ : its[i]? = some it
  len : src.length ≤ 4000
  st : Sp.ItS src p q it
  sts : ∀ x ∈ its, Sp.ItS0 src x
theorem RC.le {I J : Imm} (m : Le I J) {src : List UInt8} {p : Nat} {q : List UInt8} {its : List Sp.Itm} {i : Nat} {it : Sp.Itm} {a : Option Addr} {cp : Nat} {xs : List Value} (h : RC I src p q its i it a cp xs) : RC J src p q its i it a cp xs :=
  ⟨h.fe.le m, h.at_, h.len, h.st, h.sts⟩
/-- locals in a map that does not turn. -/
structure EnvI (I : Imm) (p : Nat) (sc : List Sp.Lc) (b : Nat) (es : Ents) : Prop where
  map : MapI I b es
  get : ∀ n, mget es n = (Sp.findLc sc n).map (fun l => .int .i64 ((p : Int) + l.at_))
theorem EnvI.le {I J : Imm} (m : Le I J) {p : Nat} {sc : List Sp.Lc} {b : Nat} {es : Ents} (h : EnvI I p sc b es) : EnvI J p sc b es := ⟨h.map.le m, h.get⟩
section
variable {I : Imm} {bc n i cp dp up : Nat} {a da ua : Option Addr} {s : Sp.NW}
theorem WSt_tell (bc : Nat) (a : Option Addr) (n cp i : Nat) (s : Sp.NW) (f e : Nat) (u : List UInt8) (da : Option Addr) (dp : Nat) (ua : Option Addr) (up : Nat) :
    [.obj bc (.cells [.slice a n cp, nt i, .slice da (s.ds.length + 1) dp, .slice ua s.us.length up].toArray 34 (0, 0)), usRow s.us ua up, .row (.slice da (s.ds.length + 1) dp) 65 4 (s.ds.length + 1) (s.ds.flatMap encDg ++ encDg ⟨f, f + u.length, e, u⟩)] = WSt bc a n cp i (s.tell f e u) da dp ua up := by
  simp [Sp.NW.tell, List.flatMap_append]
theorem WSt_use (bc : Nat) (a : Option Addr) (n cp i : Nat) (s : Sp.NW) (b : Int) (f : Nat) (u : List UInt8) (d : Int) (da : Option Addr) (dp : Nat) (ua : Option Addr) (up : Nat) :
    [.obj bc (.cells [.slice a n cp, nt i, .slice da s.ds.length dp, .slice ua (s.us.length + 1) up].toArray 34 (0, 0)), .row (.slice ua (s.us.length + 1) up) 39 3 (s.us.length + 1) (s.us.flatMap encUs ++ encUs ⟨b + f, b + f + u.length, d⟩), dgRow s.ds da dp] = WSt bc a n cp i (s.use b f u d) da dp ua up := by
  simp [Sp.NW.use, List.flatMap_append]
theorem r_tell (u : List UInt8) (f e : Nat) (hf : f + u.length ≤ 1099511627776) (hd : s.n ≤ 1000000000) :
    CalM Tryz.prog 28 #[ptr bc, nt f, nt e, str u] I (WSt bc a n cp i s da dp ua up) (ToW bc a n cp i (s.tell f e u) (.tuple #[])) := by
  have hn : s.n = s.ds.length + s.us.length := rfl
  refine CalM.of fun w E hm => enter (N := 25) Tryz.func28 rfl [(0, ptr bc), (1, nt f), (2, nt e), (3, str u)] args4 rfl ?_
  repeat' (first
  | (refine m_push (d:=22) hm (k:=?_); clear hm; intro a22 cp22 _ _ hm; try simp only [setn] at hm)
  | refine m_load1 hm (k:=?_)
  | (refine m_store1 hm (k:=?_); clear hm; intro _ hm; try simp only [setn] at hm)
  | refine op_move (k:=?_)
  | refine op_len_str (k:=?_)
  | refine op_nilCheck (k:=?_)
  | refine op_add (k:=?_)
  | refine op_fieldAddr (k:=?_)
  | refine op_struct (k:=?_)
  | refine wl_nil ?_
  | refine wc_region ?_
  | refine at_end0 (h:=?_))
  exact ⟨I, _, ⟨rfl, _, _, _, _, WSt_tell _ _ _ _ _ s f e u _ _ _ _⟩, hm⟩
variable {src : List UInt8} {p : Nat} {q : List UInt8} {its : List Sp.Itm} {it : Sp.Itm} {xs : List Value}
theorem r_use (hC : RC I src p q its i it a cp xs) (f : Nat) (u : List UInt8) (d : Int) (hst : Sp.stands q f u) (hd : s.n ≤ 1000000000) :
    CalM Tryz.prog 44 #[ptr bc, nt f, str u, .int .i64 d] I (WSt bc a its.length cp i s da dp ua up) (ToW bc a its.length cp i (s.use p f u d) (.tuple #[])) := by
  have hn : s.n = s.ds.length + s.us.length := rfl
  have hb := (hC.st.sub _ _ hst).1
  have hlen := hC.len
  have hat := hC.st.at_
  have hri := hC.fe.row
  have hfew := hC.fe.few
  have hi := (List.getElem?_eq_some_iff.1 hC.at_).1
  obtain ⟨ci, hci, hati, _⟩ := hC.fe.get hC.at_
  obtain ⟨pa, pc, sa9, sc9, ba, bc9, da9, dc9, xb, rfl, _⟩ := hati
  rw [hat] at hci
  refine CalM.of fun w E hm => enter (N := 39) Tryz.func44 rfl [(0, ptr bc), (1, nt f), (2, str u), (3, .int .i64 d)] args4 rfl ?_
  repeat' (first
  | (refine iq_indexAddr (d:=18) (hr:=hri) (k:=?_); intro bt ot hpt; rw [show ((i : Int).toNat * 10) = i * 10 from rfl, hci] at hpt)
  | (refine m_push (d:=36) hm (k:=?_); clear hm; intro a36 cp36 _ _ hm; try simp only [setn] at hm)
  | refine m_load1 hm (k:=?_)
  | refine mq_load1 hm (k:=?_)
  | refine iq_load1 hm (k:=?_)
  | (refine m_store1 hm (k:=?_); clear hm; intro _ hm; try simp only [setn] at hm)
  | refine op_move (k:=?_)
  | refine op_len_str (k:=?_)
  | refine op_nilCheck (k:=?_)
  | refine op_add (k:=?_)
  | refine op_fieldAddr (k:=?_)
  | refine op_struct (k:=?_)
  | refine wl_nil ?_
  | refine at_then_normal ?_
  | refine wc_seq ?_
  | refine wc_region ?_
  | refine at_end0 (h:=?_)
  | refine wc_quiet (h:=?_)
  | (refine wq_nil ?_; intro _ hkq; replace hm := hm.kept0 hkq; clear hkq)
  | refine q_move (k:=?_)
  | refine q_assign (k:=?_)
  | refine q_nilCheck (k:=?_)
  | refine q_add (k:=?_)
  | refine q_fieldAddr (k:=?_))
  all_goals try (exfalso; omega)
  exact ⟨I, _, ⟨rfl, _, _, _, _, WSt_use _ _ _ _ _ s p f u d _ _ _ _⟩, hm⟩
set_option maxHeartbeats 4000000 in
theorem r_local (hC : RC I src p q its i it a cp xs) {be : Nat} {es : Ents} {sc : List Sp.Lc} (hE : EnvI I p sc be es) (f : Nat) (u : List UInt8) (hst : Sp.stands q f u) (hd : s.n ≤ 1000000000) :
    CalM Tryz.prog 46 #[ptr bc, .map (some be), nt f, str u] I (WSt bc a its.length cp i s da dp ua up) (ToW bc a its.length cp i (Sp.locN p sc f u s) (.tuple #[])) := by
  have hb := (hC.st.sub _ _ hst).1
  have hlen := hC.len
  refine CalM.of fun w E hm => enter (N := 28) Tryz.func46 rfl [(0, ptr bc), (1, .map (some be)), (2, nt f), (3, str u)] args4 rfl ?_
  have hg := hE.get u
  cases hf : Sp.findLc sc u with
  | some l =>
    rw [hf] at hg
    rw [Sp.locN_some hf]
    have hU := fun (J : Imm) (m : Le I J) => r_use (I := J) (bc := bc) (s := s) (da := da) (dp := dp) (ua := ua) (up := up) (hC.le m) f u ((p : Int) + l.at_) hst hd
    repeat' (first
    | (refine op_lookup2 (d := 13) (by rfl) (by rfl) (by rfl) (by rfl) (hm.mapI hE.map) zero_num ?_; rw [hg]; dsimp only [Option.map_some, Option.getD_some, Option.isSome_some])
    | (refine m_call (d:=21) hm (hc:=(hU I (Le.refl _))) (k:=?_); clear hm; rintro _ I2 _ _ ⟨rfl, da2, dp2, ua2, up2, rfl⟩ hle hm; have hleI2 := hle; try simp only [setn] at hm)
    | refine op_move (k:=?_)
    | refine op_assign (k:=?_)
    | refine op_extract (k:=?_)
    | refine wl_nil ?_
    | refine at_then_normal ?_
    | refine wc_seq ?_
    | refine wc_region ?_
    | refine at_end0 (h:=?_)
    | refine wc_cond_true (ht:=?_))
    all_goals try (exfalso; first | omega | contradiction)
    exact ⟨I2, _, ⟨rfl, _, _, _, _, rfl⟩, hm⟩
  | none =>
    rw [hf] at hg
    rw [Sp.locN_none hf]
    by_cases hn : u = []
    · rw [if_pos hn]
      subst hn
      repeat' (first
      | (refine op_lookup2 (d := 13) (by rfl) (by rfl) (by rfl) (by rfl) (hm.mapI hE.map) zero_num ?_; rw [hg]; dsimp only [Option.map_none, Option.getD_none, Option.isSome_none])
      | refine op_move (k:=?_)
      | refine op_assign (k:=?_)
      | refine op_neq_str (k:=?_)
      | refine op_extract (k:=?_)
      | refine wl_nil ?_
      | refine at_then_normal ?_
      | refine wc_seq ?_
      | refine wc_region ?_
      | refine wc_skip ?_
      | refine at_end0 (h:=?_)
      | refine wc_cond_false (hf:=?_))
      all_goals try (exfalso; first | omega | contradiction)
      exact ⟨I, _, ⟨rfl, _, _, _, _, rfl⟩, hm⟩
    · rw [if_neg hn]
      have hT := fun (J : Imm) => r_tell (I := J) (bc := bc) (a := a) (n := its.length) (cp := cp) (i := i) (s := s) (da := da) (dp := dp) (ua := ua) (up := up) u f 6 (by omega) hd
      repeat' (first
      | (refine op_lookup2 (d := 13) (by rfl) (by rfl) (by rfl) (by rfl) (hm.mapI hE.map) zero_num ?_; rw [hg]; dsimp only [Option.map_none, Option.getD_none, Option.isSome_none])
      | (refine m_call (d:=27) hm (hc:=(hT I)) (k:=?_); clear hm; rintro _ I2 _ _ ⟨rfl, da2, dp2, ua2, up2, rfl⟩ hle hm; have hleI2 := hle; try simp only [setn] at hm)
      | refine op_move (k:=?_)
      | refine op_assign (k:=?_)
      | refine op_neq_str (k:=?_)
      | refine op_extract (k:=?_)
      | refine wl_nil ?_
      | refine at_then_normal ?_
      | refine wc_seq ?_
      | refine wc_region ?_
      | refine at_end0 (h:=?_)
      | refine wc_cond_false (hf:=?_)
      | (refine wc_cond_dec (ht:=fun _ => ?_) (hf:=fun _ => ?_)<;> (try first | contradiction | (exfalso; omega))))
      all_goals try (exfalso; first | omega | contradiction)
      exact ⟨I2, _, ⟨rfl, _, _, _, _, rfl⟩, hm⟩
end
end Go.Proofs.YtkbiakajlfmakaaGreatDoor
end
section
namespace Go.Fw
open Go
section
variable {P : Program} {ops : Array Oper} {md : Region.Mode} {C : World → Prop}
/-- operation 'i' yields a value, or nothing. -/
def uOp (P : Program) (ops : Array Oper) (i : Nat) (K : Act → World → Prop) (a : Act) (w : World) : Prop :=
  match ops[i]? with
  | none => K a w
  | some o => if Region.wanted o (yielded ops a.tmps) then (∃ u w', (execOp a.eval o).run P w = .ok (.value u) w' ∧ K (a.put o.dst u) w') ∨
      (∃ f args, (execOp a.eval o).run P w = .ok (.enter f args) w ∧ Calls P f args w (fun e w' => ∃ u, e = .returned u ∧ K (a.put o.dst u) w')) ∨
      (∃ w', (execOp a.eval o).run P w = .ok .skip w' ∧ K (a.put o.dst undef) w') else K (a.put o.dst undef) w
theorem YieldsV.uOp {i : Nat} {o : Oper} {v : Value} {a : Act} {w : World} (hi : ops[i]? = some o) (hy : YieldsV P ops C o v a) (hC : C w) {K : Act → World → Prop} (h : K (a.put o.dst v) w) : uOp P ops i K a w := by
  unfold Fw.uOp
  simp only [hi]
  rcases hy with ⟨hw, hv⟩ | ⟨hw, rfl⟩
  · rw [if_pos hw]; exact .inl ⟨v, w, hv w hC, h⟩
  · rw [if_neg (by rw [hw]; simp)]; exact h
/-- the first 'n', in any order; the class is kept. -/
def anyU (P : Program) (md : Region.Mode) (ops : Array Oper) (C : World → Prop) (n : Nat) (L : Array Bool → Act → World → Prop) : Nat → Array Bool → Act → World → Prop
  | 0, listed, a, w => L listed a w
  | f + 1, listed, a, w => Region.ready md ops listed ≠ [] ∧ ∀ i ∈ Region.ready md ops listed, i < n ∧ uOp P ops i (fun a' w' => C w' ∧ anyU P md ops C n L f (listed.setIfInBounds i true) a' w') a w
end
section
variable {P : Program} {N : Nat} {ds : List Deferred} {X : List Nat} {Q : Exit → Act → World → Prop} {l : Log} {w w' w0 : World} {os tail : List Oper} {ops : Array Oper} {E : Ent} {I : Imm} {G R H : List HItem} {o : Oper}
/-- what is still to come, in any order. -/
structure WA (P : Program) (N : Nat) (ds : List Deferred) (ops : Array Oper) (Q : Exit → Act → World → Prop) (X : List Nat) (w0 : World) (n f : Nat) (listed : Array Bool) (tail : List Oper) (l : Log) (w : World) : Prop where
  run : ∀ a, Fits N ds l a → anyU P .any ops (fun w' => Kept X w0 w') n (fun listed' a' w' => Region.seqB .any ops (ops.size - n) n listed' = true ∧ wpList P ops Q tail a' w') f listed a w
/-- one operation, now. -/
structure WU (P : Program) (N : Nat) (ds : List Deferred) (ops : Array Oper) (Q : Exit → Act → World → Prop) (X : List Nat) (w0 : World) (n f : Nat) (listed : Array Bool) (tail : List Oper) (o : Oper) (l : Log) (w : World) : Prop where
  run : ∀ a, Fits N ds l a → ∀ i, ops[i]? = some o → uOp P ops i (fun a' w' => Kept X w0 w' ∧ anyU P .any ops (fun w' => Kept X w0 w') n (fun listed' a' w' => Region.seqB .any ops (ops.size - n) n listed' = true ∧ wpList P ops Q tail a' w') f listed a' w') a w
variable {d : Nat} {ty : TypeId} {pos : String} {af : Array Edge} {g : Option (Nat × Bool)} {t t' : TypeId} {x y z : Operand} {n f : Nat} {listed : Array Bool}
/-- a walk holds here. -/
structure WHold (p : Prop) : Prop where
  out : p
theorem wc_hold (id : Nat) {dr : Bool} (h : WHold (WC P N ds (.region id ops dr) Q l w)) : WC P N ds (.region id ops dr) Q l w := h.out
theorem iw_indexAddr {e : TypeId} {sz by_ : Nat} {KV : Act → Prop} [TySlice P t e] [Elem P e sz by_] {a : Option Addr} {m cp : Nat} {i : Int} {xs : List Value} (hw : want ops l ⟨some d, .indexAddr t x y, ty, pos, af, g⟩ = some true := by rfl) (hN : Nat.blt d N = true := by rfl)
    (hx : ev l x = some (.slice a m cp) := by rfl) (hy : ev l y = some (.int .i64 i) := by rfl) (hr : RowI I e sz (.slice a m cp) m xs) (h0 : 0 ≤ i := by omega) (h1 : i < m := by omega)
    (k : ∀ b off, PtrI I b off e ((xs.drop (i.toNat * sz)).take sz) → WV P N ds ops X w KV os ((d, .pointer (some ⟨b, off, none⟩)) :: l)) :
    WV P N ds ops X w KV (⟨some d, .indexAddr t x y, ty, pos, af, g⟩ :: os) l := by
  obtain ⟨b, off, rfl, hp⟩ := hr.at_ i.toNat (by omega)
  exact v_indexAddr hw hN hx hy h0 h1 (k b _ hp)
end
end Go.Fw
end
section
namespace Go.Fw
open Go
section
variable {P : Program} {N : Nat} {ds : List Deferred} {Q : Exit → Act → World → Prop} {K : Act → World → Prop} {l l' : Log} {w w' : World} {ops : Array Oper} {os : List Oper}
variable {d : Nat} {ty : TypeId} {pos : String} {af : Array Edge} {g : Option (Nat × Bool)} {t t' : TypeId} {x y z : Operand}
end
end Go.Fw
end
section
namespace Go.Sp
def headN (its : List Itm) (b : Int) (sc : List Lc) (e : Ex) (s : NW) : NW := if e.kind = 2 then locN b sc e.fr e.name s else if e.kind = 4 then callN its b e.fr e.name e.args.length s else s
theorem exN_eq (its : List Itm) (b : Int) (sc : List Lc) (e : Ex) (s : NW) : exN its b sc e s = exsN its b sc e.args (headN its b sc e s) := by cases e; rw [exN, headN]; rfl
theorem headN_n (its : List Itm) (b : Int) (sc : List Lc) (e : Ex) (s : NW) : s.n ≤ (headN its b sc e s).n ∧ (headN its b sc e s).n ≤ s.n + 2 := by
  have h1 := locN_n b sc e.fr e.name s
  have h2 := callN_n its b e.fr e.name e.args.length s
  rw [headN]
  split
  · omega
  · split <;> omega
theorem cnt_args (e : Ex) : e.cnt = exsCnt e.args + 1 := by cases e; rw [Ex.cnt]; rfl
theorem exsCnt_take {l : List Ex} {k : Nat} {y : Ex} (h : l[k]? = some y) : exsCnt (l.take k) + y.cnt ≤ exsCnt l := by
  have e : l = l.take (k + 1) ++ l.drop (k + 1) := (List.take_append_drop _ _).symm
  have h2 := congrArg exsCnt e
  rw [exsCnt_app, take_succ_get h, exsCnt_app, exsCnt_one] at h2
  omega
theorem callN_none {its : List Itm} {b : Int} {a : Nat} {n : List UInt8} {m : Nat} {s : NW} (h : findIt its 2 n = none) : callN its b a n m s = itmN its b 2 a n s := by rw [callN, h]
theorem callN_some {its : List Itm} {b : Int} {a : Nat} {n : List UInt8} {m : Nat} {s : NW} {j : Nat} (h : findIt its 2 n = some j) : callN its b a n m s = if (itNo its j).params.length ≠ m then (itmN its b 2 a n s).tell a 5 n else itmN its b 2 a n s := by rw [callN, h]
end Go.Sp
namespace Go.Fw
theorem wc_cut_regN {P : Program} {N : Nat} {ds : List Deferred} {Q : Exit → Act → World → Prop} {l : Log} {w : World} (id : Nat) {ops : Array Oper} {dr : Bool} {x y : Code} {α : Type} (L : α → Log) (J : α → World → Prop)
    (h : WHold (WC P N ds (.seq (.region id ops dr) x) (Exit.then (fun a w => ∃ x, Fits N ds (L x) a ∧ J x w) Q) l w))
    (k : ∀ x w, J x w → WC P N ds y Q (L x) w) : WC P N ds (.seq (.seq (.region id ops dr) x) y) Q l w := wc_cut_reg id L J h.out k
end Go.Fw
namespace Go.Proofs.YtkbiakajlfmakaaGreatDoor
open Go.Fw
structure NX where
  k : Nat
  I : Imm
  sa : Option Addr
  sp : Nat
  da : Option Addr
  dp : Nat
  ua : Option Addr
  up : Nat
section
variable {src : List UInt8} {p : Nat} {q : List UInt8} {its : List Sp.Itm} {it : Sp.Itm} {bc bf : Nat} {a : Option Addr} {cp : Nat} {xs : List Value} {pi : Value} {sc : List Sp.Lc}
end
end Go.Proofs.YtkbiakajlfmakaaGreatDoor
end
section
namespace Go.Fw
open Go
theorem own_cut {w : World} {base e sz n m cp : Nat} {a : Option Addr} {xs : List Value} (ho : w.ownsRow base e sz (.slice a n cp) n xs) (hmn : m ≤ n) :
    w.ownsRow base e sz (.slice a m cp) m (xs.take (m * sz)) ∧ n ≤ cp ∧ (a = none ∨ ∃ g, a = some ⟨g, 0, none⟩) := by
  have h0 := ho.1
  have hle : m * sz ≤ n * sz := Nat.mul_le_mul_right _ hmn
  have hlen : (xs.take (m * sz)).length = m * sz := by rw [List.length_take]; omega
  rcases ho.2 with ⟨hv, hn⟩ | ⟨g, cap, cur, hv, hb, hg, hc, hcm, hs, ht⟩
  · obtain ⟨rfl, rfl, rfl⟩ := Value.slice.inj hv
    obtain rfl : m = 0 := by omega
    exact ⟨⟨hlen, .inl ⟨rfl, rfl⟩⟩, Nat.le_refl _, .inl rfl⟩
  · obtain ⟨rfl, _, rfl⟩ := Value.slice.inj hv
    refine ⟨⟨hlen, .inr ⟨g, cp, cur, rfl, hb, hg, by omega, hcm, hs, ?_⟩⟩, hc, .inr ⟨g, rfl⟩⟩
    rw [← ht, List.take_take, Nat.min_eq_left hle]
section
variable {P : Program} {N : Nat} {ds : List Deferred} {Q : Exit → Act → World → Prop} {l : Log} {w : World} {ops : Array Oper} {os : List Oper}
variable {d : Nat} {ty : TypeId} {pos : String} {af : Array Edge} {g : Option (Nat × Bool)} {t : TypeId} {x y : Operand} {E : Ent} {I : Imm} {H : List HItem}
theorem m_sliceTo {e : TypeId} {sz by_ : Nat} [TySlice P t e] [Elem P e sz by_] {i n m cp : Nat} {a : Option Addr} {xs : List Value} (hm : Mem E I H w)
    (hw : want ops l ⟨some d, .slice t x none (some y) none, ty, pos, af, g⟩ = some true := by rfl) (hN : Nat.blt d N = true := by rfl)
    (hx : ev l x = some (.slice a n cp) := by rfl) (hy : ev l y = some (.int .i64 (m : Int)) := by rfl) (hi : H[i]? = some (.row (.slice a n cp) e sz n xs) := by first | exact gt0 | exact gt1 | exact gt2 | exact gt3 | exact gt4 | exact gt5 | exact gt6) (hmn : m ≤ n)
    (k : Mem E I (H.set i (.row (.slice a m cp) e sz m (xs.take (m * sz)))) w → WL P N ds ops Q os ((d, .slice a m cp) :: l) w) :
    WL P N ds ops Q (⟨some d, .slice t x none (some y) none, ty, pos, af, g⟩ :: os) l w := by
  obtain ⟨h1, h2, h3⟩ := own_cut (hm.ok _ (List.mem_of_getElem? hi)) hmn
  have hm' := hm.turn (h' := .row (.slice a m cp) e sz m (xs.take (m * sz))) hi (Kept.refl _ w) h1 (.inl (by rcases a with _ | a <;> rfl))
  refine wl_value (w' := w) (v := .slice a m cp) rfl hw hN (fun c hc => ?_) (k hm')
  obtain ⟨inf, z, hinf, _, hs, _, _, _⟩ := Elem.out (P := P) (e := e)
  have h6 := run_underlying (P := P) (w := w) (TySlice.out (P := P) (t := t))
  have h7 : m ≤ cp := by omega
  rcases h3 with rfl | ⟨g, rfl⟩
  · simp [execOp, Instr.sliceAt, Instr.slice, Instr.sliceBounds, Instr.sliceBound, hc.ev hx, hc.ev hy, h6, asIntOf, h7, sizeOf, typeInfo, hinf, hs]
  · simp [execOp, Instr.sliceAt, Instr.slice, Instr.sliceBounds, Instr.sliceBound, hc.ev hx, hc.ev hy, h6, asIntOf, h7, sizeOf, typeInfo, hinf, hs, Addr.add_lit]
end
end Go.Fw
end
section
namespace Go.Sp
def coreN (its : List Itm) (b : Int) (x : Stm) (sc : List Lc) (s : NW) : List Lc × NW :=
  if x.kind = 1 then mkN x.name x.at_ sc s else
  if x.kind = 2 then (sc, locN b sc x.at_ x.name s) else
  if x.kind = 5 then (sc, itmN its b 1 x.at_ x.name s) else
  if x.kind = 3 ∨ x.kind = 4 then (sc, (stmsN its b x.els sc (stmsN its b x.thn sc s).2).2) else (sc, s)
theorem stmN_eq (its : List Itm) (b : Int) (x : Stm) (sc : List Lc) (s : NW) : stmN its b x sc s = coreN its b x sc (exN its b sc x.e s) := by cases x; rw [stmN, coreN]; rfl
theorem cnt_stm (x : Stm) : x.cnt = x.e.cnt + stmsCnt x.thn + stmsCnt x.els + 1 := by cases x; rw [Stm.cnt]; rfl
theorem stmsCnt_take {l : List Stm} {k : Nat} {y : Stm} (h : l[k]? = some y) : stmsCnt (l.take k) + y.cnt ≤ stmsCnt l := by
  have e : l = l.take (k + 1) ++ l.drop (k + 1) := (List.take_append_drop _ _).symm
  have h2 := congrArg stmsCnt e
  rw [stmsCnt_app, take_succ_get h, stmsCnt_app, stmsCnt_one] at h2
  omega
theorem len_cnt : ∀ (l : List Stm), l.length ≤ stmsCnt l
  | [] => by simp
  | x :: l => by rw [stmsCnt, List.length_cons]; have := cnt_stm x; have := len_cnt l; omega
end Go.Sp
namespace Go.Proofs.YtkbiakajlfmakaaGreatDoor
open Go.Fw
section
variable (src : List UInt8) (p : Nat) (q : List UInt8) (its : List Sp.Itm) (it : Sp.Itm) (bc bf : Nat) (a : Option Addr) (cp : Nat) (xs : List Value) (pi : Value)
end
section
variable {src : List UInt8} {p : Nat} {q : List UInt8} {its : List Sp.Itm} {it : Sp.Itm} {bc bf : Nat} {a : Option Addr} {cp : Nat} {xs : List Value} {pi : Value}
end
end Go.Proofs.YtkbiakajlfmakaaGreatDoor
end
section
namespace Go.Fw
open Go
theorem RowI.take {I : Imm} {e sz n m cp : Nat} {a : Option Addr} {xs : List Value} (h : RowI I e sz (.slice a n cp) n xs) (hmn : m ≤ n) : RowI I e sz (.slice a m cp) m (xs.take (m * sz)) := by
  obtain ⟨h0, a', cap, h1, h2, h3⟩ := h
  obtain ⟨rfl, _, rfl⟩ := Value.slice.inj h1
  have hle : m * sz ≤ n * sz := Nat.mul_le_mul_right _ hmn
  refine ⟨by rw [List.length_take]; omega, a, cp, rfl, by omega, fun hm => ?_⟩
  obtain ⟨b, off, c, fr, e1, e2, e3⟩ := h3 (by omega)
  refine ⟨b, off, c, fr, e1, e2, fun j u hj => e3 j u ?_⟩
  rw [List.getElem?_take] at hj
  split at hj
  · exact hj
  · cases hj
section
variable {P : Program} {N : Nat} {ds : List Deferred} {Q : Exit → Act → World → Prop} {l : Log} {w : World} {ops : Array Oper} {os : List Oper}
variable {d : Nat} {ty : TypeId} {pos : String} {af : Array Edge} {g : Option (Nat × Bool)} {t : TypeId} {x y : Operand} {E : Ent} {I : Imm} {H : List HItem}
end
end Go.Fw
end
section
namespace Go.Sp
theorem parN_n : ∀ (l : List Par) (sc : List Lc) (s : NW), s.n ≤ (parN l sc s).2.n ∧ (parN l sc s).2.n ≤ s.n + l.length ∧ sc.length ≤ (parN l sc s).1.length ∧ (parN l sc s).1.length ≤ sc.length + l.length
  | [], sc, s => by rw [parN]; exact ⟨Nat.le_refl _, by simp, Nat.le_refl _, by simp⟩
  | x :: l, sc, s => by
    rw [parN, List.length_cons]
    have h1 := mkN_n x.name x.at_ sc s
    have h2 := parN_n l (mkN x.name x.at_ sc s).1 (mkN x.name x.at_ sc s).2
    omega
theorem sndStep_n (its : List Itm) (b : Int) (dn : List Rf) (c : Rf) (s : NW) : s.n ≤ (sndStep its b dn c s).n ∧ (sndStep its b dn c s).n ≤ s.n + 2 := by
  have h1 := itmN_n its b 1 c.at_ c.name s
  rw [sndStep]
  split
  · rw [tell_n]; omega
  · omega
theorem sndN_n (its : List Itm) (b : Int) : ∀ (l dn : List Rf) (s : NW), s.n ≤ (sndN its b dn l s).n ∧ (sndN its b dn l s).n ≤ s.n + 2 * l.length
  | [], dn, s => by rw [sndN]; simp
  | x :: l, dn, s => by
    rw [sndN, List.length_cons]
    have h1 := sndStep_n its b dn x s
    have h2 := sndN_n its b l (dn ++ [x]) (sndStep its b dn x s)
    omega
end Go.Sp
namespace Go.Proofs.YtkbiakajlfmakaaGreatDoor
open Go.Fw
end Go.Proofs.YtkbiakajlfmakaaGreatDoor
end
