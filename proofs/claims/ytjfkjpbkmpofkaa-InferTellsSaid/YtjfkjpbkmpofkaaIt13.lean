/- Own work: texts FwMap3, FwMapZ, FwMapY, FwRow2, one behind the other. -/
import Derived.Test.YtjfkjpbkmpofkaaIt12
import Derived.Maps.RangeRun
section
namespace Go.Fw
open Go
/-- what a map has under a text. -/
def mget (es : Ents) (s : List UInt8) : Option Value := (es.find? (fun p => decide (p.1 = s))).map (·.2)
theorem mget_at : ∀ {es : Ents} {j : Nat} {u : List UInt8} {v : Value}, (es.map (·.1)).Nodup → es[j]? = some (u, v) → mget es u = some v
  | [], j, u, v, _, h => by simp at h
  | (a, c) :: es, 0, u, v, _, h => by
    simp only [List.getElem?_cons_zero, Option.some.injEq, Prod.mk.injEq] at h
    obtain ⟨rfl, rfl⟩ := h
    simp [mget]
  | (a, c) :: es, j + 1, u, v, hn, h => by
    rw [List.getElem?_cons_succ] at h
    rw [List.map_cons, List.nodup_cons] at hn
    have hne : a ≠ u := by
      rintro rfl
      exact hn.1 (List.mem_map_of_mem (f := (·.1)) (List.mem_of_getElem? h))
    have ih := mget_at hn.2 h
    simp only [mget] at ih ⊢
    rw [List.find?_cons, decide_eq_false hne]
    exact ih
theorem mget_some : ∀ {es : Ents} {u : List UInt8} {v : Value}, mget es u = some v → ∃ j : Nat, es[j]? = some (u, v)
  | [], u, v, h => by cases h
  | (a, c) :: es, u, v, h => by
    simp only [mget] at h
    rw [List.find?_cons] at h
    by_cases e : a = u
    · rw [decide_eq_true e] at h
      simp only [Option.map_some, Option.some.injEq] at h
      subst e; subst h
      exact ⟨0, rfl⟩
    · rw [decide_eq_false e] at h
      obtain ⟨j, hj⟩ := mget_some (es := es) h
      exact ⟨j + 1, by rw [List.getElem?_cons_succ]; exact hj⟩
theorem mget_none {es : Ents} {u : List UInt8} (h : mget es u = none) {j : Nat} {p : List UInt8 × Value} (hj : es[j]? = some p) : p.1 ≠ u := by
  rintro rfl
  simp only [mget, Option.map_eq_none_iff, List.find?_eq_none] at h
  have := h p (List.mem_of_getElem? hj)
  simp at this
theorem mget_append {es : Ents} {s : List UInt8} {v : Value} (n : List UInt8) (h : mget es s = none) : mget (es ++ [(s, v)]) n = if n = s then some v else mget es n := by
  simp only [mget] at h ⊢
  rw [List.find?_append]
  by_cases e : n = s
  · subst e
    rw [if_pos rfl, Option.map_eq_none_iff.1 h]
    simp
  · rw [if_neg e]
    cases hf : es.find? (fun p => decide (p.1 = n)) with
    | some p => rfl
    | none => simp [Ne.symm e]
theorem mget_set : ∀ {es : Ents} {i : Nat} {s : List UInt8} {v : Value} (n : List UInt8), (es.map (·.1)).Nodup → (∃ c, es[i]? = some (s, c)) → mget (es.set i (s, v)) n = if n = s then some v else mget es n
  | [], i, s, v, n, _, h => by obtain ⟨_, h⟩ := h; simp at h
  | (a, c) :: es, 0, s, v, n, _, h => by
    obtain ⟨_, h⟩ := h
    simp only [List.getElem?_cons_zero, Option.some.injEq, Prod.mk.injEq] at h
    obtain ⟨rfl, _⟩ := h
    simp only [mget, List.set_cons_zero, List.find?_cons]
    by_cases e : n = a
    · subst e; simp
    · rw [if_neg e, decide_eq_false (Ne.symm e)]
  | (a, c) :: es, i + 1, s, v, n, hn, h => by
    obtain ⟨c', h⟩ := h
    rw [List.getElem?_cons_succ] at h
    rw [List.map_cons, List.nodup_cons] at hn
    have ih := mget_set (v := v) n hn.2 ⟨c', h⟩
    have has : a ≠ s := by
      rintro rfl
      exact hn.1 (List.mem_map_of_mem (f := (·.1)) (List.mem_of_getElem? h))
    simp only [mget, List.set_cons_succ, List.find?_cons] at ih ⊢
    by_cases e : a = n
    · subst e
      rw [decide_eq_true rfl, if_neg has]
    · rw [decide_eq_false e]
      exact ih
theorem mget_mput {es : Ents} {s : List UInt8} {v : Value} (n : List UInt8) (hn : (es.map (·.1)).Nodup) : mget (mput es s v) n = if n = s then some v else mget es n := by
  rw [mput]
  cases hf : es.findIdx? (fun p => decide (p.1 = s)) with
  | some i =>
    obtain ⟨hi, hs, _⟩ := List.findIdx?_eq_some_iff_getElem.1 hf
    have hs' : es[i].1 = s := by simpa using hs
    exact mget_set n hn ⟨es[i].2, by rw [List.getElem?_eq_getElem hi, ← hs']⟩
  | none =>
    refine mget_append n ?_
    rw [List.findIdx?_eq_none_iff] at hf
    simp only [mget, Option.map_eq_none_iff, List.find?_eq_none]
    intro p hp
    simpa using hf p hp
/-- a map that does not turn. -/
structure MapI (I : Imm) (b : Nat) (es : Ents) : Prop where
  out : I b = some (.map (entsOf es 0).toArray es.length)
  nodup : (es.map (·.1)).Nodup
theorem MapI.le {I I' : Imm} {b : Nat} {es : Ents} (h : MapI I b es) (hl : Le I I') : MapI I' b es := ⟨hl _ _ h.out, h.nodup⟩
theorem Mem.mapI {E : Ent} {I : Imm} {H : List HItem} {w : World} {b : Nat} {es : Ents} (hm : Mem E I H w) (h : MapI I b es) : MapAt w b es := ⟨hm.inv _ _ h.out, h.nodup⟩
theorem Mem.mapH {E : Ent} {I : Imm} {H : List HItem} {w : World} {i b : Nat} {es : Ents} (hm : Mem E I H w) (h : H[i]? = some (.mp b es)) (hn : (es.map (·.1)).Nodup) : MapAt w b es := ⟨hm.get h, hn⟩
abbrev HItem.it (r b n : Nat) (S : List Nat) : HItem := .obj r (.mapIter (some b) n S.toArray n)
theorem ents_mem {es : Ents} {e : MapEntry} : e ∈ entsOf es 0 ↔ ∃ (j : Nat) (u : List UInt8) (v : Value), es[j]? = some (u, v) ∧ e = { key := str u, val := v, born := j } := by
  simp only [entsOf, List.mem_map]
  constructor
  · rintro ⟨⟨⟨u, v⟩, j⟩, h, rfl⟩
    rw [List.mem_zipIdx_iff_getElem?] at h
    exact ⟨j, u, v, h, rfl⟩
  · rintro ⟨j, u, v, h, rfl⟩
    exact ⟨((u, v), j), by rw [List.mem_zipIdx_iff_getElem?]; exact h, rfl⟩
theorem left_mem {es : Ents} {S : List Nat} {e : MapEntry} (h : e ∈ (leftOf (entsOf es 0).toArray S.toArray).toList) : ∃ (j : Nat) (u : List UInt8) (v : Value), es[j]? = some (u, v) ∧ j ∉ S ∧ e = { key := str u, val := v, born := j } := by
  simp only [leftOf, List.filter_toArray, List.mem_filter] at h
  obtain ⟨j, u, v, h1, rfl⟩ := ents_mem.1 h.1
  exact ⟨j, u, v, h1, by simpa using h.2, rfl⟩
theorem left_none {es : Ents} {S : List Nat} (h : (leftOf (entsOf es 0).toArray S.toArray).size = 0) : ∀ j, j < es.length → j ∈ S := by
  intro j hj
  have h2 : (entsOf es 0).filter (fun e => !S.toArray.contains e.born) = [] := by
    simpa [leftOf] using h
  rw [List.filter_eq_nil_iff] at h2
  have := h2 { key := str es[j].1, val := es[j].2, born := j } (ents_mem.2 ⟨j, es[j].1, es[j].2, List.getElem?_eq_getElem hj, rfl⟩)
  simpa using this
theorem ents_born (es : Ents) : ((entsOf es 0).map (·.born)).Nodup := by
  have : (entsOf es 0).map (·.born) = List.range' 0 es.length := by
    simp only [entsOf, List.map_map]
    rw [← List.zipIdx_map_snd 0 es]
    rfl
  rw [this]
  exact List.nodup_range' (step := 1) (by omega)
section
variable {P : Program} {N : Nat} {ds : List Deferred} {Q : Exit → Act → World → Prop} {K : Act → World → Prop} {l : Log} {w : World} {ops : Array Oper} {os : List Oper}
variable {d : Nat} {ty : TypeId} {pos : String} {af : Array Edge} {g : Option (Nat × Bool)} {t : TypeId} {x y : Operand} {E : Ent} {I : Imm} {H : List HItem}
theorem m_range {kt et : TypeId} [TyMap P t kt et] {b : Nat} {es : Ents} (hm : Mem E I H w) (hw : want ops l ⟨some d, .range t x, ty, pos, af, g⟩ = some true) (hN : Nat.blt d N = true)
    (hx : ev l x = some (.map (some b))) (hb : MapAt w b es) (k : ∀ r w', Mem E I (.it r b es.length [] :: H) w' → WL P N ds ops Q os ((d, .pointer (some ⟨r, 0, none⟩)) :: l) w') :
    WL P N ds ops Q (⟨some d, .range t x, ty, pos, af, g⟩ :: os) l w :=
  wl_value (w' := w.alloc (.mapIter (some b) es.length #[] es.length)) rfl hw hN (fun a ha => by
    have h1 := run_range_map (P := P) w t kt et b _ _ (TyMap.out (P := P) (t := t)) hb.out
    simp [execOp, ha.ev hx, h1])
    (k w.heap.size _ (hm.add (Kept.alloc w _) (heap_alloc_new w _) (fun b' hb' => by simp only [HItem.blk, Option.some.injEq] at hb'; omega)))
theorem m_next {i r b : Nat} {es : Ents} {S : List Nat} (hm : Mem E I H w) (hw : want ops l ⟨some d, .next x false, ty, pos, af, g⟩ = some true) (hN : Nat.blt d N = true)
    (hx : ev l x = some (.pointer (some ⟨r, 0, none⟩))) (hi : H[i]? = some (.it r b es.length S)) (hb : MapAt w b es)
    (k1 : (∀ j, j < es.length → j ∈ S) → WL P N ds ops Q os ((d, .tuple #[.bool false]) :: l) w)
    (k2 : ∀ j u v w', es[j]? = some (u, v) → j ∉ S → Mem E I (H.set i (.it r b es.length (S ++ [j]))) w' → WL P N ds ops Q os ((d, .tuple #[.bool true, str u, v]) :: l) w') :
    WL P N ds ops Q (⟨some d, .next x false, ty, pos, af, g⟩ :: os) l w := by
  have hr := hm.get hi
  rcases run_next_at (P := P) w ty r b es.length es.length S.toArray (entsOf es 0).toArray es.length hr hb.out (fun e he => by
    obtain ⟨j, u, v, h1, rfl⟩ := ents_mem.1 he
    exact (List.getElem?_eq_some_iff.1 h1).1) (Nat.le_refl _) with ⟨h0, hrun⟩ | ⟨e, he, w1, hw1, hrun⟩
  · exact wl_value rfl hw hN (fun a ha => by simp [execOp, ha.ev hx, hrun]) (k1 (left_none h0))
  · obtain ⟨j, u, v, hj, hS, rfl⟩ := left_mem he
    have hlt := lt_of_heap hr
    have hh : w1.heap = w.heap ∧ w1.os = w.os ∧ w1.tape = w.tape ∧ w1.output = w.output := by rcases hw1 with rfl | rfl <;> exact ⟨rfl, rfl, rfl, rfl⟩
    have hk : Kept [r] w (ChangeMaps.setBlock w1 r (.mapIter (some b) es.length (S ++ [j]).toArray es.length)) :=
      ⟨hh.2.1, hh.2.2.1, hh.2.2.2, by simp [ChangeMaps.setBlock, hh.1], fun k hk hx => by
          have : r ≠ k := by rintro rfl; simp at hx
          simp [ChangeMaps.setBlock, hh.1, Array.getElem?_setIfInBounds_ne this]⟩
    have hS2 : (S ++ [j]).toArray = S.toArray.push j := by simp
    have hok : HItem.ok (ChangeMaps.setBlock w1 r (.mapIter (some b) es.length (S ++ [j]).toArray es.length)) (.it r b es.length (S ++ [j])) := by
      simp [HItem.ok, ChangeMaps.setBlock, hh.1, hlt]
    rw [← hS2] at hrun
    exact wl_value rfl hw hN (fun a ha => by simp [execOp, ha.ev hx, hrun]) (k2 j u v _ hj hS (hm.turn hi (by simpa [HItem.blk] using hk) hok (.inl rfl)))
theorem m_entry {i r b j : Nat} {es : Ents} {S : List Nat} {u : List UInt8} {v : Value} (hm : Mem E I H w) (hw : want ops l ⟨some d, .entry x, ty, pos, af, g⟩ = some true) (hN : Nat.blt d N = true)
    (hx : ev l x = some (.pointer (some ⟨r, 0, none⟩))) (hi : H[i]? = some (.it r b es.length (S ++ [j]))) (hb : MapAt w b es) (hj : es[j]? = some (u, v))
    (k : WL P N ds ops Q os ((d, .tuple #[str u, v]) :: l) w) : WL P N ds ops Q (⟨some d, .entry x, ty, pos, af, g⟩ :: os) l w := by
  have hr := hm.get hi
  have hrun := run_entry_at (P := P) w r b es.length S.toArray (entsOf es 0).toArray es.length { key := str u, val := v, born := j } (by rw [hr]; simp) hb.out (ents_mem.2 ⟨j, u, v, hj, rfl⟩) (ents_born es)
  exact wl_value rfl hw hN (fun a ha => by simp [execOp, ha.ev hx, hrun]) k
theorem op_lookup2 {kt et : TypeId} [TyMap P t kt et] [TyStr P kt] {b : Nat} {es : Ents} {s : List UInt8} {zv : Value} (hw : want ops l ⟨some d, .lookup t x y true, ty, pos, af, g⟩ = some true) (hN : Nat.blt d N = true)
    (hx : ev l x = some (.map (some b))) (hy : ev l y = some (str s)) (hm : MapAt w b es) (hz : ∀ w, (zeroValue et).run P w = .ok zv w)
    (k : WL P N ds ops Q os ((d, .tuple #[(mget es s).getD zv, .bool (mget es s).isSome]) :: l) w) :
    WL P N ds ops Q (⟨some d, .lookup t x y true, ty, pos, af, g⟩ :: os) l w :=
  wl_value rfl hw hN (fun a ha => by
    have h1 := run_underlying (P := P) (w := w) (TyMap.out (P := P) (t := t))
    have hk := TyStr.out (P := P) (t := kt)
    have h2 := run_findKey (P := P) (w := w) hk s es 0
    have h3 := fun b => run_checkKey (P := P) (w := w) hk s b
    have h4 := MapKept.run_getObj_map (P := P) hm.out
    have h5 := find_idx es s
    rw [mget, ← h5]
    cases hf : es.findIdx? (fun p => decide (p.1 = s)) with
    | none =>
      rw [hf] at h2
      simp [execOp, Instr.lookup, ha.ev hx, ha.ev hy, h1, h4, h3, h2, hz]
    | some i =>
      rw [hf] at h2
      have hi : i < es.length := by
        have := List.findIdx?_eq_some_iff_getElem.1 hf
        exact this.1
      have hg : es[i]? = some es[i] := List.getElem?_eq_getElem hi
      simp only [Option.bind_some, hg, Option.map_some] at h2
      simp [execOp, Instr.lookup, ha.ev hx, ha.ev hy, h1, h4, h3, h2, hg]) k
theorem Mem.freezeM {b : Nat} {es : Ents} (hm : Mem E I (.mp b es :: H) w) (hn : (es.map (·.1)).Nodup) : ∃ I', Le I I' ∧ Mem E I' H w ∧ MapI I' b es := by
  have hf := hm.free _ List.mem_cons_self b rfl
  exact ⟨I.add b (.map (entsOf es 0).toArray es.length), Le.add hf, hm.tl.freezeB (hm.ok _ List.mem_cons_self) hf (hm.born _ List.mem_cons_self b rfl) (fun h hh e => (List.pairwise_cons.1 hm.dist).1 h hh b rfl e), ⟨Imm.add_self _ _ _, hn⟩⟩
/-- a call that reads a map is one that has it, and gives it back. -/
theorem CalM.borrow {f : FuncId} {args : Array Value} {b : Nat} {es : Ents} {Post : Value → List HItem → Prop} (hn : (es.map (·.1)).Nodup)
    (h : ∀ J, Le I J → MapI J b es → CalM P f args J H (fun v _ H' => Post v H')) : CalM P f args I (.mp b es :: H) (fun v _ H' => ∃ H'', H' = .mp b es :: H'' ∧ Post v H'') := by
  refine CalM.of fun w E hm => ?_
  have hf := hm.free _ List.mem_cons_self b rfl
  obtain ⟨J, hl, hmJ, hJ⟩ := hm.freezeM hn
  have hc := (h J hl hJ).run w ⟨Kept.refl _ _, Le.refl _, hmJ.inv, hmJ.ok, hmJ.free, fun x hx c hc => .inl (by simpa [blks, List.mem_filterMap] using ⟨x, hx, hc⟩), hmJ.dist, fun _ _ h => .inl h⟩
  refine hc.mono fun v w' ⟨J', H', hP, h2⟩ => ⟨I, .mp b es :: H', ⟨H', rfl, hP⟩, ?_⟩
  have h3 : Mem E J' H' w' := by simpa using (Mem.back (R := []) (by simpa using hmJ) h2)
  have hl' : Le I J' := hl.trans h2.le
  have hb' := h2.le _ _ hJ.out
  refine ⟨h3.kept, hm.le, fun c o hc => h3.inv c o (hl' c o hc), fun x hx => ?_, fun x hx c hc => ?_, fun x hx c hc => ?_, .cons (fun x hx c hc hc' => ?_) h3.dist, hm.grow⟩
  · rcases List.mem_cons.1 hx with rfl | hx
    · exact h3.inv _ _ hb'
    · exact h3.ok x hx
  · rcases List.mem_cons.1 hx with rfl | hx
    · exact hm.free _ List.mem_cons_self c hc
    · have := h3.free x hx c hc
      cases hI : I c with
      | none => rfl
      | some o => rw [hl' c o hI] at this; cases this
  · rcases List.mem_cons.1 hx with rfl | hx
    · exact hm.born _ List.mem_cons_self c hc
    · exact h3.born x hx c hc
  · simp only [HItem.blk, Option.some.injEq] at hc
    subst hc
    have := h3.free x hx _ hc'
    rw [hb'] at this; cases this
end
/-! copying a map, entry by entry -/
structure Copied (es : Ents) (S : List Nat) (es2 : Ents) : Prop where
  nodup : (es2.map (·.1)).Nodup
  get : ∀ n v, mget es2 n = some v ↔ ∃ j ∈ S, es[j]? = some (n, v)
theorem Copied.start (es : Ents) : Copied es [] [] := ⟨by simp, fun n v => by simp [mget]⟩
theorem Copied.put {es es2 : Ents} {S : List Nat} {j : Nat} {u : List UInt8} {v : Value} (h : Copied es S es2) (hn : (es.map (·.1)).Nodup) (hj : es[j]? = some (u, v)) : Copied es (S ++ [j]) (mput es2 u v) := by
  refine ⟨mput_nodup h.nodup, fun n v' => ?_⟩
  rw [mget_mput n h.nodup]
  by_cases e : n = u
  · subst e
    rw [if_pos rfl]
    constructor
    · rintro h'; cases h'; exact ⟨j, by simp, hj⟩
    · rintro ⟨i, _, hi⟩
      rw [← mget_at hn hj, mget_at hn hi]
  · rw [if_neg e, h.get]
    constructor
    · rintro ⟨i, hi, h2⟩; exact ⟨i, by simp [hi], h2⟩
    · rintro ⟨i, hi, h2⟩
      rcases List.mem_append.1 hi with hi | hi
      · exact ⟨i, hi, h2⟩
      · rw [List.mem_singleton] at hi
        subst hi
        rw [hj] at h2
        cases h2
        exact absurd rfl e
theorem Copied.done {es es2 : Ents} {S : List Nat} (h : Copied es S es2) (_hn : (es.map (·.1)).Nodup) (hS : ∀ j, j < es.length → j ∈ S) (n : List UInt8) : mget es2 n = mget es n := by
  cases hg : mget es n with
  | some v =>
    obtain ⟨j, hj⟩ := mget_some hg
    exact (h.get n v).2 ⟨j, hS j (List.getElem?_eq_some_iff.1 hj).1, hj⟩
  | none =>
    cases hg2 : mget es2 n with
    | none => rfl
    | some v =>
      obtain ⟨j, _, hj⟩ := (h.get n v).1 hg2
      exact absurd rfl (mget_none hg hj)
/-- how many are left. -/
def leftN (n : Nat) (S : List Nat) : Nat := ((List.range n).filter (fun j => !S.contains j)).length
theorem filter_less {α : Type} (p q : α → Bool) : ∀ (l : List α), (∀ x ∈ l, p x = true → q x = true) → (∃ x ∈ l, q x = true ∧ p x = false) → (l.filter p).length < (l.filter q).length
  | [], _, h => by obtain ⟨_, h, _⟩ := h; cases h
  | a :: l, h1, h2 => by
    have hle : ∀ (l : List α), (∀ x ∈ l, p x = true → q x = true) → (l.filter p).length ≤ (l.filter q).length := fun l h => by
      induction l with
      | nil => simp
      | cons a l ih =>
        have ih' := ih (fun x hx => h x (List.mem_cons_of_mem _ hx))
        have ha := h a List.mem_cons_self
        simp only [List.filter_cons]
        cases hp : p a <;> cases hq : q a <;> simp_all <;> omega
    have h1' : ∀ x ∈ l, p x = true → q x = true := fun x hx => h1 x (List.mem_cons_of_mem _ hx)
    obtain ⟨x, hx, hq, hp⟩ := h2
    rcases List.mem_cons.1 hx with rfl | hx
    · simp only [List.filter_cons, hq, hp, if_true, Bool.false_eq_true, if_false, List.length_cons]
      exact Nat.lt_succ_of_le (hle l h1')
    · have ih := filter_less p q l h1' ⟨x, hx, hq, hp⟩
      have ha := h1 a List.mem_cons_self
      simp only [List.filter_cons]
      cases hp : p a <;> cases hq : q a <;> simp_all <;> omega
theorem leftN_step {n j : Nat} {S : List Nat} (hj : j < n) (hS : j ∉ S) : leftN n (S ++ [j]) < leftN n S :=
  filter_less _ _ _ (fun x _ h => by simp at h ⊢; exact h.1) ⟨j, List.mem_range.2 hj, by simpa using hS, by simp⟩
end Go.Fw
end
section
namespace Go.Fw
open Go
abbrev numZ (k : Int) : Value := .int .i64 k
abbrev EntsZ := List (Int × Value)
def entsZ (es : EntsZ) (n : Nat) : List MapEntry := (es.zipIdx n).map (fun p => { key := numZ p.1.1, val := p.1.2, born := p.2 })
structure MapAtZ (w : World) (b : Nat) (es : EntsZ) : Prop where
  out : w.heap[b]? = some (.map (entsZ es 0).toArray es.length)
  nodup : (es.map (·.1)).Nodup
theorem findNow_z (s : Int) : ∀ (es : EntsZ) (n m : Nat), Instr.findNow (.int .i64) (numZ s) (entsZ es n) m = some ((es.findIdx? (fun p => decide (p.1 = s))).bind (fun i => (es[i]?).map (fun p => (m + i, p.2))))
  | [], n, m => rfl
  | (u, v) :: es, n, m => by
    have ih := findNow_z s es (n + 1) (m + 1)
    simp only [entsZ, List.zipIdx_cons, List.map_cons, Instr.findNow, Instr.sameNow, if_true] at ih ⊢
    have e1 : (s == u) = decide (u = s) := by
      rw [Bool.eq_iff_iff]
      constructor
      · intro h
        exact decide_eq_true (by simpa using h : s = u).symm
      · intro h
        rw [of_decide_eq_true h]; simp
    rw [e1, List.findIdx?_cons]
    cases hd : decide (u = s) with
    | true => simp
    | false =>
      simp only
      rw [ih]
      congr 1
      cases hf : es.findIdx? (fun p => decide (p.1 = s)) with
      | none => simp
      | some i => simp [Nat.add_comm, Nat.add_left_comm]
section
variable {P : Program} {N : Nat} {ds : List Deferred} {Q : Exit → Act → World → Prop} {l l' : Log} {w w' : World} {ops : Array Oper} {os : List Oper} {o : Oper}
variable {d : Nat} {ty : TypeId} {pos : String} {af : Array Edge} {g : Option (Nat × Bool)} {t t' : TypeId} {x y z : Operand} {E : Ent} {I : Imm} {H : List HItem}
def mlookZ (es : EntsZ) (s : Int) (z : Value) : Value := ((es.find? (fun p => decide (p.1 = s))).map (·.2)).getD z
theorem find_idxZ (es : EntsZ) (s : Int) : (es.findIdx? (fun p => decide (p.1 = s))).bind (fun i => (es[i]?).map (·.2)) = (es.find? (fun p => decide (p.1 = s))).map (·.2) := by
  induction es with
  | nil => rfl
  | cons p es ih =>
    rw [List.findIdx?_cons, List.find?_cons]
    cases hd : decide (p.1 = s) with
    | true => simp
    | false =>
      simp only [Bool.false_eq_true, if_false]
      rw [← ih]
      cases es.findIdx? (fun p => decide (p.1 = s)) <;> simp
theorem run_findKeyZ {kt : TypeId} (hk : P.underlying kt = some (.int .i64)) (s : Int) (es : EntsZ) (n : Nat) :
    (Instr.findKey kt (numZ s) (entsZ es n)).run P w = .ok ((es.findIdx? (fun p => decide (p.1 = s))).bind (fun i => (es[i]?).map (fun p => (0 + i, p.2)))) w := by
  have h1 := run_underlying (P := P) (w := w) hk
  simp only [Instr.findKey, Sem.run_bind, h1, Result.andThen_ok, findNow_z]
  simp
theorem run_checkKeyZ {kt : TypeId} (hk : P.underlying kt = some (.int .i64)) (s : Int) (b : Bool) : (Instr.checkKey b 10000 kt (numZ s)).run P w = .ok () w := by
  have h1 := run_underlying (P := P) (w := w) hk
  show (Instr.checkKey b (9999 + 1) kt (numZ s)).run P w = .ok () w
  rw [Instr.checkKey]
  simp [h1]
theorem op_insertZ {kt et : TypeId} [TyMap P t kt et] [TyInt P kt .i64] {b : Nat} {es : EntsZ} {s : Int} {v : Value} {dst : Option Nat} (hd : dst = none) (hw : want ops l ⟨dst, .insert t x y z, ty, pos, af, g⟩ = some true)
    (hx : ev l x = some (.map (some b))) (hy : ev l y = some (numZ s)) (hz : ev l z = some v) (hm : MapAtZ w b es) (hs : (es.map (·.1)).contains s = false)
    (k : ∀ w', MapAtZ w' b (es ++ [(s, v)]) → Kept [b] w w' → WL P N ds ops Q os l w') :
    WL P N ds ops Q (⟨dst, .insert t x y z, ty, pos, af, g⟩ :: os) l w :=
  wl_op hw fun a ha => by
    have h1 := run_underlying (P := P) (w := w) (TyMap.out (P := P) (t := t))
    have hk := TyInt.out (P := P) (t := kt)
    have h2 := run_findKeyZ (P := P) (w := w) hk s es 0
    have h3 := run_checkKeyZ (P := P) (w := w) hk s false
    have h4 := MapKept.run_getObj_map (P := P) hm.out
    have hnone : es.findIdx? (fun p => decide (p.1 = s)) = none := by
      rw [List.findIdx?_eq_none_iff]
      intro p hp
      have : s ∉ es.map (·.1) := by
        intro hc
        rw [List.contains_iff_mem.2 hc] at hs
        cases hs
      simp only [decide_eq_false_iff_not]
      rintro rfl
      exact this (List.mem_map_of_mem hp)
    subst hd
    rw [hnone] at h2
    have h5 := fun o' => MapKept.run_setObj_map (P := P) o' hm.out
    have e1 : (entsZ (es ++ [(s, v)]) 0).toArray = (entsZ es 0).toArray.push { key := numZ s, val := v, born := es.length } := by
      simp [entsZ, List.zipIdx_append]
    have hlt := lt_of_heap hm.out
    simp only [Oper.wp, execOp, Instr.mapUpdate, ha.ev hx, ha.ev hy, ha.ev hz, Sem.run_bind, h1, Result.andThen_ok, h4, h3, h2, Option.bind_none, h5, Oper.upon_skip, Act.put, Sem.run_pure]
    refine (k { w with heap := w.heap.setIfInBounds b (.map ((entsZ es 0).toArray.push { key := numZ s, val := v, born := es.length }) (es.length + 1)) } ⟨?_, ?_⟩ ⟨rfl, rfl, rfl, by simp, fun i hi hx => ?_⟩).run _ ha
    · rw [e1, List.length_append]
      simp [hlt]
    · rw [List.map_append, List.nodup_append]
      refine ⟨hm.nodup, by simp, fun a h1 b h2 => ?_⟩
      simp only [List.map_cons, List.map_nil, List.mem_singleton] at h2
      subst h2
      rintro rfl
      rw [List.contains_iff_mem.2 h1] at hs
      cases hs
    · have : b ≠ i := by rintro rfl; simp at hx
      simp [Array.getElem?_setIfInBounds_ne this]
theorem run_lookupZ {kt et : TypeId} [TyMap P t kt et] [TyInt P kt .i64] {b : Nat} {es : EntsZ} {s : Int} {zv : Value} {a : Act} (ha : Fits N ds l a)
    (hx : ev l x = some (.map (some b))) (hy : ev l y = some (numZ s)) (hm : w.heap[b]? = some (.map (entsZ es 0).toArray es.length)) (hz : ∀ w, (zeroValue et).run P w = .ok zv w) :
    (execOp a.eval ⟨some d, .lookup t x y false, ty, pos, af, g⟩).run P w = .ok (.value (mlookZ es s zv)) w := by
  have h1 := run_underlying (P := P) (w := w) (TyMap.out (P := P) (t := t))
  have hk := TyInt.out (P := P) (t := kt)
  have h2 := run_findKeyZ (P := P) (w := w) hk s es 0
  have h3 := fun b => run_checkKeyZ (P := P) (w := w) hk s b
  have h4 := MapKept.run_getObj_map (P := P) hm
  have h5 := find_idxZ es s
  rw [mlookZ, ← h5]
  cases hf : es.findIdx? (fun p => decide (p.1 = s)) with
  | none =>
    rw [hf] at h2
    simp [execOp, Instr.lookup, ha.ev hx, ha.ev hy, h1, h4, h3, h2, hz]
  | some i =>
    rw [hf] at h2
    have hi : i < es.length := by
      have := List.findIdx?_eq_some_iff_getElem.1 hf
      exact this.1
    have hg : es[i]? = some es[i] := List.getElem?_eq_getElem hi
    simp only [Option.bind_some, hg, Option.map_some] at h2
    simp [execOp, Instr.lookup, ha.ev hx, ha.ev hy, h1, h4, h3, h2, hg]
theorem op_lookupZ {kt et : TypeId} [TyMap P t kt et] [TyInt P kt .i64] {b : Nat} {es : EntsZ} {s : Int} {zv : Value} (hw : want ops l ⟨some d, .lookup t x y false, ty, pos, af, g⟩ = some true) (hN : Nat.blt d N = true)
    (hx : ev l x = some (.map (some b))) (hy : ev l y = some (numZ s)) (hm : MapAtZ w b es) (hz : ∀ w, (zeroValue et).run P w = .ok zv w)
    (k : WL P N ds ops Q os ((d, mlookZ es s zv) :: l) w) :
    WL P N ds ops Q (⟨some d, .lookup t x y false, ty, pos, af, g⟩ :: os) l w :=
  wl_value rfl hw hN (fun a ha => run_lookupZ ha hx hy hm.out hz) k

abbrev HItem.mz (b : Nat) (es : EntsZ) : HItem := .obj b (.map (entsZ es 0).toArray es.length)
theorem m_insertNewZ {kt et : TypeId} [TyMap P t kt et] [TyInt P kt .i64] {i b : Nat} {es : EntsZ} {s : Int} {v : Value} {dst : Option Nat} (hm : Mem E I H w) (hd : dst = none) (hw : want ops l ⟨dst, .insert t x y z, ty, pos, af, g⟩ = some true)
    (hx : ev l x = some (.map (some b))) (hy : ev l y = some (numZ s)) (hz : ev l z = some v) (hi : H[i]? = some (.mz b es)) (hn : (es.map (·.1)).Nodup) (hs : (es.map (·.1)).contains s = false)
    (k : ∀ w', Mem E I (H.set i (.mz b (es ++ [(s, v)]))) w' → WL P N ds ops Q os l w') :
    WL P N ds ops Q (⟨dst, .insert t x y z, ty, pos, af, g⟩ :: os) l w :=
  op_insertZ hd hw hx hy hz ⟨hm.get hi, hn⟩ hs (fun w' h1 hk => k w' (hm.turn hi (by simpa [HItem.blk] using hk) h1.out (.inl rfl)))
theorem m_lookupZ {kt et : TypeId} [TyMap P t kt et] [TyInt P kt .i64] {i b : Nat} {es : EntsZ} {s : Int} {zv : Value} (hm : Mem E I H w) (hw : want ops l ⟨some d, .lookup t x y false, ty, pos, af, g⟩ = some true) (hN : Nat.blt d N = true)
    (hx : ev l x = some (.map (some b))) (hy : ev l y = some (numZ s)) (hi : H[i]? = some (.mz b es)) (hn : (es.map (·.1)).Nodup) (hz : ∀ w, (zeroValue et).run P w = .ok zv w)
    (k : WL P N ds ops Q os ((d, mlookZ es s zv) :: l) w) :
    WL P N ds ops Q (⟨some d, .lookup t x y false, ty, pos, af, g⟩ :: os) l w :=
  op_lookupZ hw hN hx hy ⟨hm.get hi, hn⟩ hz k
def mputZ (es : EntsZ) (s : Int) (v : Value) : EntsZ := match es.findIdx? (fun p => decide (p.1 = s)) with
  | some i => es.set i (s, v)
  | none => es ++ [(s, v)]
theorem ents_modifyZ (es : EntsZ) (i : Nat) (s : Int) (v : Value) : (entsZ es 0).toArray.modify i (fun e => { e with key := numZ s, val := v }) = (entsZ (es.set i (s, v)) 0).toArray := by
  apply Array.ext_getElem?
  intro j
  rw [Array.getElem?_modify]
  simp only [entsZ, List.getElem?_toArray, List.getElem?_map, List.getElem?_zipIdx, List.getElem?_set]
  by_cases h : i = j
  · subst h
    rw [if_pos rfl, if_pos rfl]
    by_cases h2 : i < es.length
    · rw [if_pos h2, List.getElem?_eq_getElem h2]; rfl
    · rw [if_neg h2, List.getElem?_eq_none (by omega)]; rfl
  · rw [if_neg h, if_neg h]
theorem mput_nodupZ {es : EntsZ} {s : Int} {v : Value} (h : (es.map (·.1)).Nodup) : ((mputZ es s v).map (·.1)).Nodup := by
  rw [mputZ]
  cases hf : es.findIdx? (fun p => decide (p.1 = s)) with
  | some i =>
    obtain ⟨hi, hs, _⟩ := List.findIdx?_eq_some_iff_getElem.1 hf
    have hs' : es[i].1 = s := by simpa using hs
    have : (es.set i (s, v)).map (·.1) = es.map (·.1) := by
      apply List.ext_getElem?
      intro j
      simp only [List.getElem?_map, List.getElem?_set]
      split
      · rename_i h
        subst h
        rw [List.getElem?_eq_getElem hi]
        simp [hs']
      · rfl
    dsimp only
    rw [this]
    exact h
  | none =>
    dsimp only
    rw [List.map_append, List.nodup_append]
    refine ⟨h, by simp, fun a h1 b h2 => ?_⟩
    simp only [List.map_cons, List.map_nil, List.mem_singleton] at h2
    subst h2
    rintro rfl
    obtain ⟨p, hp, hps⟩ := List.mem_map.1 h1
    have := List.findIdx?_eq_none_iff.1 hf p hp
    simp [hps] at this
theorem m_putZ {kt et : TypeId} [TyMap P t kt et] [TyInt P kt .i64] {i b : Nat} {es : EntsZ} {s : Int} {v : Value} {dst : Option Nat} (hm : Mem E I H w) (hd : dst = none) (hw : want ops l ⟨dst, .insert t x y z, ty, pos, af, g⟩ = some true)
    (hx : ev l x = some (.map (some b))) (hy : ev l y = some (numZ s)) (hz : ev l z = some v) (hi : H[i]? = some (.mz b es)) (hn : (es.map (·.1)).Nodup)
    (k : ∀ w', Mem E I (H.set i (.mz b (mputZ es s v))) w' → WL P N ds ops Q os l w') :
    WL P N ds ops Q (⟨dst, .insert t x y z, ty, pos, af, g⟩ :: os) l w := by
  cases hf : es.findIdx? (fun p => decide (p.1 = s)) with
  | none =>
    have hs : (es.map (·.1)).contains s = false := by
      rw [← Bool.not_eq_true, List.contains_iff_mem]
      intro h1
      obtain ⟨p, hp, hps⟩ := List.mem_map.1 h1
      have := List.findIdx?_eq_none_iff.1 hf p hp
      simp [hps] at this
    have e : mputZ es s v = es ++ [(s, v)] := by rw [mputZ, hf]
    rw [e] at k
    exact m_insertNewZ hm hd hw hx hy hz hi hn hs k
  | some j =>
    obtain ⟨hj, hsj, _⟩ := List.findIdx?_eq_some_iff_getElem.1 hf
    have hsj' : es[j].1 = s := by simpa using hsj
    have e : mputZ es s v = es.set j (s, v) := by rw [mputZ, hf]
    rw [e] at k
    have hget := hm.get hi
    subst hd
    refine wl_op hw fun a ha => ?_
    have h1 := run_underlying (P := P) (w := w) (TyMap.out (P := P) (t := t))
    have hk := TyInt.out (P := P) (t := kt)
    have h2 := run_findKeyZ (P := P) (w := w) hk s es 0
    have h3 := run_checkKeyZ (P := P) (w := w) hk s false
    have h4 := MapKept.run_getObj_map (P := P) hget
    rw [hf] at h2
    have hg : es[j]? = some es[j] := List.getElem?_eq_getElem hj
    simp only [Option.bind_some, hg, Option.map_some, Nat.zero_add] at h2
    have h5 := fun o' => MapKept.run_setObj_map (P := P) o' hget
    have hkey : (entsZ es 0).toArray[j]? = some { key := numZ s, val := es[j].2, born := j } := by
      simp [entsZ, List.getElem?_zipIdx, hg, hsj']
    have h6 : (Instr.keyThatStays (numZ s) (numZ s)).run P w = .ok (numZ s) w := by
      have : Instr.sameBits 10000 (numZ s) (numZ s) = true := by simp [Instr.sameBits]
      simp [Instr.keyThatStays, this]
    have hb := lt_of_heap hget
    have hkept : Kept [b] w { w with heap := w.heap.setIfInBounds b (.map ((entsZ es 0).toArray.modify j (fun e => { e with key := numZ s, val := v })) es.length) } :=
      ⟨rfl, rfl, rfl, by simp, fun i hi hx => by
        have : b ≠ i := by rintro rfl; simp at hx
        simp [Array.getElem?_setIfInBounds_ne this]⟩
    have hm' := hm.turn (h' := .mz b (es.set j (s, v))) hi (by simpa [HItem.blk] using hkept) (by
      show HItem.ok _ _
      have e2 := ents_modifyZ es j s v
      simp only [HItem.ok, ← e2, List.length_set]
      simp [hb]) (.inl rfl)
    have h7 := (k _ hm').run _ ha
    simp only [Oper.wp, execOp, Instr.mapUpdate, ha.ev hx, ha.ev hy, ha.ev hz, Sem.run_bind, h1, Result.andThen_ok, h4, h3, h2, hkey, Option.map_some, Option.getD_some, h6, h5, Oper.upon_skip, Act.put, Sem.run_pure]
    simpa only [List.modify_toArray] using h7
def mgetZ (es : EntsZ) (s : Int) : Option Value := (es.find? (fun p => decide (p.1 = s))).map (·.2)
theorem mget_appendZ {es : EntsZ} {s : Int} {v : Value} (n : Int) (h : mgetZ es s = none) : mgetZ (es ++ [(s, v)]) n = if n = s then some v else mgetZ es n := by
  simp only [mgetZ] at h ⊢
  rw [List.find?_append]
  by_cases e : n = s
  · subst e
    rw [if_pos rfl, Option.map_eq_none_iff.1 h]
    simp
  · rw [if_neg e]
    cases hf : es.find? (fun p => decide (p.1 = n)) with
    | some p => rfl
    | none => simp [Ne.symm e]
theorem mget_setZ : ∀ {es : EntsZ} {i : Nat} {s : Int} {v : Value} (n : Int), (es.map (·.1)).Nodup → (∃ c, es[i]? = some (s, c)) → mgetZ (es.set i (s, v)) n = if n = s then some v else mgetZ es n
  | [], i, s, v, n, _, h => by obtain ⟨_, h⟩ := h; simp at h
  | (a, c) :: es, 0, s, v, n, _, h => by
    obtain ⟨_, h⟩ := h
    simp only [List.getElem?_cons_zero, Option.some.injEq, Prod.mk.injEq] at h
    obtain ⟨rfl, _⟩ := h
    simp only [mgetZ, List.set_cons_zero, List.find?_cons]
    by_cases e : n = a
    · subst e; simp
    · rw [if_neg e, decide_eq_false (Ne.symm e)]
  | (a, c) :: es, i + 1, s, v, n, hn, h => by
    obtain ⟨c', h⟩ := h
    rw [List.getElem?_cons_succ] at h
    rw [List.map_cons, List.nodup_cons] at hn
    have ih := mget_setZ (v := v) n hn.2 ⟨c', h⟩
    have has : a ≠ s := by
      rintro rfl
      exact hn.1 (List.mem_map_of_mem (f := (·.1)) (List.mem_of_getElem? h))
    simp only [mgetZ, List.set_cons_succ, List.find?_cons] at ih ⊢
    by_cases e : a = n
    · subst e
      rw [decide_eq_true rfl, if_neg has]
    · rw [decide_eq_false e]
      exact ih
theorem mget_mputZ {es : EntsZ} {s : Int} {v : Value} (n : Int) (hn : (es.map (·.1)).Nodup) : mgetZ (mputZ es s v) n = if n = s then some v else mgetZ es n := by
  rw [mputZ]
  cases hf : es.findIdx? (fun p => decide (p.1 = s)) with
  | some i =>
    obtain ⟨hi, hs, _⟩ := List.findIdx?_eq_some_iff_getElem.1 hf
    have hs' : es[i].1 = s := by simpa using hs
    exact mget_setZ n hn ⟨es[i].2, by rw [List.getElem?_eq_getElem hi, ← hs']⟩
  | none =>
    refine mget_appendZ n ?_
    rw [List.findIdx?_eq_none_iff] at hf
    simp only [mgetZ, Option.map_eq_none_iff, List.find?_eq_none]
    intro p hp
    simpa using hf p hp
end
end Go.Fw
end
section
namespace Go.Fw
open Go
section
variable {P : Program} {N : Nat} {ds : List Deferred} {Q : Exit → Act → World → Prop} {K : Act → World → Prop} {KV : Act → Prop} {l : Log} {w w0 : World} {ops : Array Oper} {os os' tail : List Oper} {X : List Nat}
variable {d : Nat} {ty : TypeId} {pos : String} {af : Array Edge} {g : Option (Nat × Bool)} {t : TypeId} {x y z : Operand} {E : Ent} {I I0 : Imm} {H G R : List HItem} {n f : Nat} {listed : Array Bool}
theorem mq_lookupZ {kt et : TypeId} [TyMap P t kt et] [TyInt P kt .i64] {i b : Nat} {es : EntsZ} {s : Int} {zv : Value} (hm : Mem E I H w) (hw : want ops l ⟨some d, .lookup t x y false, ty, pos, af, g⟩ = some true) (hN : Nat.blt d N = true)
    (hx : ev l x = some (.map (some b))) (hy : ev l y = some (numZ s)) (hi : H[i]? = some (.mz b es)) (hz : ∀ w, (zeroValue et).run P w = .ok zv w)
    (k : WQ P N ds ops w K os ((d, mlookZ es s zv) :: l)) : WQ P N ds ops w K (⟨some d, .lookup t x y false, ty, pos, af, g⟩ :: os) l := by
  have hg := hm.get hi
  exact wq_value rfl hw hN (fun w' hkq a ha => run_lookupZ ha hx hy (by rw [hkq.blk b (lt_of_heap hg) (by simp)]; exact hg) hz) k
theorem mw_lookupZ {kt et : TypeId} [TyMap P t kt et] [TyInt P kt .i64] {i b : Nat} {es : EntsZ} {s : Int} {zv : Value} (hR : Mem E I (G ++ R) w) (hw : want ops l ⟨some d, .lookup t x y false, ty, pos, af, g⟩ = some true) (hN : Nat.blt d N = true)
    (hx : ev l x = some (.map (some b))) (hy : ev l y = some (numZ s)) (hi : R[i]? = some (.mz b es)) (hz : ∀ w, (zeroValue et).run P w = .ok zv w)
    (k : WV P N ds ops (blks G) w KV os ((d, mlookZ es s zv) :: l)) : WV P N ds ops (blks G) w KV (⟨some d, .lookup t x y false, ty, pos, af, g⟩ :: os) l := by
  have hg := hR.right.get hi
  have hnG := hR.notG hi rfl
  exact wv_value rfl hw hN (fun w' hkq a ha => run_lookupZ ha hx hy (by rw [hkq.blk b (lt_of_heap hg) hnG]; exact hg) hz) k
/-- an entry, made if there is none. -/
theorem run_mapEntry {kt et : TypeId} [TyMap P t kt et] [TyInt P kt .i64] {b : Nat} {es : EntsZ} {s : Int} {zv : Value} (hb : w.heap[b]? = some (.map (entsZ es 0).toArray es.length)) (hn : (es.map (·.1)).Nodup) (hz : ∀ w, (zeroValue et).run P w = .ok zv w) :
    ∃ (es1 : EntsZ) (j : Nat) (u : Value) (w' : World), (Instr.mapEntry t (.map (some b)) (numZ s)).run P w = .ok (.tuple #[u, .int .i64 (j : Int)]) w' ∧ w'.heap[b]? = some (.map (entsZ es1 0).toArray es1.length) ∧ Kept [b] w w' ∧ es1[j]? = some (s, u) ∧ ∀ v, es1.set j (s, v) = mputZ es s v := by
  have h1 := run_underlying (P := P) (w := w) (TyMap.out (P := P) (t := t))
  have hk := TyInt.out (P := P) (t := kt)
  have h2 := run_findKeyZ (P := P) (w := w) hk s es 0
  have h3 := run_checkKeyZ (P := P) (w := w) hk s false
  have h4 := MapKept.run_getObj_map (P := P) hb
  have h5 := fun o' => MapKept.run_setObj_map (P := P) o' hb
  have hlt := lt_of_heap hb
  cases hf : es.findIdx? (fun p => decide (p.1 = s)) with
  | none =>
    rw [hf] at h2
    have e1 : (entsZ (es ++ [(s, zv)]) 0).toArray = (entsZ es 0).toArray.push { key := numZ s, val := zv, born := es.length } := by
      simp [entsZ, List.zipIdx_append]
    refine ⟨es ++ [(s, zv)], es.length, zv, { w with heap := w.heap.setIfInBounds b (.map ((entsZ es 0).toArray.push { key := numZ s, val := zv, born := es.length }) (es.length + 1)) }, ?_, ?_, ⟨rfl, rfl, rfl, by simp, fun i hi hx => ?_⟩, by simp, fun v => ?_⟩
    · simp only [Instr.mapEntry, Sem.run_bind, h1, Result.andThen_ok, h4, h3, h2, Option.bind_none, hz, h5, Sem.run_pure]
      rfl
    · rw [e1, List.length_append]
      simp [hlt]
    · have : b ≠ i := by rintro rfl; simp at hx
      simp [Array.getElem?_setIfInBounds_ne this]
    · rw [mputZ, hf]
      simp
  | some j =>
    obtain ⟨hj, hsj, _⟩ := List.findIdx?_eq_some_iff_getElem.1 hf
    have hsj' : es[j].1 = s := by simpa using hsj
    rw [hf] at h2
    have hg : es[j]? = some es[j] := List.getElem?_eq_getElem hj
    simp only [Option.bind_some, hg, Option.map_some, Nat.zero_add] at h2
    have hkey : (entsZ es 0).toArray[j]? = some { key := numZ s, val := es[j].2, born := j } := by
      simp [entsZ, List.getElem?_zipIdx, hg, hsj']
    have h6 : (Instr.keyThatStays (numZ s) (numZ s)).run P w = .ok (numZ s) w := by
      have : Instr.sameBits 10000 (numZ s) (numZ s) = true := by simp [Instr.sameBits]
      simp [Instr.keyThatStays, this]
    have e2 := ents_modifyZ es j s es[j].2
    have e3 : es.set j (s, es[j].2) = es := by
      apply List.ext_getElem?
      intro i
      rw [List.getElem?_set]
      by_cases e : j = i
      · subst e
        rw [if_pos rfl, if_pos hj, hg, ← hsj']
      · rw [if_neg e]
    have e4 : ((entsZ es 0).toArray.modify j fun e => { e with key := numZ s }) = (entsZ es 0).toArray := by
      rw [← Array.toList_inj]
      apply List.ext_getElem?
      intro i
      rw [Array.getElem?_toList, Array.getElem?_toList, Array.getElem?_modify]
      by_cases e : j = i
      · subst e
        rw [if_pos rfl, hkey]; rfl
      · rw [if_neg e]
    refine ⟨es, j, es[j].2, { w with heap := w.heap.setIfInBounds b (.map (entsZ es 0).toArray es.length) }, ?_, by simp [hlt], ⟨rfl, rfl, rfl, by simp, fun i hi hx => ?_⟩, by rw [hg, ← hsj'], fun v => by rw [mputZ, hf]⟩
    · simp only [Instr.mapEntry, Sem.run_bind, h1, Result.andThen_ok, h4, h3, h2, hkey, Option.map_some, Option.getD_some, h6, h5, Sem.run_pure]
      rw [e4]
      rfl
    · have : b ≠ i := by rintro rfl; simp at hx
      simp [Array.getElem?_setIfInBounds_ne this]
theorem mu_mapEntryZ {kt et : TypeId} [TyMap P t kt et] [TyInt P kt .i64] {i b : Nat} {es : EntsZ} {s : Int} {zv : Value} (hm : Mem ⟨w0, X, I0⟩ I H w) (hw : want ops l ⟨some d, .mapEntry t x y, ty, pos, af, g⟩ = some true) (hN : Nat.blt d N = true)
    (hx : ev l x = some (.map (some b))) (hy : ev l y = some (numZ s)) (hi : H[i]? = some (.mz b es)) (hn : (es.map (·.1)).Nodup) (hz : ∀ w, (zeroValue et).run P w = .ok zv w)
    (k : ∀ (es1 : EntsZ) (j : Nat) (u : Value) (w' : World), es1[j]? = some (s, u) → (∀ v, es1.set j (s, v) = mputZ es s v) → Mem ⟨w0, X, I0⟩ I (H.set i (.mz b es1)) w' → WA P N ds ops Q X w0 n f listed tail ((d, .tuple #[u, .int .i64 (j : Int)]) :: l) w') :
    WU P N ds ops Q X w0 n f listed tail ⟨some d, .mapEntry t x y, ty, pos, af, g⟩ l w := by
  obtain ⟨es1, j, u, w', hr, hh, hk, hj, hp⟩ := run_mapEntry (P := P) (t := t) (s := s) (hm.get hi) hn hz
  have hm' := hm.turn (h' := .mz b es1) hi (by simpa [HItem.blk] using hk) hh (.inl rfl)
  refine wu_value (w' := w') rfl hw hN (fun a ha => ?_) hm'.kept (k es1 j u w' hj hp hm')
  simp [execOp, ha.ev hx, ha.ev hy, hr]
theorem wu_extract {m : Nat} {vs : Array Value} {v : Value} (hC : Kept X w0 w) (hw : want ops l ⟨some d, .extract x m, ty, pos, af, g⟩ = some true) (hN : Nat.blt d N = true)
    (hx : ev l x = some (.tuple vs)) (hv : vs[m]? = some v) (k : WA P N ds ops Q X w0 n f listed tail ((d, v) :: l) w) : WU P N ds ops Q X w0 n f listed tail ⟨some d, .extract x m, ty, pos, af, g⟩ l w :=
  wu_value (w' := w) rfl hw hN (fun a ha => by simp [execOp, ha.ev hx, Instr.extract, hv]) hC k
theorem born_idx (es : EntsZ) {j : Nat} (hj : j < es.length) : (entsZ es 0).toArray.findIdx? (fun e => (e.born : Int) == (j : Int)) = some j := by
  rw [List.findIdx?_toArray, List.findIdx?_eq_some_iff_getElem]
  have hl : (entsZ es 0).length = es.length := by simp [entsZ]
  refine ⟨by omega, by simp [entsZ], fun i hi => ?_⟩
  simp [entsZ]; omega
theorem mu_entryStoreZ {i b j : Nat} {es es1 : EntsZ} {s : Int} {u v : Value} {dst : Option Nat} (hm : Mem ⟨w0, X, I0⟩ I H w) (hd : dst = none) (hw : want ops l ⟨dst, .entryStore t x y z, ty, pos, af, g⟩ = some true)
    (hx : ev l x = some (.map (some b))) (hy : ev l y = some (.int .i64 (j : Int))) (hz : ev l z = some v) (hi : H[i]? = some (.mz b es1)) (hj : es1[j]? = some (s, u)) (hp : ∀ v, es1.set j (s, v) = mputZ es s v)
    (k : ∀ w', Mem ⟨w0, X, I0⟩ I (H.set i (.mz b (mputZ es s v))) w' → WA P N ds ops Q X w0 n f listed tail l w') :
    WU P N ds ops Q X w0 n f listed tail ⟨dst, .entryStore t x y z, ty, pos, af, g⟩ l w := by
  subst hd
  have hb := hm.get hi
  have hlt := lt_of_heap hb
  have h4 := MapKept.run_getObj_map (P := P) hb
  have h5 := fun o' => MapKept.run_setObj_map (P := P) o' hb
  have hjl := (List.getElem?_eq_some_iff.1 hj).1
  have h6 := born_idx es1 hjl
  have e1 : ((entsZ es1 0).toArray.modify j fun e => { e with val := v }) = (entsZ (mputZ es s v) 0).toArray := by
    rw [← hp v, ← ents_modifyZ es1 j s v, ← Array.toList_inj]
    apply List.ext_getElem?
    intro i
    rw [Array.getElem?_toList, Array.getElem?_toList, Array.getElem?_modify, Array.getElem?_modify]
    by_cases e : j = i
    · subst e
      rw [if_pos rfl, if_pos rfl]
      simp [entsZ, List.getElem?_zipIdx, hj]
    · rw [if_neg e, if_neg e]
  have hl : es1.length = (mputZ es s v).length := by rw [← hp v, List.length_set]
  have hkept : Kept [b] w { w with heap := w.heap.setIfInBounds b (.map (entsZ (mputZ es s v) 0).toArray (mputZ es s v).length) } :=
    ⟨rfl, rfl, rfl, by simp, fun i hi hx => by
      have : b ≠ i := by rintro rfl; simp at hx
      simp [Array.getElem?_setIfInBounds_ne this]⟩
  have hm' := hm.turn (h' := .mz b (mputZ es s v)) hi (by simpa [HItem.blk] using hkept) (by
    show HItem.ok _ _
    simp [HItem.ok, hlt]) (.inl rfl)
  rw [hl] at h4
  refine wu_skip rfl hw (fun a ha => ?_) hm'.kept (k _ hm')
  simp [execOp, Instr.entryStore, ha.ev hx, ha.ev hy, ha.ev hz, h4, asInt, asIntOf, h6, e1, h5]
end
end Go.Fw
end
section
namespace Go.Fw
open Go
section
variable {P : Program} {N : Nat} {ds : List Deferred} {Q : Exit → Act → World → Prop} {l l' : Log} {w w' : World} {ops : Array Oper} {os : List Oper}
variable {d : Nat} {ty : TypeId} {pos : String} {af : Array Edge} {g : Option (Nat × Bool)} {t t' : TypeId} {x y z : Operand}
variable {E : Ent} {I I' : Imm} {H H' R : List HItem}
/-- a row that is not empty lies in a block. -/
theorem Mem.rowAddr {e : TypeId} {sz n cap : Nat} {a : Option Addr} {xs : List Value} (hm : Mem E I (.row (.slice a n cap) e sz n xs :: H) w) (hn : 0 < n) : ∃ b, a = some ⟨b, 0, none⟩ := by
  obtain ⟨b, cp, cur, hv, _⟩ := hm.openRow hn
  injection hv with h1 _ _
  exact ⟨b, h1⟩
theorem Mem.rowLen {e : TypeId} {sz n : Nat} {v : Value} {xs : List Value} (hm : Mem E I (.row v e sz n xs :: H) w) : xs.length = n * sz := (hm.ok _ List.mem_cons_self).1
/-- a cell of an owned row is read. -/
theorem m_loadRow [TyOne P t] {b off n cap sz : Nat} {e : TypeId} {xs : List Value} {v : Value} (hm : Mem E I (.row (.slice (some ⟨b, 0, none⟩) n cap) e sz n xs :: H) w) (hw : want ops l ⟨some d, .load t x, ty, pos, af, g⟩ = some true) (hN : Nat.blt d N = true)
    (hx : ev l x = some (.pointer (some ⟨b, off, none⟩))) (hc : xs[off]? = some v) (k : WL P N ds ops Q os ((d, v) :: l) w) :
    WL P N ds ops Q (⟨some d, .load t x, ty, pos, af, g⟩ :: os) l w := by
  have h0 := hm.rowLen
  have hlt : off < xs.length := (List.getElem?_eq_some_iff.1 hc).1
  rcases Nat.eq_zero_or_pos n with hn | hn
  · subst hn; rw [Nat.zero_mul] at h0; omega
  obtain ⟨b', cp, cur, hv, hm2, hcp, hcm, hs, ht⟩ := hm.openRow hn
  injection hv with h1 _ _
  injection h1 with h1
  injection h1 with h1
  subst h1
  refine op_load1 hw hN hx (hm2.ok _ List.mem_cons_self) ?_ k
  rw [← ht, List.getElem?_take] at hc
  split at hc
  · simpa using hc
  · cases hc
/-- a cell of an owned row is written. -/
theorem m_storeRow {by_ : Nat} [Elem P t 1 by_] {b off n cap sz : Nat} {e : TypeId} {xs : List Value} {v : Value} {dst : Option Nat} (hm : Mem E I (.row (.slice (some ⟨b, 0, none⟩) n cap) e sz n xs :: H) w) (hd : dst = none) (hw : want ops l ⟨dst, .store t x y, ty, pos, af, g⟩ = some true)
    (hx : ev l x = some (.pointer (some ⟨b, off, none⟩))) (hy : ev l y = some v) (hn1 : v.cells.toList = [v]) (h1 : v.oneCell' = true) (ho : off < xs.length)
    (k : ∀ w', Mem E I (.row (.slice (some ⟨b, 0, none⟩) n cap) e sz n (xs.set off v) :: H) w' → WL P N ds ops Q os l w') :
    WL P N ds ops Q (⟨dst, .store t x y, ty, pos, af, g⟩ :: os) l w := by
  have h0 := hm.rowLen
  rcases Nat.eq_zero_or_pos n with hn | hn
  · subst hn; rw [Nat.zero_mul] at h0; omega
  obtain ⟨b', cp, cur, hv, hm2, hcp, hcm, hs, ht⟩ := hm.openRow hn
  injection hv with e1 _ e3
  injection e1 with e1
  injection e1 with e1
  subst e1; subst e3
  obtain ⟨cL, rfl⟩ : ∃ cL : List Value, cur = cL.toArray := ⟨cur.toList, by simp⟩
  have hs' : cL.length = cap * sz := by simpa using hs
  have ht' : cL.take (n * sz) = xs := by simpa using ht
  have hle : n * sz ≤ cap * sz := Nat.mul_le_mul_right _ hcp
  refine m_store1 (i:=0) hm2 hd hw hx hy rfl hn1 (by rw [Nat.blt_eq]; omega) h1 (fun w2 hm3 => k w2 ?_)
  have hm4 : Mem E I (.obj b (.cells (cL.set off v).toArray e (0, 0)) :: H) w2 := hm3
  exact hm4.shutRow hcp hcm (by simpa using hs') (by simp only; rw [List.take_set, ht'])
end
/-! the parts of what is owned, one behind the other -/
theorem pmT1 {r : HItem} {A B C D : List HItem} : (r :: (A ++ ((B ++ C) ++ D))).Perm (B ++ (r :: (A ++ (C ++ D)))) := by
  have h1 : (A ++ ((B ++ C) ++ D)).Perm (B ++ (A ++ (C ++ D))) := by
    rw [List.append_assoc]
    exact (List.perm_append_comm_assoc A B (C ++ D))
  exact (h1.cons r).trans (List.perm_middle (l₁ := B) (a := r) (l₂ := A ++ (C ++ D))).symm
theorem pmT2 {r : HItem} {A B C D : List HItem} : (B ++ (r :: (A ++ (C ++ D)))).Perm (C ++ (r :: (A ++ (B ++ D)))) := by
  have h1 : (B ++ (r :: (A ++ (C ++ D)))).Perm (r :: (B ++ (A ++ (C ++ D)))) := List.perm_middle
  have h2 : (B ++ (A ++ (C ++ D))).Perm (C ++ (A ++ (B ++ D))) := by
    refine (List.perm_append_comm_assoc B A (C ++ D)).trans ?_
    refine ((List.perm_append_comm_assoc B C D).append_left A).trans ?_
    exact List.perm_append_comm_assoc A C (B ++ D)
  exact h1.trans ((h2.cons r).trans (List.perm_middle (l₁ := C) (a := r) (l₂ := A ++ (B ++ D))).symm)
theorem pmT3 {r : HItem} {A B C D : List HItem} : (C ++ (r :: (A ++ (B ++ D)))).Perm (r :: (A ++ ((B ++ C) ++ D))) :=
  pmT2.trans pmT1.symm
end Go.Fw
end
