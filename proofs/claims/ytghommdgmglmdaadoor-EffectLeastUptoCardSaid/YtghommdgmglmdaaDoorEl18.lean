/- Own work: texts FwMap3, FwTyM, ReB, ReC, ReD, FwApp, FwCut3, FwApp2, ReE, one behind the other. -/
import Derived.Test.YtghommdgmglmdaaDoorEl17
import Derived.Maps.RangeRun
section
namespace Go.Fw
open Go
/-- what a map has under a text. -/
def mget (es : Ents) (s : List UInt8) : Option Value := (es.find? (fun p => decide (p.1 = s))).map (·.2)
theorem mget_at : ∀ {es : Ents} {j : Nat} {u : List UInt8} {v : Value}, (es.map (·.1)).Nodup → es[j]? = some (u, v) → mget es u = some v
  | [], j, u, v, _, h => by simp at h
  | (a, c) :: es, 0, u, v, _, h => by
    simp only [List.getElem?_cons_zero, Option.some.injEq, Prod.mk.injEq] at h
    obtain ⟨rfl, rfl⟩ := h
    simp [mget]
  | (a, c) :: es, j + 1, u, v, hn, h => by
    rw [List.getElem?_cons_succ] at h
    rw [List.map_cons, List.nodup_cons] at hn
    have hne : a ≠ u := by
      rintro rfl
      exact hn.1 (List.mem_map_of_mem (f := (·.1)) (List.mem_of_getElem? h))
    have ih := mget_at hn.2 h
    simp only [mget] at ih ⊢
    rw [List.find?_cons, decide_eq_false hne]
    exact ih
theorem mget_some : ∀ {es : Ents} {u : List UInt8} {v : Value}, mget es u = some v → ∃ j : Nat, es[j]? = some (u, v)
  | [], u, v, h => by cases h
  | (a, c) :: es, u, v, h => by
    simp only [mget] at h
    rw [List.find?_cons] at h
    by_cases e : a = u
    · rw [decide_eq_true e] at h
      simp only [Option.map_some, Option.some.injEq] at h
      subst e; subst h
      exact ⟨0, rfl⟩
    · rw [decide_eq_false e] at h
      obtain ⟨j, hj⟩ := mget_some (es := es) h
      exact ⟨j + 1, by rw [List.getElem?_cons_succ]; exact hj⟩
theorem mget_none {es : Ents} {u : List UInt8} (h : mget es u = none) {j : Nat} {p : List UInt8 × Value} (hj : es[j]? = some p) : p.1 ≠ u := by
  rintro rfl
  simp only [mget, Option.map_eq_none_iff, List.find?_eq_none] at h
  have := h p (List.mem_of_getElem? hj)
  simp at this
theorem mget_append {es : Ents} {s : List UInt8} {v : Value} (n : List UInt8) (h : mget es s = none) : mget (es ++ [(s, v)]) n = if n = s then some v else mget es n := by
  simp only [mget] at h ⊢
  rw [List.find?_append]
  by_cases e : n = s
  · subst e
    rw [if_pos rfl, Option.map_eq_none_iff.1 h]
    simp
  · rw [if_neg e]
    cases hf : es.find? (fun p => decide (p.1 = n)) with
    | some p => rfl
    | none => simp [Ne.symm e]
theorem mget_set : ∀ {es : Ents} {i : Nat} {s : List UInt8} {v : Value} (n : List UInt8), (es.map (·.1)).Nodup → (∃ c, es[i]? = some (s, c)) → mget (es.set i (s, v)) n = if n = s then some v else mget es n
  | [], i, s, v, n, _, h => by obtain ⟨_, h⟩ := h; simp at h
  | (a, c) :: es, 0, s, v, n, _, h => by
    obtain ⟨_, h⟩ := h
    simp only [List.getElem?_cons_zero, Option.some.injEq, Prod.mk.injEq] at h
    obtain ⟨rfl, _⟩ := h
    simp only [mget, List.set_cons_zero, List.find?_cons]
    by_cases e : n = a
    · subst e; simp
    · rw [if_neg e, decide_eq_false (Ne.symm e)]
  | (a, c) :: es, i + 1, s, v, n, hn, h => by
    obtain ⟨c', h⟩ := h
    rw [List.getElem?_cons_succ] at h
    rw [List.map_cons, List.nodup_cons] at hn
    have ih := mget_set (v := v) n hn.2 ⟨c', h⟩
    have has : a ≠ s := by
      rintro rfl
      exact hn.1 (List.mem_map_of_mem (f := (·.1)) (List.mem_of_getElem? h))
    simp only [mget, List.set_cons_succ, List.find?_cons] at ih ⊢
    by_cases e : a = n
    · subst e
      rw [decide_eq_true rfl, if_neg has]
    · rw [decide_eq_false e]
      exact ih
theorem mget_mput {es : Ents} {s : List UInt8} {v : Value} (n : List UInt8) (hn : (es.map (·.1)).Nodup) : mget (mput es s v) n = if n = s then some v else mget es n := by
  rw [mput]
  cases hf : es.findIdx? (fun p => decide (p.1 = s)) with
  | some i =>
    obtain ⟨hi, hs, _⟩ := List.findIdx?_eq_some_iff_getElem.1 hf
    have hs' : es[i].1 = s := by simpa using hs
    exact mget_set n hn ⟨es[i].2, by rw [List.getElem?_eq_getElem hi, ← hs']⟩
  | none =>
    refine mget_append n ?_
    rw [List.findIdx?_eq_none_iff] at hf
    simp only [mget, Option.map_eq_none_iff, List.find?_eq_none]
    intro p hp
    simpa using hf p hp
/-- a map that does not turn. -/
structure MapI (I : Imm) (b : Nat) (es : Ents) : Prop where
  out : I b = some (.map (entsOf es 0).toArray es.length)
  nodup : (es.map (·.1)).Nodup
theorem MapI.le {I I' : Imm} {b : Nat} {es : Ents} (h : MapI I b es) (hl : Le I I') : MapI I' b es := ⟨hl _ _ h.out, h.nodup⟩
theorem Mem.mapI {E : Ent} {I : Imm} {H : List HItem} {w : World} {b : Nat} {es : Ents} (hm : Mem E I H w) (h : MapI I b es) : MapAt w b es := ⟨hm.inv _ _ h.out, h.nodup⟩
abbrev HItem.it (r b n : Nat) (S : List Nat) : HItem := .obj r (.mapIter (some b) n S.toArray n)
theorem ents_mem {es : Ents} {e : MapEntry} : e ∈ entsOf es 0 ↔ ∃ (j : Nat) (u : List UInt8) (v : Value), es[j]? = some (u, v) ∧ e = { key := str u, val := v, born := j } := by
  simp only [entsOf, List.mem_map]
  constructor
  · rintro ⟨⟨⟨u, v⟩, j⟩, h, rfl⟩
    rw [List.mem_zipIdx_iff_getElem?] at h
    exact ⟨j, u, v, h, rfl⟩
  · rintro ⟨j, u, v, h, rfl⟩
    exact ⟨((u, v), j), by rw [List.mem_zipIdx_iff_getElem?]; exact h, rfl⟩
theorem left_mem {es : Ents} {S : List Nat} {e : MapEntry} (h : e ∈ (leftOf (entsOf es 0).toArray S.toArray).toList) : ∃ (j : Nat) (u : List UInt8) (v : Value), es[j]? = some (u, v) ∧ j ∉ S ∧ e = { key := str u, val := v, born := j } := by
  simp only [leftOf, List.filter_toArray, List.mem_filter] at h
  obtain ⟨j, u, v, h1, rfl⟩ := ents_mem.1 h.1
  exact ⟨j, u, v, h1, by simpa using h.2, rfl⟩
theorem left_none {es : Ents} {S : List Nat} (h : (leftOf (entsOf es 0).toArray S.toArray).size = 0) : ∀ j, j < es.length → j ∈ S := by
  intro j hj
  have h2 : (entsOf es 0).filter (fun e => !S.toArray.contains e.born) = [] := by
    simpa [leftOf] using h
  rw [List.filter_eq_nil_iff] at h2
  have := h2 { key := str es[j].1, val := es[j].2, born := j } (ents_mem.2 ⟨j, es[j].1, es[j].2, List.getElem?_eq_getElem hj, rfl⟩)
  simpa using this
theorem ents_born (es : Ents) : ((entsOf es 0).map (·.born)).Nodup := by
  have : (entsOf es 0).map (·.born) = List.range' 0 es.length := by
    simp only [entsOf, List.map_map]
    rw [← List.zipIdx_map_snd 0 es]
    rfl
  rw [this]
  exact List.nodup_range' (step := 1) (by omega)
section
variable {P : Program} {N : Nat} {ds : List Deferred} {Q : Exit → Act → World → Prop} {K : Act → World → Prop} {l : Log} {w : World} {ops : Array Oper} {os : List Oper}
variable {d : Nat} {ty : TypeId} {pos : String} {af : Array Edge} {g : Option (Nat × Bool)} {t : TypeId} {x y : Operand} {E : Ent} {I : Imm} {H : List HItem}
theorem m_range {kt et : TypeId} [TyMap P t kt et] {b : Nat} {es : Ents} (hm : Mem E I H w) (hw : want ops l ⟨some d, .range t x, ty, pos, af, g⟩ = some true) (hN : Nat.blt d N = true)
    (hx : ev l x = some (.map (some b))) (hb : MapAt w b es) (k : ∀ r w', Mem E I (.it r b es.length [] :: H) w' → WL P N ds ops Q os ((d, .pointer (some ⟨r, 0, none⟩)) :: l) w') :
    WL P N ds ops Q (⟨some d, .range t x, ty, pos, af, g⟩ :: os) l w :=
  wl_value (w' := w.alloc (.mapIter (some b) es.length #[] es.length)) rfl hw hN (fun a ha => by
    have h1 := run_range_map (P := P) w t kt et b _ _ (TyMap.out (P := P) (t := t)) hb.out
    simp [execOp, ha.ev hx, h1])
    (k w.heap.size _ (hm.add (Kept.alloc w _) (heap_alloc_new w _) (fun b' hb' => by simp only [HItem.blk, Option.some.injEq] at hb'; omega)))
theorem m_next {i r b : Nat} {es : Ents} {S : List Nat} (hm : Mem E I H w) (hw : want ops l ⟨some d, .next x false, ty, pos, af, g⟩ = some true) (hN : Nat.blt d N = true)
    (hx : ev l x = some (.pointer (some ⟨r, 0, none⟩))) (hi : H[i]? = some (.it r b es.length S)) (hb : MapAt w b es)
    (k1 : (∀ j, j < es.length → j ∈ S) → WL P N ds ops Q os ((d, .tuple #[.bool false]) :: l) w)
    (k2 : ∀ j u v w', es[j]? = some (u, v) → j ∉ S → Mem E I (H.set i (.it r b es.length (S ++ [j]))) w' → WL P N ds ops Q os ((d, .tuple #[.bool true, str u, v]) :: l) w') :
    WL P N ds ops Q (⟨some d, .next x false, ty, pos, af, g⟩ :: os) l w := by
  have hr := hm.get hi
  rcases run_next_at (P := P) w ty r b es.length es.length S.toArray (entsOf es 0).toArray es.length hr hb.out (fun e he => by
    obtain ⟨j, u, v, h1, rfl⟩ := ents_mem.1 he
    exact (List.getElem?_eq_some_iff.1 h1).1) (Nat.le_refl _) with ⟨h0, hrun⟩ | ⟨e, he, w1, hw1, hrun⟩
  · exact wl_value rfl hw hN (fun a ha => by simp [execOp, ha.ev hx, hrun]) (k1 (left_none h0))
  · obtain ⟨j, u, v, hj, hS, rfl⟩ := left_mem he
    have hlt := lt_of_heap hr
    have hh : w1.heap = w.heap ∧ w1.os = w.os ∧ w1.tape = w.tape ∧ w1.output = w.output := by rcases hw1 with rfl | rfl <;> exact ⟨rfl, rfl, rfl, rfl⟩
    have hk : Kept [r] w (ChangeMaps.setBlock w1 r (.mapIter (some b) es.length (S ++ [j]).toArray es.length)) :=
      ⟨hh.2.1, hh.2.2.1, hh.2.2.2, by simp [ChangeMaps.setBlock, hh.1], fun k hk hx => by
          have : r ≠ k := by rintro rfl; simp at hx
          simp [ChangeMaps.setBlock, hh.1, Array.getElem?_setIfInBounds_ne this]⟩
    have hS2 : (S ++ [j]).toArray = S.toArray.push j := by simp
    have hok : HItem.ok (ChangeMaps.setBlock w1 r (.mapIter (some b) es.length (S ++ [j]).toArray es.length)) (.it r b es.length (S ++ [j])) := by
      simp [HItem.ok, ChangeMaps.setBlock, hh.1, hlt]
    rw [← hS2] at hrun
    exact wl_value rfl hw hN (fun a ha => by simp [execOp, ha.ev hx, hrun]) (k2 j u v _ hj hS (hm.turn hi (by simpa [HItem.blk] using hk) hok (.inl rfl)))
theorem m_entry {i r b j : Nat} {es : Ents} {S : List Nat} {u : List UInt8} {v : Value} (hm : Mem E I H w) (hw : want ops l ⟨some d, .entry x, ty, pos, af, g⟩ = some true) (hN : Nat.blt d N = true)
    (hx : ev l x = some (.pointer (some ⟨r, 0, none⟩))) (hi : H[i]? = some (.it r b es.length (S ++ [j]))) (hb : MapAt w b es) (hj : es[j]? = some (u, v))
    (k : WL P N ds ops Q os ((d, .tuple #[str u, v]) :: l) w) : WL P N ds ops Q (⟨some d, .entry x, ty, pos, af, g⟩ :: os) l w := by
  have hr := hm.get hi
  have hrun := run_entry_at (P := P) w r b es.length S.toArray (entsOf es 0).toArray es.length { key := str u, val := v, born := j } (by rw [hr]; simp) hb.out (ents_mem.2 ⟨j, u, v, hj, rfl⟩) (ents_born es)
  exact wl_value rfl hw hN (fun a ha => by simp [execOp, ha.ev hx, hrun]) k
theorem Mem.freezeM {b : Nat} {es : Ents} (hm : Mem E I (.mp b es :: H) w) (hn : (es.map (·.1)).Nodup) : ∃ I', Le I I' ∧ Mem E I' H w ∧ MapI I' b es := by
  have hf := hm.free _ List.mem_cons_self b rfl
  exact ⟨I.add b (.map (entsOf es 0).toArray es.length), Le.add hf, hm.tl.freezeB (hm.ok _ List.mem_cons_self) hf (hm.born _ List.mem_cons_self b rfl) (fun h hh e => (List.pairwise_cons.1 hm.dist).1 h hh b rfl e), ⟨Imm.add_self _ _ _, hn⟩⟩
end
/-! copying a map, entry by entry -/
structure Copied (es : Ents) (S : List Nat) (es2 : Ents) : Prop where
  nodup : (es2.map (·.1)).Nodup
  get : ∀ n v, mget es2 n = some v ↔ ∃ j ∈ S, es[j]? = some (n, v)
theorem Copied.start (es : Ents) : Copied es [] [] := ⟨by simp, fun n v => by simp [mget]⟩
theorem Copied.put {es es2 : Ents} {S : List Nat} {j : Nat} {u : List UInt8} {v : Value} (h : Copied es S es2) (hn : (es.map (·.1)).Nodup) (hj : es[j]? = some (u, v)) : Copied es (S ++ [j]) (mput es2 u v) := by
  refine ⟨mput_nodup h.nodup, fun n v' => ?_⟩
  rw [mget_mput n h.nodup]
  by_cases e : n = u
  · subst e
    rw [if_pos rfl]
    constructor
    · rintro h'; cases h'; exact ⟨j, by simp, hj⟩
    · rintro ⟨i, _, hi⟩
      rw [← mget_at hn hj, mget_at hn hi]
  · rw [if_neg e, h.get]
    constructor
    · rintro ⟨i, hi, h2⟩; exact ⟨i, by simp [hi], h2⟩
    · rintro ⟨i, hi, h2⟩
      rcases List.mem_append.1 hi with hi | hi
      · exact ⟨i, hi, h2⟩
      · rw [List.mem_singleton] at hi
        subst hi
        rw [hj] at h2
        cases h2
        exact absurd rfl e
theorem Copied.done {es es2 : Ents} {S : List Nat} (h : Copied es S es2) (_hn : (es.map (·.1)).Nodup) (hS : ∀ j, j < es.length → j ∈ S) (n : List UInt8) : mget es2 n = mget es n := by
  cases hg : mget es n with
  | some v =>
    obtain ⟨j, hj⟩ := mget_some hg
    exact (h.get n v).2 ⟨j, hS j (List.getElem?_eq_some_iff.1 hj).1, hj⟩
  | none =>
    cases hg2 : mget es2 n with
    | none => rfl
    | some v =>
      obtain ⟨j, _, hj⟩ := (h.get n v).1 hg2
      exact absurd rfl (mget_none hg hj)
/-- how many are left. -/
def leftN (n : Nat) (S : List Nat) : Nat := ((List.range n).filter (fun j => !S.contains j)).length
theorem filter_less {α : Type} (p q : α → Bool) : ∀ (l : List α), (∀ x ∈ l, p x = true → q x = true) → (∃ x ∈ l, q x = true ∧ p x = false) → (l.filter p).length < (l.filter q).length
  | [], _, h => by obtain ⟨_, h, _⟩ := h; cases h
  | a :: l, h1, h2 => by
    have hle : ∀ (l : List α), (∀ x ∈ l, p x = true → q x = true) → (l.filter p).length ≤ (l.filter q).length := fun l h => by
      induction l with
      | nil => simp
      | cons a l ih =>
        have ih' := ih (fun x hx => h x (List.mem_cons_of_mem _ hx))
        have ha := h a List.mem_cons_self
        simp only [List.filter_cons]
        cases hp : p a <;> cases hq : q a <;> simp_all <;> omega
    have h1' : ∀ x ∈ l, p x = true → q x = true := fun x hx => h1 x (List.mem_cons_of_mem _ hx)
    obtain ⟨x, hx, hq, hp⟩ := h2
    rcases List.mem_cons.1 hx with rfl | hx
    · simp only [List.filter_cons, hq, hp, if_true, Bool.false_eq_true, if_false, List.length_cons]
      exact Nat.lt_succ_of_le (hle l h1')
    · have ih := filter_less p q l h1' ⟨x, hx, hq, hp⟩
      have ha := h1 a List.mem_cons_self
      simp only [List.filter_cons]
      cases hp : p a <;> cases hq : q a <;> simp_all <;> omega
theorem leftN_step {n j : Nat} {S : List Nat} (hj : j < n) (hS : j ∉ S) : leftN n (S ++ [j]) < leftN n S :=
  filter_less _ _ _ (fun x _ h => by simp at h ⊢; exact h.1) ⟨j, List.mem_range.2 hj, by simpa using hS, by simp⟩
end Go.Fw
end
section
namespace Go.Proofs.YtghommdgmglmdaaDoor
open Go Go.Fw
instance : TyMap Tryd.prog 40 9 4 := ⟨by kernel_rfl⟩
instance : TyMap Tryd.prog 61 9 36 := ⟨by kernel_rfl⟩
end Go.Proofs.YtghommdgmglmdaaDoor
end
section
namespace Go.Sp
open Go.Fw
/-- a map that is the set of these names. -/
structure SetE (es : Ents) (c : List Nm) : Prop where
  nodup : (es.map (·.1)).Nodup
  tru : ∀ p ∈ es, p.2 = .bool true
  mem : ∀ n, n ∈ es.map (·.1) ↔ n ∈ c
theorem SetE.put {es : Ents} {c : List Nm} {n : Nm} (h : SetE es c) (hn : n ≠ []) : SetE (mput es n (.bool true)) (addE c n) := by
  refine ⟨mput_nodup h.nodup, fun p hp => ?_, fun m => ?_⟩
  · rcases mput_mem hp with h1 | rfl
    · exact h.tru p h1
    · rfl
  · rw [mput_keys, addE_mem, h.mem]
    constructor
    · rintro (h1 | rfl)
      · exact .inl h1
      · exact .inr ⟨rfl, hn⟩
    · rintro (h1 | ⟨h1, _⟩)
      · exact .inl h1
      · exact .inr h1
end Go.Sp
namespace Go.Proofs.YtghommdgmglmdaaDoor
open Go.Fw
structure SsX where
  k : Nat
  I : Imm
  es : Ents
end Go.Proofs.YtghommdgmglmdaaDoor
end
section
namespace Go.Proofs.YtghommdgmglmdaaDoor
open Go.Fw
structure SgX where
  k : Nat
  I : Imm
  es : Ents
  fs : Ents
end Go.Proofs.YtghommdgmglmdaaDoor
end
section
namespace Go.Sp
open Go.Fw
/-- the row of the entries that were met. -/
structure Risen (es : Ents) (S : List Nat) (r : List Nm) : Prop where
  srt : Srt r
  mem : ∀ n, n ∈ r ↔ ∃ j v, j ∈ S ∧ es[j]? = some (n, v)
theorem Risen.start (es : Ents) : Risen es [] [] := ⟨Srt.nil, fun n => by simp⟩
theorem Risen.new {es : Ents} {S : List Nat} {r : List Nm} {j : Nat} {u : Nm} {v : Value} (h : Risen es S r) (hn : (es.map (·.1)).Nodup) (hj : es[j]? = some (u, v)) (hS : j ∉ S) : u ∉ r := fun hu => by
  obtain ⟨i, v', hi, hg⟩ := (h.mem u).1 hu
  have h1 : (es.map (·.1))[j]? = some u := by rw [List.getElem?_map, hj]; rfl
  have h2 : (es.map (·.1))[i]? = some u := by rw [List.getElem?_map, hg]; rfl
  have hlt : j < (es.map (·.1)).length := (List.getElem?_eq_some_iff.1 h1).1
  have := (List.getElem?_inj hlt hn).1 (h1.trans h2.symm)
  exact hS (this ▸ hi)
theorem Risen.step {es : Ents} {S : List Nat} {r : List Nm} {j : Nat} {u : Nm} {v : Value} (h : Risen es S r) (hn : (es.map (·.1)).Nodup) (hj : es[j]? = some (u, v)) (hS : j ∉ S) : Risen es (S ++ [j]) (insT u r) := by
  refine ⟨insT_srt h.srt (h.new hn hj hS), fun n => ?_⟩
  rw [insT_mem, h.mem]
  constructor
  · rintro (rfl | ⟨i, v', hi, hg⟩)
    · exact ⟨j, v, by simp, hj⟩
    · exact ⟨i, v', by simp [hi], hg⟩
  · rintro ⟨i, v', hi, hg⟩
    rcases List.mem_append.1 hi with hi | hi
    · exact .inr ⟨i, v', hi, hg⟩
    · obtain rfl := List.mem_singleton.1 hi
      rw [hj] at hg
      exact .inl (Prod.mk.inj (Option.some.inj hg)).1.symm
theorem Risen.done {es : Ents} {S : List Nat} {r c : List Nm} (h : Risen es S r) (he : SetE es c) (hc : Srt c) (hS : ∀ j, j < es.length → j ∈ S) : r = c := by
  refine srt_ext h.srt hc (fun n => ?_)
  rw [h.mem, ← he.mem, List.mem_map]
  constructor
  · rintro ⟨j, v, _, hg⟩
    exact ⟨(n, v), List.mem_of_getElem? hg, rfl⟩
  · rintro ⟨⟨m, v⟩, hm, rfl⟩
    obtain ⟨j, hj⟩ := List.mem_iff_getElem?.1 hm
    exact ⟨j, v, hS j (List.getElem?_eq_some_iff.1 hj).1, hj⟩
end Go.Sp
end
section
namespace Go.Fw
open Go
section
variable {P : Program} {N : Nat} {ds : List Deferred} {Q : Exit → Act → World → Prop} {l : Log} {w : World} {ops : Array Oper} {os : List Oper}
variable {d : Nat} {ty : TypeId} {pos : String} {af : Array Edge} {g : Option (Nat × Bool)} {t : TypeId} {x y : Operand} {E : Ent} {I : Imm} {H : List HItem}
theorem run_append_none {e : TypeId} {sz by_ : Nat} [TySlice P t e] [he : Elem P e sz by_] {b : Option Addr} {n c c2 : Nat} (hc : n ≤ c) (ty : TypeId) :
    (Builtin.append_ #[t, t] ty #[.slice b n c, .slice none 0 c2]).run P w = .ok (.slice b n c) w := by
  obtain ⟨i, z, hi, hz, hs, hby, hzc, hpos⟩ := he.out
  have ht := run_underlying (P := P) (w := w) (TySlice.out (P := P) (t := t))
  cases b <;> simp [Builtin.append_, Builtin.firstCells, Builtin.lenOf, storeCells, ht, sizeOf, typeInfo, hi, hc]
theorem m_appendI {e : TypeId} {sz by_ : Nat} [TySlice P t e] [Elem P e sz by_] {i n m cp : Nat} {v : Value} {a : Option Addr} {xs ys : List Value} (hm : Mem E I H w)
    (hw : want ops l ⟨some d, .call ⟨.builtin .append, #[x, y], #[t, t]⟩, ty, pos, af, g⟩ = some true := by rfl) (hN : Nat.blt d N = true := by rfl)
    (hx : ev l x = some v := by rfl) (hy : ev l y = some (.slice a m cp) := by rfl) (hi : H[i]? = some (.row v e sz n xs) := by first | exact gt0 | exact gt1 | exact gt2 | exact gt3 | exact gt4 | exact gt5 | exact gt6) (hr : RowI I e sz (.slice a m cp) m ys) (h1 : ∀ u ∈ ys, u.oneCell' = true)
    (hlen : (n + m) * by_ ≤ 140737488355328 := by omega) (h63 : n + m ≤ 9223372036854775807 := by omega)
    (k : ∀ a' cp' w', Mem E I (H.set i (.row (.slice a' (n + m) cp') e sz (n + m) (xs ++ ys))) w' → WL P N ds ops Q os ((d, .slice a' (n + m) cp') :: l) w') :
    WL P N ds ops Q (⟨some d, .call ⟨.builtin .append, #[x, y], #[t, t]⟩, ty, pos, af, g⟩ :: os) l w := by
  have ho := hm.getRow hi
  obtain ⟨hl0, a', cap, hv, hmc, h3⟩ := hr
  obtain ⟨rfl, _, rfl⟩ := Value.slice.inj hv
  cases a with
  | none =>
    obtain rfl : m = 0 := Classical.byContradiction fun h => by obtain ⟨_, _, _, _, e1, _⟩ := h3 (by omega); cases e1
    obtain rfl : ys = [] := List.eq_nil_of_length_eq_zero (by simpa using hl0)
    obtain ⟨b, c, rfl⟩ := own_val ho
    have hnc := (own_cut ho (Nat.le_refl _)).2.1
    have hm' := hm.turn (h' := .row (.slice b (n + 0) c) e sz (n + 0) (xs ++ [])) hi (Kept.refl _ w) (by rw [Nat.add_zero, List.append_nil]; exact hm.ok _ (List.mem_of_getElem? hi)) (.inl rfl)
    refine wl_value (w' := w) (v := .slice b n c) rfl hw hN (fun c2 hc => ?_) (k b c w hm')
    have hr := run_append_none (P := P) (t := t) (w := w) (e := e) (b := b) (c2 := cp) hnc ty
    simp [execOp, resolve, invoke, builtin, hc.ev hx, hc.ev hy, hr]
  | some ad =>
    obtain ⟨v', w', hr, ho', hk, hb⟩ := run_append (P := P) (t := t) ho ad m cp ys hl0 (fun j u hj => by
        have hm0 : 0 < m := by
          rcases Nat.eq_zero_or_pos m with h | h
          · subst h
            rw [List.eq_nil_of_length_eq_zero (l := ys) (by simpa using hl0)] at hj
            cases hj
          · exact h
        obtain ⟨b, off, c, fr, e1, e2, e3⟩ := h3 hm0
        obtain rfl := Option.some.inj e1
        rw [Addr.add_lit]
        exact cell_of (hm.inv _ _ e2) (e3 j u hj)) h1 h63 hlen (Nat.zero_le _) ty
    obtain ⟨a2, c2, rfl⟩ := own_val ho'
    refine wl_value (w' := w') (v := .slice a2 (n + m) c2) rfl hw hN (fun c3 hc => ?_) (k a2 c2 w' (hm.turn hi hk ho' (hb.imp_right fun ⟨g, h1, h2⟩ => ⟨g, h1, h2⟩)))
    simp [execOp, resolve, invoke, builtin, hc.ev hx, hc.ev hy, hr]
end
end Go.Fw
end
section
namespace Go.Fw
open Go
theorem RowI.drop {I : Imm} {ty sz n m cp : Nat} {a : Option Addr} {xs : List Value} (h : RowI I ty sz (.slice a n cp) n xs) (hmn : m ≤ n) {a' : Option Addr} {cp' : Nat} (hc : n - m ≤ cp') (ha : m < n → a' = a.map (fun p => p.add (m * sz))) :
    RowI I ty sz (.slice a' (n - m) cp') (n - m) (xs.drop (m * sz)) := by
  obtain ⟨h0, a0, cap, h1, h2, h3⟩ := h
  obtain ⟨rfl, _, rfl⟩ := Value.slice.inj h1
  have hle : m * sz ≤ n * sz := Nat.mul_le_mul_right _ hmn
  refine ⟨by rw [List.length_drop, h0, Nat.sub_mul], a', cp', rfl, hc, fun hn => ?_⟩
  obtain ⟨b, off, c, fr, rfl, e2, e3⟩ := h3 (by omega)
  refine ⟨b, off + m * sz, c, fr, (ha (by omega)).trans (by rw [Option.map_some, Addr.add_lit]), e2, fun j u hj => ?_⟩
  rw [List.getElem?_drop] at hj
  rw [Nat.add_assoc]; exact e3 _ _ hj
section
variable {P : Program} {N : Nat} {ds : List Deferred} {Q : Exit → Act → World → Prop} {l : Log} {w : World} {ops : Array Oper} {os : List Oper}
variable {d : Nat} {ty : TypeId} {pos : String} {af : Array Edge} {g : Option (Nat × Bool)} {t : TypeId} {x y : Operand} {E : Ent} {I : Imm} {H : List HItem}
end
end Go.Fw
end
section
namespace Go.Fw
open Go
section
variable {P : Program} {N : Nat} {ds : List Deferred} {Q : Exit → Act → World → Prop} {l : Log} {w w0 : World} {ops : Array Oper} {os tail : List Oper} {X : List Nat}
variable {d : Nat} {ty : TypeId} {pos : String} {af : Array Edge} {g : Option (Nat × Bool)} {t : TypeId} {x y : Operand} {E : Ent} {I I0 : Imm} {H G R : List HItem} {m' f : Nat} {listed : Array Bool}
theorem run_build {e : TypeId} {sz by_ n : Nat} [TySlice P t e] [Elem P e sz by_] {ps : List (Nat × Operand)} {vs : List (Nat × Value)} {a : Act} (ha : Fits N ds l a) (hx : evp l ps = some vs)
    (hi : vs.map (·.1) = List.range' 0 n) (hs : vs.all (fun p => Nat.beq p.2.cells.toList.length sz) = true) (hn : n * sz ≤ 16777216) :
    (execOp a.eval ⟨some d, .buildSlice t n ps.toArray, ty, pos, af, g⟩).run P w = .ok (.value (.slice (some ⟨w.heap.size, 0, none⟩) n n)) (w.alloc (.cells (vs.flatMap (·.2.cells.toList)).toArray e (0, 0))) := by
  obtain ⟨i, z, hi', hz, hs', hby, hzc, hpos⟩ := Elem.out (P := P) (e := e)
  have h6 := fun w => run_underlying (P := P) (w := w) (TySlice.out (P := P) (t := t))
  have hlen : vs.length = n := by have := congrArg List.length hi; simpa using this
  have hf := fill_all sz vs 0 ((List.range (n * sz)).map (fun j => z.cells[j % z.cells.size]!)) (by rw [hlen]; exact hi) (by simp [hlen]) (fun p hp => by
    have := List.all_eq_true.1 hs p hp
    exact Nat.eq_of_beq_eq_true this)
  simp only [Nat.zero_mul, List.take_zero, List.nil_append] at hf
  have e1 := ha.evp hx
  have hz0 : ¬ (2 ^ 24 < n * sz) := by omega
  have e2 : (Array.range (n * sz)).map (fun j => z.cells[j % z.cells.size]!) = ((List.range (n * sz)).map (fun j => z.cells[j % z.cells.size]!)).toArray := by
    apply Array.ext'; simp
  simp only [execOp, Instr.buildSlice]
  by_cases hz1 : n * sz = 0
  · have hn0 : n = 0 := by
      rcases Nat.mul_eq_zero.1 hz1 with h | h
      · exact h
      · omega
    subst hn0
    have : vs = [] := List.eq_nil_of_length_eq_zero hlen
    subst this
    have e4 : Array.range 0 = #[] := rfl
    simp [e1, h6, sizeOf, typeInfo, hi', Instr.fill, newRow, newObj, e4]
    rfl
  · simp [e1, h6, sizeOf, typeInfo, hi', hs', zeroValue, hz, hz0, newRow, newObj, e2, hf]
    rw [if_neg hz1]
    rfl
theorem all_len {sz : Nat} : ∀ (vs : List (Nat × Value)), vs.all (fun p => Nat.beq p.2.cells.toList.length sz) = true → (vs.flatMap (·.2.cells.toList)).length = vs.length * sz
  | [], _ => by simp
  | p :: vs, h => by
    rw [List.all_cons, Bool.and_eq_true] at h
    rw [List.flatMap_cons, List.length_append, all_len vs h.2, Nat.eq_of_beq_eq_true h.1, List.length_cons, Nat.add_mul]; omega
theorem mu_buildI {e : TypeId} {sz by_ n : Nat} [TySlice P t e] [Elem P e sz by_] {ps : List (Nat × Operand)} {vs : List (Nat × Value)} {xs : List Value} (hm : Mem ⟨w0, X, I0⟩ I H w)
    (hw : want ops l ⟨some d, .buildSlice t n ps.toArray, ty, pos, af, g⟩ = some true) (hN : Nat.blt d N = true) (hx : evp l ps = some vs)
    (hi : vs.map (·.1) = List.range' 0 n) (hs : vs.all (fun p => Nat.beq p.2.cells.toList.length sz) = true) (hn : Nat.ble (n * sz) 16777216 = true) (hxs : vs.flatMap (·.2.cells.toList) = xs)
    (k : ∀ I' a w', Le I I' → Mem ⟨w0, X, I0⟩ I' H w' → RowI I' e sz (.slice a n n) n xs → WA P N ds ops Q X w0 m' f listed tail ((d, .slice a n n) :: l) w') :
    WU P N ds ops Q X w0 m' f listed tail ⟨some d, .buildSlice t n ps.toArray, ty, pos, af, g⟩ l w := by
  subst hxs
  have hk := Kept.alloc w (.cells (vs.flatMap (·.2.cells.toList)).toArray e (0, 0))
  obtain ⟨h1, h2⟩ := hm.fresh hk (Nat.le_refl _) (heap_alloc_new w _)
  refine wu_value rfl hw hN (fun a ha => run_build ha hx hi hs (Nat.le_of_ble_eq_true hn)) h2.kept (k _ _ _ h1 h2 ⟨?_, _, _, rfl, Nat.le_refl _, fun _ => ⟨w.heap.size, 0, _, (_, _), rfl, Imm.add_self _ _ _, fun j u hj => by rw [Nat.zero_add]; simpa using hj⟩⟩)
  have hlen : vs.length = n := by have := congrArg List.length hi; simpa using this
  rw [all_len vs hs, hlen]
theorem mu_buildRow {e : TypeId} {sz by_ n : Nat} [TySlice P t e] [Elem P e sz by_] {ps : List (Nat × Operand)} {vs : List (Nat × Value)} {xs : List Value} (hm : Mem ⟨w0, X, I0⟩ I H w)
    (hw : want ops l ⟨some d, .buildSlice t n ps.toArray, ty, pos, af, g⟩ = some true) (hN : Nat.blt d N = true) (hx : evp l ps = some vs)
    (hi : vs.map (·.1) = List.range' 0 n) (hs : vs.all (fun p => Nat.beq p.2.cells.toList.length sz) = true) (hn : Nat.ble (n * sz) 16777216 = true) (hn2 : Nat.ble n 16777216 = true) (hxs : vs.flatMap (·.2.cells.toList) = xs)
    (k : ∀ b w', Mem ⟨w0, X, I0⟩ I (.row (.slice (some ⟨b, 0, none⟩) n n) e sz n xs :: H) w' → WA P N ds ops Q X w0 m' f listed tail ((d, .slice (some ⟨b, 0, none⟩) n n) :: l) w') :
    WU P N ds ops Q X w0 m' f listed tail ⟨some d, .buildSlice t n ps.toArray, ty, pos, af, g⟩ l w := by
  subst hxs
  have hlen : vs.length = n := by have := congrArg List.length hi; simpa using this
  have hl : (vs.flatMap (·.2.cells.toList)).length = n * sz := by rw [all_len vs hs, hlen]
  have hk := Kept.alloc w (.cells (vs.flatMap (·.2.cells.toList)).toArray e (0, 0))
  have hm' := hm.add (x := .row (.slice (some ⟨w.heap.size, 0, none⟩) n n) e sz n (vs.flatMap (·.2.cells.toList))) hk ⟨hl, .inr ⟨w.heap.size, n, _, rfl, Nat.zero_le _, heap_alloc_new w _, Nat.le_refl _, by
    have := Nat.le_of_ble_eq_true hn2
    unfold maxLen; omega, by simpa using hl, by rw [← hl]; exact List.take_length⟩⟩ (fun b' hb' => by simp only [HItem.blk, Value.ownBlock, Option.some.injEq] at hb'; omega)
  exact wu_value rfl hw hN (fun a ha => run_build ha hx hi hs (Nat.le_of_ble_eq_true hn)) hm'.kept (k _ _ hm')
theorem Mem.appI {e : TypeId} {sz by_ : Nat} [TySlice P t e] [Elem P e sz by_] {i n m cp : Nat} {v : Value} {a : Option Addr} {xs ys : List Value} (ty : TypeId) (hm : Mem E I H w)
    (hi : H[i]? = some (.row v e sz n xs)) (hr : RowI I e sz (.slice a m cp) m ys) (h1 : ∀ u ∈ ys, u.oneCell' = true)
    (hlen : (n + m) * by_ ≤ 140737488355328) (h63 : n + m ≤ 9223372036854775807) :
    ∃ a' cp' w', (Builtin.append_ #[t, t] ty #[v, .slice a m cp]).run P w = .ok (.slice a' (n + m) cp') w' ∧ Mem E I (H.set i (.row (.slice a' (n + m) cp') e sz (n + m) (xs ++ ys))) w' := by
  have ho := hm.getRow hi
  obtain ⟨hl0, a', cap, hv, hmc, h3⟩ := hr
  obtain ⟨rfl, _, rfl⟩ := Value.slice.inj hv
  cases a with
  | none =>
    obtain rfl : m = 0 := Classical.byContradiction fun h => by obtain ⟨_, _, _, _, e1, _⟩ := h3 (by omega); cases e1
    obtain rfl : ys = [] := List.eq_nil_of_length_eq_zero (by simpa using hl0)
    obtain ⟨b, c, rfl⟩ := own_val ho
    have hnc := (own_cut ho (Nat.le_refl _)).2.1
    have hm' := hm.turn (h' := .row (.slice b (n + 0) c) e sz (n + 0) (xs ++ [])) hi (Kept.refl _ w) (by rw [Nat.add_zero, List.append_nil]; exact hm.ok _ (List.mem_of_getElem? hi)) (.inl rfl)
    exact ⟨b, c, w, run_append_none (P := P) (t := t) (w := w) (e := e) (b := b) (c2 := cp) hnc ty, hm'⟩
  | some ad =>
    have hcell : ∀ j u, ys[j]? = some u → w.cell? (ad.add j) = some u := fun j u hj => by
      have hm0 : 0 < m := by
        rcases Nat.eq_zero_or_pos m with h | h
        · subst h
          rw [List.eq_nil_of_length_eq_zero (l := ys) (by simpa using hl0)] at hj
          cases hj
        · exact h
      obtain ⟨b, off, c, fr, e1, e2, e3⟩ := h3 hm0
      obtain rfl := Option.some.inj e1
      rw [Addr.add_lit]
      exact cell_of (hm.inv _ _ e2) (e3 j u hj)
    obtain ⟨v', w', hr, ho', hk, hb⟩ := run_append (P := P) (t := t) ho ad m cp ys hl0 hcell h1 h63 hlen (Nat.zero_le _) ty
    obtain ⟨a2, c2, rfl⟩ := own_val ho'
    exact ⟨a2, c2, w', hr, hm.turn hi hk ho' (hb.imp_right fun ⟨g, h1, h2⟩ => ⟨g, h1, h2⟩)⟩
theorem mu_appI {e : TypeId} {sz by_ : Nat} [TySlice P t e] [Elem P e sz by_] {i n m cp : Nat} {v : Value} {a : Option Addr} {xs ys : List Value} (hm : Mem ⟨w0, X, I0⟩ I H w)
    (hw : want ops l ⟨some d, .call ⟨.builtin .append, #[x, y], #[t, t]⟩, ty, pos, af, g⟩ = some true) (hN : Nat.blt d N = true)
    (hx : ev l x = some v) (hy : ev l y = some (.slice a m cp)) (hi : H[i]? = some (.row v e sz n xs)) (hr : RowI I e sz (.slice a m cp) m ys) (h1 : ∀ u ∈ ys, u.oneCell' = true)
    (hlen : (n + m) * by_ ≤ 140737488355328) (h63 : n + m ≤ 9223372036854775807)
    (k : ∀ a' cp' w', Mem ⟨w0, X, I0⟩ I (H.set i (.row (.slice a' (n + m) cp') e sz (n + m) (xs ++ ys))) w' → WA P N ds ops Q X w0 m' f listed tail ((d, .slice a' (n + m) cp') :: l) w') :
    WU P N ds ops Q X w0 m' f listed tail ⟨some d, .call ⟨.builtin .append, #[x, y], #[t, t]⟩, ty, pos, af, g⟩ l w := by
  obtain ⟨a', cp', w', hr, hm'⟩ := Mem.appI (t := t) (P := P) ty hm hi hr h1 hlen h63
  exact wu_value (v := .slice a' (n + m) cp') rfl hw hN (fun a ha => by simp [execOp, resolve, invoke, builtin, ha.ev hx, ha.ev hy, hr]) hm'.kept (k _ _ _ hm')
theorem iv_sliceTo {KV : Act → Prop} {e : TypeId} {sz by_ : Nat} [TySlice P t e] [Elem P e sz by_] {n m cp : Nat} {a : Option Addr} {xs : List Value} (hr : RowI I e sz (.slice a n cp) n xs)
    (hw : want ops l ⟨some d, .slice t x none (some y) none, ty, pos, af, g⟩ = some true) (hN : Nat.blt d N = true)
    (hx : ev l x = some (.slice a n cp)) (hy : ev l y = some (.int .i64 (m : Int))) (hmn : m ≤ n)
    (k : RowI I e sz (.slice a m cp) m (xs.take (m * sz)) → WV P N ds ops X w KV os ((d, .slice a m cp) :: l)) :
    WV P N ds ops X w KV (⟨some d, .slice t x none (some y) none, ty, pos, af, g⟩ :: os) l := by
  have h2 : n ≤ cp := by
    obtain ⟨_, a', cap, h1, h2, _⟩ := hr
    obtain ⟨_, _, rfl⟩ := Value.slice.inj h1
    exact h2
  obtain ⟨inf, z, hinf, _, hs, _, _, _⟩ := Elem.out (P := P) (e := e)
  have h7 : m ≤ cp := by omega
  refine wv_value (v := .slice a m cp) rfl hw hN (fun w' _ c hc => ?_) (k (hr.take hmn))
  have h6 := run_underlying (P := P) (w := w') (TySlice.out (P := P) (t := t))
  rcases a with _ | ⟨b, off, o⟩
  · simp [execOp, Instr.sliceAt, Instr.slice, Instr.sliceBounds, Instr.sliceBound, hc.ev hx, hc.ev hy, h6, asIntOf, h7, sizeOf, typeInfo, hinf, hs]
  · simp [execOp, Instr.sliceAt, Instr.slice, Instr.sliceBounds, Instr.sliceBound, hc.ev hx, hc.ev hy, h6, asIntOf, h7, sizeOf, typeInfo, hinf, hs, Addr.add]
theorem iv_sliceFrom {KV : Act → Prop} {e : TypeId} {sz by_ : Nat} [TySlice P t e] [Elem P e sz by_] {n m cp : Nat} {a : Option Addr} {xs : List Value} (hr : RowI I e sz (.slice a n cp) n xs)
    (hw : want ops l ⟨some d, .slice t x (some y) none none, ty, pos, af, g⟩ = some true) (hN : Nat.blt d N = true)
    (hx : ev l x = some (.slice a n cp)) (hy : ev l y = some (.int .i64 (m : Int))) (hmn : m ≤ n)
    (k : ∀ a' cp', RowI I e sz (.slice a' (n - m) cp') (n - m) (xs.drop (m * sz)) → WV P N ds ops X w KV os ((d, .slice a' (n - m) cp') :: l)) :
    WV P N ds ops X w KV (⟨some d, .slice t x (some y) none none, ty, pos, af, g⟩ :: os) l := by
  have h2 : n ≤ cp := by
    obtain ⟨_, a', cap, h1, h2, _⟩ := hr
    obtain ⟨_, _, rfl⟩ := Value.slice.inj h1
    exact h2
  obtain ⟨inf, z, hinf, _, hs, _, _, _⟩ := Elem.out (P := P) (e := e)
  refine wv_value (v := .slice (if cp = m then a else a.map (fun p => p.add (m * sz))) (n - m) (cp - m)) rfl hw hN (fun w' _ c hc => ?_) (k _ _ (hr.drop hmn (by omega) (fun h => by
    have : cp ≠ m := by omega
    rw [if_neg this])))
  have h6 := run_underlying (P := P) (w := w') (TySlice.out (P := P) (t := t))
  rcases a with _ | ⟨b, off, o⟩
  · simp [execOp, Instr.sliceAt, Instr.slice, Instr.sliceBounds, Instr.sliceBound, hc.ev hx, hc.ev hy, h6, asIntOf, h2, hmn, sizeOf, typeInfo, hinf, hs]
  · simp [execOp, Instr.sliceAt, Instr.slice, Instr.sliceBounds, Instr.sliceBound, hc.ev hx, hc.ev hy, h6, asIntOf, h2, hmn, sizeOf, typeInfo, hinf, hs]
end
end Go.Fw
end
section
namespace Go.Fw
open Go
section
variable {P : Program} {N : Nat} {ds : List Deferred} {Q : Exit → Act → World → Prop} {l : Log} {w : World} {ops : Array Oper} {os : List Oper}
variable {d : Nat} {ty : TypeId} {pos : String} {af : Array Edge} {g : Option (Nat × Bool)} {t t' : TypeId} {x y : Operand}
theorem op_lss_str {s u : List UInt8} (hw : want ops l ⟨some d, .binOp .lss t x y t', ty, pos, af, g⟩ = some true) (hN : Nat.blt d N = true)
    (hx : ev l x = some (str s)) (hy : ev l y = some (str u)) (k : WL P N ds ops Q os ((d, .bool (decide (s < u))) :: l) w) :
    WL P N ds ops Q (⟨some d, .binOp .lss t x y t', ty, pos, af, g⟩ :: os) l w :=
  wl_value rfl hw hN (fun c hc => by simp [execOp, hc.ev hx, hc.ev hy, eqGuard, binOp, Op.stringOp, bytes_lt]) k
end
theorem rise_cells {r : List (List UInt8)} {ku : List UInt8} {k : Nat} (h : Sp.insT ku r = r.take k ++ ku :: r.drop k) :
    (([] ++ (r.flatMap encS).take (k * 1)) ++ [str ku]) ++ (r.flatMap encS).drop (k * 1) = (Sp.insT ku r).flatMap encS := by
  rw [h, flatS_ins, Nat.mul_one, List.nil_append, List.append_assoc]; rfl
end Go.Fw
namespace Go.Proofs.YtghommdgmglmdaaDoor
open Go.Fw
structure RsX where
  S : List Nat
  I : Imm
  r : List (List UInt8)
  a : Option Addr
  cp : Nat
set_option maxHeartbeats 16000000 in
theorem r_rising {b : Nat} {es : Ents} {c : List (List UInt8)} (he : Sp.SetE es c) (hc : Sp.Srt c) (hl : c.length ≤ 1000000000) (I : Imm) (hM : MapI I b es) :
    CalM Tryd.prog 10 #[.map (some b)] I [] (fun v J H' => ∃ a cp, v = .slice a c.length cp ∧ H' = [] ∧ RowI J 9 1 (.slice a c.length cp) c.length (c.flatMap encS)) := by
  refine CalM.of fun w E hm => enter (N := 43) Tryd.func10 rfl [(0, .map (some b))] args1 rfl ?_
  repeat' (first
  | (refine m_range (d := 8) hm (by rfl) (by rfl) (by rfl) (hm.mapI hM) ?_; clear hm; intro rb _ hm)
  | refine op_move (k:=?_)
  | refine op_assign (k:=?_)
  | refine wl_nil ?_
  | refine at_then_normal ?_
  | refine wc_seq ?_
  | refine wc_region ?_
  | refine wc_block ?_)
  refine wc_loop (fun x : RsX => [(3, .slice x.a x.r.length x.cp), (8, ptr rb)])
    (fun x w' => Mem E x.I [.it rb b es.length x.S] w' ∧ Le I x.I ∧ Sp.Risen es x.S x.r ∧ RowI x.I 9 1 (.slice x.a x.r.length x.cp) x.r.length (x.r.flatMap encS)) (fun x => leftN es.length x.S) ⟨[], I, [], none, 0⟩
    (by exact ⟨rfl, rfl, trivial⟩) ⟨hm, Le.refl _, Sp.Risen.start es, rowI_nil _ _ _ _ _⟩ ?_
  clear hm
  rintro ⟨S, I1, r, a, cp⟩ w1 ⟨hm, hle1, hri, hrow⟩
  dsimp only at hm hle1 hri hrow ⊢
  have hM1 := hM.le hle1
  have hrl : r.length ≤ c.length := Sp.srt_len hri.srt (fun x hx => by
    obtain ⟨j, v, _, hg⟩ := (hri.mem x).1 hx
    exact (he.mem x).1 (List.mem_map_of_mem (f := (·.1)) (List.mem_of_getElem? hg)))
  have hone : ∀ u ∈ r.flatMap encS, u.oneCell' = true := List.all_eq_true.1 (flatS_one r)
  repeat' (first
  | (refine m_next (d := 9) hm (by rfl) (by rfl) (by rfl) (by first | exact gt0 | exact gt1 | exact gt2 | exact gt3 | exact gt4 | exact gt5 | exact gt6) (hm.mapI hM1) (fun hall => ?_) ?_; rotate_left; intro j ku kv w2 hj hS hm2; obtain rfl : kv = .bool true := he.tru _ (List.mem_of_getElem? hj))
  | (refine m_entry (d := 11) hm2 (by rfl) (by rfl) (by rfl) (by first | exact gt0 | exact gt1 | exact gt2 | exact gt3 | exact gt4 | exact gt5 | exact gt6) (hm2.mapI hM1) hj ?_; clear hm; have hm := hm2; clear hm2; try simp only [setn] at hm)
  | refine op_move (k:=?_)
  | refine op_assign (k:=?_)
  | refine op_not (k:=?_)
  | refine op_extract (k:=?_)
  | refine wl_nil ?_
  | refine at_then_normal ?_
  | refine at_then_exit ?_
  | refine at_block_exit ?_
  | refine wc_seq ?_
  | refine wc_region ?_
  | refine wc_block ?_
  | refine wc_skip ?_
  | refine wc_exit ?_
  | refine wc_ret ?_
  | refine at_ret1 (h:=?_)
  | refine wc_cond_true (ht:=?_)
  | refine wc_cond_false (hf:=?_))
  · refine wc_loop (fun k : Nat => [(3, .slice a r.length cp), (4, str ku), (6, nt k), (8, ptr rb)])
      (fun k w' => Mem E I1 [.it rb b es.length (S ++ [j])] w' ∧ k ≤ r.length ∧ ∀ i x, i < k → r[i]? = some x → x < ku) (fun k => r.length - k) 0
      (by exact ⟨rfl, rfl, rfl, rfl, trivial⟩) ⟨hm, Nat.zero_le _, fun i _ hi => absurd hi (Nat.not_lt_zero i)⟩ ?_
    clear hm
    rintro k w3 ⟨hm, hk, hbf⟩
    try dsimp only at hm hk hbf ⊢
    by_cases hgo : ∃ y, r[k]? = some y ∧ y < ku
    · obtain ⟨y, hg, hy⟩ := hgo
      have hlt := (List.getElem?_eq_some_iff.1 hg).1
      repeat' (first
      | (refine i_indexFlat (d:=23) (enc:=encS) (z:=y) (hr:=hrow) (he:=fun _ => rfl) (hz:=by exact hg) (k:=?_); intro bz oz hpz)
      | refine op_lss_str (by rfl) (by rfl) (by rfl) (by rfl) ?_
      | refine i_load1z hm (k:=?_)
      | refine op_move (k:=?_)
      | refine op_assign (k:=?_)
      | refine op_pick_true (k:=?_)
      | refine op_lss (k:=?_)
      | refine op_len_slice (k:=?_)
      | refine op_add (k:=?_)
      | (refine wl_split_dec (h1:=fun _ => ?_) (h0:=fun _ => ?_)<;> (try first | contradiction | (exfalso; omega)))
      | refine wl_nil ?_
      | refine at_then_normal ?_
      | refine at_block_normal ?_
      | refine wc_seq ?_
      | refine wc_region ?_
      | refine wc_block ?_
      | refine wc_skip ?_
      | (refine wc_cond_dec (ht:=fun _ => ?_) (hf:=fun _ => ?_)<;> (try first | contradiction | (exfalso; omega))))
      all_goals try (exfalso; first | omega | contradiction)
      refine at_round (k + 1 : Nat) (by exact ⟨rfl, rfl, rfl, rfl, trivial⟩) ⟨hm, by omega, fun i x hi hx => ?_⟩ (by omega)
      rcases Nat.lt_or_ge i k with h | h
      · exact hbf i x h hx
      · obtain rfl : i = k := by omega
        rw [hg] at hx
        exact Option.some.inj hx ▸ hy
    · have hno : ∀ x, r[k]? = some x → ¬ x < ku := fun x hx hl => hgo ⟨x, hx, hl⟩
      clear hgo
      have hin := Sp.insT_at hk hbf hno
      rcases Nat.lt_or_ge k r.length with hlt | hge
      focus
        have hg : r[k]? = some r[k] := List.getElem?_eq_getElem hlt
        have hy := hno _ hg
        generalize r[k] = y at hg hy
        repeat' (first
        | refine wc_hold 9 ?_
        | (refine i_indexFlat (d:=23) (enc:=encS) (z:=y) (hr:=hrow) (he:=fun _ => rfl) (hz:=by exact hg) (k:=?_); intro bz oz hpz)
        | refine op_lss_str (by rfl) (by rfl) (by rfl) (by rfl) ?_
        | refine i_load1z hm (k:=?_)
        | refine op_move (k:=?_)
        | refine op_pick_true (k:=?_)
        | refine op_lss (k:=?_)
        | refine op_len_slice (k:=?_)
        | (refine wl_split_dec (h1:=fun _ => ?_) (h0:=fun _ => ?_)<;> (try first | contradiction | (exfalso; omega)))
        | refine wl_nil ?_
        | refine at_then_normal ?_
        | refine at_then_exit ?_
        | refine at_block_exit ?_
        | refine wc_seq ?_
        | refine wc_region ?_
        | refine wc_exit ?_
        | (refine wc_cond_dec (ht:=fun _ => ?_) (hf:=fun _ => ?_)<;> (try first | contradiction | (exfalso; omega))))
      rotate_left
      focus
        repeat' (first
        | refine wc_hold 9 ?_
        | refine op_move (k:=?_)
        | refine op_pick_false (k:=?_)
        | refine op_lss (k:=?_)
        | refine op_len_slice (k:=?_)
        | refine wl_skip (k:=?_)
        | (refine wl_split_dec (h1:=fun _ => ?_) (h0:=fun _ => ?_)<;> (try first | contradiction | (exfalso; omega)))
        | refine wl_nil ?_
        | refine at_then_normal ?_
        | refine at_then_exit ?_
        | refine at_block_exit ?_
        | refine wc_seq ?_
        | refine wc_region ?_
        | refine wc_exit ?_
        | refine wc_cond_false (hf:=?_))
      all_goals try (exfalso; first | omega | contradiction)
      all_goals refine ⟨?_⟩
      all_goals
        repeat' (first
        | (refine wc_fork_mem (id:=9) (hm.perm pm0) [1,2,3,5,8,9,10] 12 (h:=?_); clear hm; intro wd hR hm)
        | (refine iv_sliceTo (d := 33) hrow (by rfl) (by rfl) (by rfl) (by rfl) hk ?_; intro hrT)
        | (refine iv_sliceFrom (d := 40) hrow (by rfl) (by rfl) (by rfl) (by rfl) hk ?_; intro a40 cp40 hrF)
        | (refine mu_buildRow (d := 30) hm (by rfl) (by rfl) (by rfl) (by rfl) (by rfl) (by rfl) (by rfl) (by rfl) ?_; clear hm; intro b30 _ hm)
        | (refine mu_buildI (d := 36) hm (by rfl) (by rfl) (by rfl) (by rfl) (by rfl) (by rfl) (by rfl) ?_; clear hm; intro I36 a36 _ hle36 hm hr36)
        | (refine mu_appI (d := 34) hm (by rfl) (by rfl) (by rfl) (by rfl) (by first | exact gt0 | exact gt1 | exact gt2 | exact gt3 | exact gt4 | exact gt5 | exact gt6) (by first | exact hrT | exact hrT.le hle36) (fun u hu => hone u (List.mem_of_mem_take hu)) (by omega) (by omega) ?_; clear hm; intro a34 cp34 _ hm; try simp only [setn] at hm)
        | (refine mu_appI (d := 37) hm (by rfl) (by rfl) (by rfl) (by rfl) (by first | exact gt0 | exact gt1 | exact gt2 | exact gt3 | exact gt4 | exact gt5 | exact gt6) hr36 (by intro u hu; obtain rfl := List.mem_singleton.1 hu; rfl) (by omega) (by omega) ?_; clear hm; intro a37 cp37 _ hm; try simp only [setn] at hm)
        | (refine mu_appI (d := 41) hm (by rfl) (by rfl) (by rfl) (by rfl) (by first | exact gt0 | exact gt1 | exact gt2 | exact gt3 | exact gt4 | exact gt5 | exact gt6) (hrF.le hle36) (fun u hu => hone u (List.mem_of_mem_drop hu)) (by omega) (by omega) ?_; clear hm; intro a41 cp41 _ hm; try simp only [setn] at hm)
        | (refine wa_two (i:=0) (j:=6) (by decide +kernel) (h:=?_) (h2:=?_))
        | (refine wa_two (i:=4) (j:=6) (by decide +kernel) (h:=?_) (h2:=?_))
        | (refine wa_one (i:=0) (by decide +kernel) (h:=?_))
        | (refine wa_one (i:=4) (by decide +kernel) (h:=?_))
        | (refine wa_one (i:=6) (by decide +kernel) (h:=?_))
        | (refine wa_one (i:=7) (by decide +kernel) (h:=?_))
        | (refine wa_one (i:=11) (by decide +kernel) (h:=?_))
        | (refine wa_nil (by decide +kernel) ?_; replace hm := hR.back hm; clear hR; try simp only [setn] at hm)
        | refine wv_nilA ?_
        | refine op_assign (k:=?_)
        | refine wl_nil ?_
        | refine at_block_normal ?_
        | refine v_move (k:=?_))
      all_goals
        have hl41 : 0 + k + 1 + (r.length - k) = (Sp.insT ku r).length := by rw [Sp.insT_len]; omega
        rw [hl41] at hm ⊢
        obtain ⟨I5, hle5, hm5, hr5⟩ := hm.freeze
        have hr6 : RowI I5 9 1 (.slice a41 (Sp.insT ku r).length cp41) (Sp.insT ku r).length ((Sp.insT ku r).flatMap encS) := by
          rw [← rise_cells hin]; exact hr5
        exact at_round (⟨S ++ [j], I5, Sp.insT ku r, a41, cp41⟩ : RsX) (by exact ⟨rfl, rfl, trivial⟩) ⟨hm5, (hle1.trans hle36).trans hle5, hri.step hM.nodup hj hS, hr6⟩ (leftN_step (List.getElem?_eq_some_iff.1 hj).1 hS)
  · obtain rfl := hri.done he hc hall
    exact ⟨I1, [], ⟨a, cp, rfl, rfl, hrow⟩, hm.tl⟩
end Go.Proofs.YtghommdgmglmdaaDoor
end
