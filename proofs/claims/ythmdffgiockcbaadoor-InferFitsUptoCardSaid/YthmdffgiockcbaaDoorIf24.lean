/- Own work: texts FwMapP, SpecInf, SpecInf2, SpecStand, one behind the other. -/
import Derived.Test.YthmdffgiockcbaaDoorIf23
import Derived.WideKeyRuns
section
namespace Go.Fw
open Go
abbrev PK := Int × Int
abbrev numP (k : PK) : Value := .agg #[.int .i64 k.1, .int .i64 k.2]
def KeyI (P : Program) (it : TypeId) : Prop := P.underlying it = some (.int .i64) ∧ ∃ i, P.info? it = some i ∧ i.size = 1
def KeyOk (P : Program) (kt : TypeId) : Prop := ∃ it, P.underlying kt = some (.array 2 it) ∧ KeyI P it
class KeyP (P : Program) (t : TypeId) : Prop where out : KeyOk P t
abbrev EntsP := List (PK × Value)
def entsP (es : EntsP) (n : Nat) : List MapEntry := (es.zipIdx n).map (fun p => { key := numP p.1.1, val := p.1.2, born := p.2 })
structure MapAtP (w : World) (b : Nat) (es : EntsP) : Prop where
  out : w.heap[b]? = some (.map (entsP es 0).toArray es.length)
  nodup : (es.map (·.1)).Nodup
section
variable {P : Program} {N : Nat} {ds : List Deferred} {Q : Exit → Act → World → Prop} {l l' : Log} {w w' : World} {ops : Array Oper} {os : List Oper} {o : Oper}
variable {d : Nat} {ty : TypeId} {pos : String} {af : Array Edge} {g : Option (Nat × Bool)} {t t' : TypeId} {x y z : Operand} {E : Ent} {I : Imm} {H : List HItem}
def mlookP (es : EntsP) (s : PK) (z : Value) : Value := ((es.find? (fun p => decide (p.1 = s))).map (·.2)).getD z
theorem find_idxP (es : EntsP) (s : PK) : (es.findIdx? (fun p => decide (p.1 = s))).bind (fun i => (es[i]?).map (·.2)) = (es.find? (fun p => decide (p.1 = s))).map (·.2) := by
  induction es with
  | nil => rfl
  | cons p es ih =>
    rw [List.findIdx?_cons, List.find?_cons]
    cases hd : decide (p.1 = s) with
    | true => simp
    | false =>
      simp only [Bool.false_eq_true, if_false]
      rw [← ih]
      cases es.findIdx? (fun p => decide (p.1 = s)) <;> simp
theorem run_partP {it : TypeId} (h : KeyI P it) (a b : Int) (cs : Array Value) (i : Nat) (hc : cs[i]? = some (.int .i64 a)) : (part it cs i).run P w = .ok (.int .i64 a) w := by
  obtain ⟨h1, _⟩ := h
  have h2 := run_underlying (P := P) (w := w) h1
  simp [part, isAgg, h2, hc]
theorem run_eqInt {it : TypeId} (h : KeyI P it) (n : Nat) (a b : Int) : (Op.equalIn (n + 1) it (.int .i64 a) (.int .i64 b)).run P w = .ok (a == b) w := by
  have h2 := run_underlying (P := P) (w := w) h.1
  simp [Op.equalIn, h2]
theorem run_equalP {kt : TypeId} (hk : KeyOk P kt) (p q : PK) : (Op.equal kt (numP p) (numP q)).run P w = .ok (decide (q = p)) w := by
  obtain ⟨it, h1, h2⟩ := hk
  obtain ⟨i, hi, hs⟩ := h2.2
  have h3 := run_underlying (P := P) (w := w) h1
  have q1 := fun (a : Int) (cs : Array Value) (j : Nat) (hc : cs[j]? = some (.int .i64 a)) => run_partP (w := w) h2 a a cs j hc
  have e1 := run_eqInt (w := w) h2 9998 p.1 q.1
  have e2 := run_eqInt (w := w) h2 9998 p.2 q.2
  have a1 := q1 p.1 #[.int .i64 p.1, .int .i64 p.2] 0 rfl
  have a2 := q1 p.2 #[.int .i64 p.1, .int .i64 p.2] 1 rfl
  have b1 := q1 q.1 #[.int .i64 q.1, .int .i64 q.2] 0 rfl
  have b2 := q1 q.2 #[.int .i64 q.1, .int .i64 q.2] 1 rfl
  have hsz : (sizeOf it).run P w = .ok 1 w := by simp [sizeOf, typeInfo, hi, hs]
  show (Op.equalIn (9999 + 1) kt (numP p) (numP q)).run P w = _
  rw [Op.equalIn]
  have hr : ∀ x : Nat, (List.range' 0 2 1) = [0, 1] := fun _ => rfl
  simp only [Sem.run_bind, h3, Result.andThen_ok, hsz, Std.Legacy.Range.forIn_eq_forIn_range', Std.Legacy.Range.size, Nat.sub_zero, Nat.add_one_sub_one, Nat.div_one, hr 0, List.forIn_cons, List.forIn_nil, Nat.zero_mul, Nat.one_mul, a1, a2, b1, b2, e1, e2]
  have hq : decide (q = p) = (decide (p.1 = q.1) && decide (p.2 = q.2)) := by
    rw [Bool.eq_iff_iff]
    simp only [decide_eq_true_eq, Bool.and_eq_true]
    exact ⟨fun h => by rw [h]; exact ⟨rfl, rfl⟩, fun h => Prod.ext h.1.symm h.2.symm⟩
  rw [hq, beq_dec]
  cases decide (p.1 = q.1) with
  | false => simp [Sem.run_pure, Result.andThen_ok]
  | true =>
    simp only [Bool.not_true, Bool.false_eq_true, if_false, Sem.run_pure, Result.andThen_ok, Sem.run_bind, a2, b2, e2]
    rw [beq_dec]
    cases decide (p.2 = q.2) <;> simp [Sem.run_pure, Result.andThen_ok]
theorem run_findAskP {kt : TypeId} (hk : KeyOk P kt) (s : PK) : ∀ (es : EntsP) (n m : Nat),
    (Instr.findAsking kt (numP s) (entsP es n) m).run P w = .ok ((es.findIdx? (fun p => decide (p.1 = s))).bind (fun i => (es[i]?).map (fun p => (m + i, p.2)))) w
  | [], n, m => by simp [entsP, Instr.findAsking]
  | (u, v) :: es, n, m => by
    have ih := run_findAskP hk s es (n + 1) (m + 1)
    have he := run_equalP (w := w) hk s u
    simp only [entsP, List.zipIdx_cons, List.map_cons, Instr.findAsking, Sem.run_bind, he, Result.andThen_ok] at ih ⊢
    rw [List.findIdx?_cons]
    cases hd : decide (u = s) with
    | true => simp
    | false =>
      simp only [Bool.false_eq_true, if_false]
      rw [ih]
      congr 1
      cases hf : es.findIdx? (fun p => decide (p.1 = s)) with
      | none => simp
      | some i => simp [Nat.add_comm, Nat.add_left_comm]
theorem run_findKeyP {kt : TypeId} (hk : KeyOk P kt) (s : PK) (es : EntsP) (n : Nat) :
    (Instr.findKey kt (numP s) (entsP es n)).run P w = .ok ((es.findIdx? (fun p => decide (p.1 = s))).bind (fun i => (es[i]?).map (fun p => (0 + i, p.2)))) w := by
  have h0 := run_findAskP (w := w) hk s es n 0
  obtain ⟨it, h1, _⟩ := hk
  rw [run_findKey_eq w (by rw [h1]) (numP s) (entsP es n)]
  exact h0
theorem run_checkKeyP {kt : TypeId} (hk : KeyOk P kt) (s : PK) (b : Bool) : (Instr.checkKey b 10000 kt (numP s)).run P w = .ok () w := by
  obtain ⟨it, h1, h2⟩ := hk
  obtain ⟨i, hi, hs⟩ := h2.2
  have h3 := run_underlying (P := P) (w := w) h1
  have q1 := fun (a : Int) (cs : Array Value) (j : Nat) (hc : cs[j]? = some (.int .i64 a)) => run_partP (w := w) h2 a a cs j hc
  have a1 := q1 s.1 #[.int .i64 s.1, .int .i64 s.2] 0 rfl
  have a2 := q1 s.2 #[.int .i64 s.1, .int .i64 s.2] 1 rfl
  have hsz : (sizeOf it).run P w = .ok 1 w := by simp [sizeOf, typeInfo, hi, hs]
  have h4 := run_underlying (P := P) (w := w) h2.1
  have hc : ∀ a : Int, (Instr.checkKey b 9999 it (.int .i64 a)).run P w = .ok () w := fun a => by
    show (Instr.checkKey b (9998 + 1) it (.int .i64 a)).run P w = .ok () w
    rw [Instr.checkKey]
    simp [h4]
  show (Instr.checkKey b (9999 + 1) kt (numP s)).run P w = .ok () w
  rw [Instr.checkKey]
  have hr : (List.range' 0 2 1) = [0, 1] := rfl
  simp only [Sem.run_bind, h3, Result.andThen_ok, hsz, Std.Legacy.Range.forIn_eq_forIn_range', Std.Legacy.Range.size, Nat.sub_zero, Nat.add_one_sub_one, Nat.div_one, hr, List.forIn_cons, List.forIn_nil, Nat.zero_mul, Nat.one_mul, a1, a2, hc]
  simp only [Sem.run_pure, Result.andThen_ok, Sem.run_bind, hsz, a2, hc]
theorem same_numP (s : PK) : Instr.sameBits 10000 (numP s) (numP s) = true := by
  show Instr.sameBits (9999 + 1) (numP s) (numP s) = true
  simp [Instr.sameBits]
theorem op_insertP {kt et : TypeId} [TyMap P t kt et] [KeyP P kt] {b : Nat} {es : EntsP} {s : PK} {v : Value} {dst : Option Nat} (hd : dst = none) (hw : want ops l ⟨dst, .insert t x y z, ty, pos, af, g⟩ = some true)
    (hx : ev l x = some (.map (some b))) (hy : ev l y = some (numP s)) (hz : ev l z = some v) (hm : MapAtP w b es) (hs : (es.map (·.1)).contains s = false)
    (k : ∀ w', MapAtP w' b (es ++ [(s, v)]) → Kept [b] w w' → WL P N ds ops Q os l w') :
    WL P N ds ops Q (⟨dst, .insert t x y z, ty, pos, af, g⟩ :: os) l w :=
  wl_op hw fun a ha => by
    have h1 := run_underlying (P := P) (w := w) (TyMap.out (P := P) (t := t))
    have hk := KeyP.out (P := P) (t := kt)
    have h2 := run_findKeyP (P := P) (w := w) hk s es 0
    have h3 := run_checkKeyP (P := P) (w := w) hk s false
    have h4 := MapKept.run_getObj_map (P := P) hm.out
    have hnone : es.findIdx? (fun p => decide (p.1 = s)) = none := by
      rw [List.findIdx?_eq_none_iff]
      intro p hp
      have : s ∉ es.map (·.1) := by
        intro hc
        rw [List.contains_iff_mem.2 hc] at hs
        cases hs
      simp only [decide_eq_false_iff_not]
      rintro rfl
      exact this (List.mem_map_of_mem hp)
    subst hd
    rw [hnone] at h2
    have h5 := fun o' => MapKept.run_setObj_map (P := P) o' hm.out
    have e1 : (entsP (es ++ [(s, v)]) 0).toArray = (entsP es 0).toArray.push { key := numP s, val := v, born := es.length } := by
      simp [entsP, List.zipIdx_append]
    have hlt := lt_of_heap hm.out
    simp only [Oper.wp, execOp, Instr.mapUpdate, ha.ev hx, ha.ev hy, ha.ev hz, Sem.run_bind, h1, Result.andThen_ok, h4, h3, h2, Option.bind_none, h5, Oper.upon_skip, Act.put, Sem.run_pure]
    refine (k { w with heap := w.heap.setIfInBounds b (.map ((entsP es 0).toArray.push { key := numP s, val := v, born := es.length }) (es.length + 1)) } ⟨?_, ?_⟩ ⟨rfl, rfl, rfl, by simp, fun i hi hx => ?_⟩).run _ ha
    · rw [e1, List.length_append]
      simp [hlt]
    · rw [List.map_append, List.nodup_append]
      refine ⟨hm.nodup, by simp, fun a h1 b h2 => ?_⟩
      simp only [List.map_cons, List.map_nil, List.mem_singleton] at h2
      subst h2
      rintro rfl
      rw [List.contains_iff_mem.2 h1] at hs
      cases hs
    · have : b ≠ i := by rintro rfl; simp at hx
      simp [Array.getElem?_setIfInBounds_ne this]
theorem run_lookupP {kt et : TypeId} [TyMap P t kt et] [KeyP P kt] {b : Nat} {es : EntsP} {s : PK} {zv : Value} {a : Act} (ha : Fits N ds l a)
    (hx : ev l x = some (.map (some b))) (hy : ev l y = some (numP s)) (hm : w.heap[b]? = some (.map (entsP es 0).toArray es.length)) (hz : ∀ w, (zeroValue et).run P w = .ok zv w) :
    (execOp a.eval ⟨some d, .lookup t x y false, ty, pos, af, g⟩).run P w = .ok (.value (mlookP es s zv)) w := by
  have h1 := run_underlying (P := P) (w := w) (TyMap.out (P := P) (t := t))
  have hk := KeyP.out (P := P) (t := kt)
  have h2 := run_findKeyP (P := P) (w := w) hk s es 0
  have h3 := fun b => run_checkKeyP (P := P) (w := w) hk s b
  have h4 := MapKept.run_getObj_map (P := P) hm
  have h5 := find_idxP es s
  rw [mlookP, ← h5]
  cases hf : es.findIdx? (fun p => decide (p.1 = s)) with
  | none =>
    rw [hf] at h2
    simp [execOp, Instr.lookup, ha.ev hx, ha.ev hy, h1, h4, h3, h2, hz]
  | some i =>
    rw [hf] at h2
    have hi : i < es.length := by
      have := List.findIdx?_eq_some_iff_getElem.1 hf
      exact this.1
    have hg : es[i]? = some es[i] := List.getElem?_eq_getElem hi
    simp only [Option.bind_some, hg, Option.map_some] at h2
    simp [execOp, Instr.lookup, ha.ev hx, ha.ev hy, h1, h4, h3, h2, hg]
theorem op_lookupP {kt et : TypeId} [TyMap P t kt et] [KeyP P kt] {b : Nat} {es : EntsP} {s : PK} {zv : Value} (hw : want ops l ⟨some d, .lookup t x y false, ty, pos, af, g⟩ = some true) (hN : Nat.blt d N = true)
    (hx : ev l x = some (.map (some b))) (hy : ev l y = some (numP s)) (hm : MapAtP w b es) (hz : ∀ w, (zeroValue et).run P w = .ok zv w)
    (k : WL P N ds ops Q os ((d, mlookP es s zv) :: l) w) :
    WL P N ds ops Q (⟨some d, .lookup t x y false, ty, pos, af, g⟩ :: os) l w :=
  wl_value rfl hw hN (fun a ha => run_lookupP ha hx hy hm.out hz) k

abbrev HItem.mpp (b : Nat) (es : EntsP) : HItem := .obj b (.map (entsP es 0).toArray es.length)
theorem m_insertNewP {kt et : TypeId} [TyMap P t kt et] [KeyP P kt] {i b : Nat} {es : EntsP} {s : PK} {v : Value} {dst : Option Nat} (hm : Mem E I H w) (hd : dst = none) (hw : want ops l ⟨dst, .insert t x y z, ty, pos, af, g⟩ = some true)
    (hx : ev l x = some (.map (some b))) (hy : ev l y = some (numP s)) (hz : ev l z = some v) (hi : H[i]? = some (.mpp b es)) (hn : (es.map (·.1)).Nodup) (hs : (es.map (·.1)).contains s = false)
    (k : ∀ w', Mem E I (H.set i (.mpp b (es ++ [(s, v)]))) w' → WL P N ds ops Q os l w') :
    WL P N ds ops Q (⟨dst, .insert t x y z, ty, pos, af, g⟩ :: os) l w :=
  op_insertP hd hw hx hy hz ⟨hm.get hi, hn⟩ hs (fun w' h1 hk => k w' (hm.turn hi (by simpa [HItem.blk] using hk) h1.out (.inl rfl)))
theorem m_lookupP {kt et : TypeId} [TyMap P t kt et] [KeyP P kt] {i b : Nat} {es : EntsP} {s : PK} {zv : Value} (hm : Mem E I H w) (hw : want ops l ⟨some d, .lookup t x y false, ty, pos, af, g⟩ = some true) (hN : Nat.blt d N = true)
    (hx : ev l x = some (.map (some b))) (hy : ev l y = some (numP s)) (hi : H[i]? = some (.mpp b es)) (hn : (es.map (·.1)).Nodup) (hz : ∀ w, (zeroValue et).run P w = .ok zv w)
    (k : WL P N ds ops Q os ((d, mlookP es s zv) :: l) w) :
    WL P N ds ops Q (⟨some d, .lookup t x y false, ty, pos, af, g⟩ :: os) l w :=
  op_lookupP hw hN hx hy ⟨hm.get hi, hn⟩ hz k
def mputP (es : EntsP) (s : PK) (v : Value) : EntsP := match es.findIdx? (fun p => decide (p.1 = s)) with
  | some i => es.set i (s, v)
  | none => es ++ [(s, v)]
theorem ents_modifyP (es : EntsP) (i : Nat) (s : PK) (v : Value) : (entsP es 0).toArray.modify i (fun e => { e with key := numP s, val := v }) = (entsP (es.set i (s, v)) 0).toArray := by
  apply Array.ext_getElem?
  intro j
  rw [Array.getElem?_modify]
  simp only [entsP, List.getElem?_toArray, List.getElem?_map, List.getElem?_zipIdx, List.getElem?_set]
  by_cases h : i = j
  · subst h
    rw [if_pos rfl, if_pos rfl]
    by_cases h2 : i < es.length
    · rw [if_pos h2, List.getElem?_eq_getElem h2]; rfl
    · rw [if_neg h2, List.getElem?_eq_none (by omega)]; rfl
  · rw [if_neg h, if_neg h]
theorem mput_memP {es : EntsP} {s : PK} {v : Value} {p : PK × Value} (h : p ∈ mputP es s v) : p ∈ es ∨ p = (s, v) := by
  rw [mputP] at h
  split at h
  · rcases List.mem_or_eq_of_mem_set h with h | h
    · exact .inl h
    · exact .inr h
  · rcases List.mem_append.1 h with h | h
    · exact .inl h
    · exact .inr (List.mem_singleton.1 h)
theorem mput_nodupP {es : EntsP} {s : PK} {v : Value} (h : (es.map (·.1)).Nodup) : ((mputP es s v).map (·.1)).Nodup := by
  rw [mputP]
  cases hf : es.findIdx? (fun p => decide (p.1 = s)) with
  | some i =>
    obtain ⟨hi, hs, _⟩ := List.findIdx?_eq_some_iff_getElem.1 hf
    have hs' : es[i].1 = s := by simpa using hs
    have : (es.set i (s, v)).map (·.1) = es.map (·.1) := by
      apply List.ext_getElem?
      intro j
      simp only [List.getElem?_map, List.getElem?_set]
      split
      · rename_i h
        subst h
        rw [List.getElem?_eq_getElem hi]
        simp [hs']
      · rfl
    dsimp only
    rw [this]
    exact h
  | none =>
    dsimp only
    rw [List.map_append, List.nodup_append]
    refine ⟨h, by simp, fun a h1 b h2 => ?_⟩
    simp only [List.map_cons, List.map_nil, List.mem_singleton] at h2
    subst h2
    rintro rfl
    obtain ⟨p, hp, hps⟩ := List.mem_map.1 h1
    have := List.findIdx?_eq_none_iff.1 hf p hp
    simp [hps] at this
theorem m_putP {kt et : TypeId} [TyMap P t kt et] [KeyP P kt] {i b : Nat} {es : EntsP} {s : PK} {v : Value} {dst : Option Nat} (hm : Mem E I H w) (hd : dst = none) (hw : want ops l ⟨dst, .insert t x y z, ty, pos, af, g⟩ = some true)
    (hx : ev l x = some (.map (some b))) (hy : ev l y = some (numP s)) (hz : ev l z = some v) (hi : H[i]? = some (.mpp b es)) (hn : (es.map (·.1)).Nodup)
    (k : ∀ w', Mem E I (H.set i (.mpp b (mputP es s v))) w' → WL P N ds ops Q os l w') :
    WL P N ds ops Q (⟨dst, .insert t x y z, ty, pos, af, g⟩ :: os) l w := by
  cases hf : es.findIdx? (fun p => decide (p.1 = s)) with
  | none =>
    have hs : (es.map (·.1)).contains s = false := by
      rw [← Bool.not_eq_true, List.contains_iff_mem]
      intro h1
      obtain ⟨p, hp, hps⟩ := List.mem_map.1 h1
      have := List.findIdx?_eq_none_iff.1 hf p hp
      simp [hps] at this
    have e : mputP es s v = es ++ [(s, v)] := by rw [mputP, hf]
    rw [e] at k
    exact m_insertNewP hm hd hw hx hy hz hi hn hs k
  | some j =>
    obtain ⟨hj, hsj, _⟩ := List.findIdx?_eq_some_iff_getElem.1 hf
    have hsj' : es[j].1 = s := by simpa using hsj
    have e : mputP es s v = es.set j (s, v) := by rw [mputP, hf]
    rw [e] at k
    have hget := hm.get hi
    subst hd
    refine wl_op hw fun a ha => ?_
    have h1 := run_underlying (P := P) (w := w) (TyMap.out (P := P) (t := t))
    have hk := KeyP.out (P := P) (t := kt)
    have h2 := run_findKeyP (P := P) (w := w) hk s es 0
    have h3 := run_checkKeyP (P := P) (w := w) hk s false
    have h4 := MapKept.run_getObj_map (P := P) hget
    rw [hf] at h2
    have hg : es[j]? = some es[j] := List.getElem?_eq_getElem hj
    simp only [Option.bind_some, hg, Option.map_some, Nat.zero_add] at h2
    have h5 := fun o' => MapKept.run_setObj_map (P := P) o' hget
    have hkey : (entsP es 0).toArray[j]? = some { key := numP s, val := es[j].2, born := j } := by
      simp [entsP, List.getElem?_zipIdx, hg, hsj']
    have h6 : (Instr.keyThatStays (numP s) (numP s)).run P w = .ok (numP s) w := by
      have : Instr.sameBits 10000 (numP s) (numP s) = true := same_numP s
      simp [Instr.keyThatStays, this]
    have hb := lt_of_heap hget
    have hkept : Kept [b] w { w with heap := w.heap.setIfInBounds b (.map ((entsP es 0).toArray.modify j (fun e => { e with key := numP s, val := v })) es.length) } :=
      ⟨rfl, rfl, rfl, by simp, fun i hi hx => by
        have : b ≠ i := by rintro rfl; simp at hx
        simp [Array.getElem?_setIfInBounds_ne this]⟩
    have hm' := hm.turn (h' := .mpp b (es.set j (s, v))) hi (by simpa [HItem.blk] using hkept) (by
      show HItem.ok _ _
      have e2 := ents_modifyP es j s v
      simp only [HItem.ok, ← e2, List.length_set]
      simp [hb]) (.inl rfl)
    have h7 := (k _ hm').run _ ha
    simp only [Oper.wp, execOp, Instr.mapUpdate, ha.ev hx, ha.ev hy, ha.ev hz, Sem.run_bind, h1, Result.andThen_ok, h4, h3, h2, hkey, Option.map_some, Option.getD_some, h6, h5, Oper.upon_skip, Act.put, Sem.run_pure]
    simpa only [List.modify_toArray] using h7
end
end Go.Fw
end
section
namespace Go.Sp
/-- labels of lets that are open, by where they stand. -/
abbrev Lab := Nat → Nat
/-- a local: what its label is, or the open let whose label it has. -/
structure Li where
  name : List UInt8
  lab : Nat
  op : Option Nat
def Li.val (o : Lab) (l : Li) : Nat := match l.op with
  | none => l.lab
  | some f => o f
def lcOf (o : Lab) (sc : List Li) : List Lc := sc.map (fun l => ⟨l.name, l.val o⟩)
def findLi : List Li → List UInt8 → Option Li
  | [], _ => none
  | l :: sc, n => match findLi sc n with
    | some x => some x
    | none => if l.name = n then some l else none
def opsL (sc : List Li) : List Nat := sc.filterMap (·.op)
def upL (o : Lab) (f n : Nat) : Lab := fun g => if g = f then n else o g
abbrev LP := Lab × Bool
def raiseI (p : LP) (f n : Nat) : LP := if p.1 f ||| n = p.1 f then p else (upL p.1 f (p.1 f ||| n), true)
def raiseO (p : LP) (op : Option Nat) (n : Nat) : LP := match op with
  | none => p
  | some f => raiseI p f n
def opOf (o : Bool) (f : Nat) : Option Nat := if o = true then some f else none
def setI (p : LP) (sc : List Li) (nm : List UInt8) (n : Nat) : LP := match findLi sc nm with
  | some l => raiseO p l.op n
  | none => p
mutual
def stmI (its : List Itm) : Stm → List Li → Nat → LP → List Li × LP
  | .mk k nm _ lb o e thn els f _, sc, un, p =>
    if k = 1 then (sc ++ [⟨nm, lb, opOf o f⟩], raiseO p (opOf o f) (plainF its (lcOf p.1 sc) e ||| un)) else
    if k = 2 then (sc, setI p sc nm (plainF its (lcOf p.1 sc) e ||| un)) else
    if k = 3 ∨ k = 4 then (sc, (stmsI its els sc (plainF its (lcOf p.1 sc) e ||| un) (stmsI its thn sc (plainF its (lcOf p.1 sc) e ||| un) p).2).2) else (sc, p)
def stmsI (its : List Itm) : List Stm → List Li → Nat → LP → List Li × LP
  | [], sc, _, p => (sc, p)
  | x :: l, sc, un, p => stmsI its l (stmI its x sc un p).1 un (stmI its x sc un p).2
 end
mutual
def Stm.lets : Stm → List Nat
  | .mk k _ _ _ _ _ thn els f _ => (if k = 1 then [f] else []) ++ (letsS thn ++ letsS els)
def letsS : List Stm → List Nat
  | [] => []
  | x :: l => x.lets ++ letsS l
 end
def parsI (l : List Par) : List Li := l.map (fun p => ⟨p.name, p.label, none⟩)
def roundI (its : List Itm) (it : Itm) (o : Lab) : LP := (stmsI its it.body (parsI it.params) 0 (o, false)).2
def iterI (its : List Itm) (it : Itm) : Nat → Lab
  | 0 => fun _ => 0
  | k + 1 => (roundI its it (iterI its it k)).1
/-- labels with which nothing is raised any more. -/
def FixI (its : List Itm) (it : Itm) (o : Lab) : Prop := (∃ k, o = iterI its it k) ∧ roundI its it o = (o, false)
mutual
def fillS (o : Lab) : Stm → Stm
  | .mk k nm a lb op e thn els f t => .mk k nm a (if k = 1 ∧ op = true then o f else lb) (if k = 1 then false else op) e (fillL o thn) (fillL o els) f t
def fillL (o : Lab) : List Stm → List Stm
  | [] => []
  | x :: l => fillS o x :: fillL o l
 end
def itI (o : Lab) (it : Itm) : Itm := { it with body := fillL o it.body }
/-- an item, and what comes of it. -/
def Labd (its : List Itm) (it r : Itm) : Prop := (it.kind = 2 → ∃ o, FixI its it o ∧ r = itI o it) ∧ (it.kind ≠ 2 → r = it)
inductive AllTwo {α β : Type} (R : α → β → Prop) : List α → List β → Prop
  | nil : AllTwo R [] []
  | cons {a : α} {b : β} {l : List α} {r : List β} (h : R a b) (t : AllTwo R l r) : AllTwo R (a :: l) (b :: r)
theorem AllTwo.len {α β : Type} {R : α → β → Prop} : ∀ {l : List α} {r : List β}, AllTwo R l r → r.length = l.length
  | _, _, .nil => rfl
  | _, _, .cons _ t => by rw [List.length_cons, List.length_cons, t.len]
def LabsOf (its r : List Itm) : Prop := AllTwo (Labd its) its r

theorem fix_stay {its : List Itm} {it : Itm} {k : Nat} (h : roundI its it (iterI its it k) = (iterI its it k, false)) : ∀ j, iterI its it (k + j) = iterI its it k
  | 0 => rfl
  | j + 1 => by
    have ih := fix_stay h j
    show (roundI its it (iterI its it (k + j))).1 = _
    rw [ih, h]
theorem fix_uniq {its : List Itm} {it : Itm} {o o' : Lab} (h : FixI its it o) (h' : FixI its it o') : o = o' := by
  obtain ⟨⟨k, rfl⟩, hk⟩ := h
  obtain ⟨⟨j, rfl⟩, hj⟩ := h'
  rcases Nat.le_total k j with hle | hle
  · obtain ⟨d, rfl⟩ := Nat.le.dest hle
    rw [fix_stay hk]
  · obtain ⟨d, rfl⟩ := Nat.le.dest hle
    rw [fix_stay hj]
theorem labd_uniq {its : List Itm} {it a b : Itm} (ha : Labd its it a) (hb : Labd its it b) : a = b := by
  by_cases h : it.kind = 2
  · obtain ⟨o, h1, rfl⟩ := ha.1 h
    obtain ⟨o', h2, rfl⟩ := hb.1 h
    rw [fix_uniq h1 h2]
  · rw [ha.2 h, hb.2 h]
theorem labs_uniq {its : List Itm} : ∀ {l a b : List Itm}, AllTwo (Labd its) l a → AllTwo (Labd its) l b → a = b
  | _, _, _, .nil, .nil => rfl
  | _, _, _, .cons h1 t1, .cons h2 t2 => by rw [labd_uniq h1 h2, labs_uniq t1 t2]
/-! finding locals -/
theorem findLc_of (o : Lab) (n : List UInt8) : ∀ (sc : List Li), findLc (lcOf o sc) n = (findLi sc n).map (fun l => ⟨l.name, l.val o⟩)
  | [] => rfl
  | l :: sc => by
    have ih := findLc_of o n sc
    show findLc (⟨l.name, l.val o⟩ :: lcOf o sc) n = _
    rw [findLc, ih, findLi]
    cases findLi sc n with
    | some x => rfl
    | none =>
      simp only [Option.map_none]
      split <;> rfl
theorem findLi_mem {n : List UInt8} {x : Li} : ∀ {l : List Li}, findLi l n = some x → x ∈ l ∧ x.name = n
  | [], h => by cases h
  | a :: l, h => by
    rw [findLi] at h
    split at h
    · rename_i y hy
      cases h
      obtain ⟨h1, h2⟩ := findLi_mem hy
      exact ⟨List.mem_cons_of_mem _ h1, h2⟩
    · split at h
      · rename_i h2; cases h; exact ⟨List.mem_cons_self, h2⟩
      · cases h
theorem findLi_at {n : List UInt8} {x : Li} : ∀ {l : List Li} {i : Nat}, l[i]? = some x → x.name = n → (∀ j y, i < j → l[j]? = some y → y.name ≠ n) → findLi l n = some x
  | [], i, h, _, _ => by simp at h
  | a :: l, 0, h, hn, hl => by
    simp only [List.getElem?_cons_zero, Option.some.injEq] at h
    subst h
    have : findLi l n = none := by
      cases hf : findLi l n with
      | none => rfl
      | some y =>
        obtain ⟨hy, hyn⟩ := findLi_mem hf
        obtain ⟨j, hj⟩ := List.mem_iff_getElem?.1 hy
        exact absurd hyn (hl (j + 1) y (by omega) (by rw [List.getElem?_cons_succ]; exact hj))
    rw [findLi, this]
    simp [hn]
  | a :: l, i + 1, h, hn, hl => by
    rw [List.getElem?_cons_succ] at h
    rw [findLi, findLi_at h hn (fun j y hj hy => hl (j + 1) y (by omega) (by rw [List.getElem?_cons_succ]; exact hy))]
theorem findLi_none {n : List UInt8} : ∀ {l : List Li}, (∀ (j : Nat) y, l[j]? = some y → y.name ≠ n) → findLi l n = none := fun {l} h => by
  cases hf : findLi l n with
  | none => rfl
  | some y =>
    obtain ⟨hy, hyn⟩ := findLi_mem hf
    obtain ⟨j, hj⟩ := List.mem_iff_getElem?.1 hy
    exact absurd hyn (h j y hj)
/-! what stays -/
theorem stmI_eq (its : List Itm) (x : Stm) (sc : List Li) (un : Nat) (p : LP) : stmI its x sc un p =
    if x.kind = 1 then (sc ++ [⟨x.name, x.label, opOf x.opn x.fr⟩], raiseO p (opOf x.opn x.fr) (plainF its (lcOf p.1 sc) x.e ||| un)) else
    if x.kind = 2 then (sc, setI p sc x.name (plainF its (lcOf p.1 sc) x.e ||| un)) else
    if x.kind = 3 ∨ x.kind = 4 then (sc, (stmsI its x.els sc (plainF its (lcOf p.1 sc) x.e ||| un) (stmsI its x.thn sc (plainF its (lcOf p.1 sc) x.e ||| un) p).2).2) else (sc, p) := by
  cases x; rw [stmI]; rfl
theorem stmsI_app (its : List Itm) : ∀ (l r : List Stm) (sc : List Li) (un : Nat) (p : LP), stmsI its (l ++ r) sc un p = stmsI its r (stmsI its l sc un p).1 un (stmsI its l sc un p).2
  | [], r, sc, un, p => by rw [List.nil_append, stmsI]
  | e :: l, r, sc, un, p => by rw [List.cons_append, stmsI, stmsI, stmsI_app its l r]
theorem stmsI_step (its : List Itm) {l : List Stm} {k : Nat} {x : Stm} (h : l[k]? = some x) (sc : List Li) (un : Nat) (p : LP) :
    stmsI its (l.take (k + 1)) sc un p = stmI its x (stmsI its (l.take k) sc un p).1 un (stmsI its (l.take k) sc un p).2 := by
  rw [take_succ_get h, stmsI_app, stmsI, stmsI]
/-- labels are small. -/
def okL (p : LP) : Prop := ∀ f, p.1 f < 256
def okSc (sc : List Li) : Prop := ∀ l ∈ sc, l.lab < 256
theorem lcOf_lab {p : LP} {sc : List Li} (hp : okL p) (hs : okSc sc) : scLab (lcOf p.1 sc) := fun l hl => by
  obtain ⟨x, hx, rfl⟩ := List.mem_map.1 hl
  show x.val p.1 < 256
  rw [Li.val]
  split
  · exact hs x hx
  · exact hp _
theorem raiseI_ok {p : LP} (h : okL p) (f : Nat) {n : Nat} (hn : n < 256) : okL (raiseI p f n) := by
  rw [raiseI]
  split
  · exact h
  · intro g
    show upL p.1 f (p.1 f ||| n) g < 256
    rw [upL]
    split
    · exact or_lt (h f) hn
    · exact h g
theorem raiseO_ok {p : LP} (h : okL p) (f : Option Nat) {n : Nat} (hn : n < 256) : okL (raiseO p f n) := by
  cases f with
  | none => exact h
  | some f => exact raiseI_ok h f hn
theorem setI_ok {p : LP} (h : okL p) (sc : List Li) (nm : List UInt8) {n : Nat} (hn : n < 256) : okL (setI p sc nm n) := by
  rw [setI]; split
  · exact raiseO_ok h _ hn
  · exact h
mutual
theorem stmI_ok {its : List Itm} (hlab : itLab its) : ∀ (x : Stm) {sc : List Li} {un : Nat} {p : LP}, x.all anyP labS → okL p → okSc sc → un < 256 → okL (stmI its x sc un p).2 ∧ okSc (stmI its x sc un p).1
  | .mk k nm a lb o e thn els f t, sc, un, p, ha, hp, hs, hu => by
    rw [Stm.all] at ha
    obtain ⟨h1, h2, h3, h4⟩ := ha
    have hav := or_lt (plainF_lt hlab (lcOf_lab hp hs) e) hu
    rw [stmI]
    split
    · rename_i hk
      refine ⟨raiseO_ok hp _ hav, fun l hl => ?_⟩
      rcases List.mem_append.1 hl with hl | hl
      · exact hs l hl
      · obtain rfl := List.mem_singleton.1 hl
        exact h1
    · split
      · exact ⟨setI_ok hp _ _ hav, hs⟩
      · split
        · have q1 := stmsI_ok hlab thn h3 hp hs hav
          exact ⟨(stmsI_ok hlab els h4 q1.1 hs hav).1, hs⟩
        · exact ⟨hp, hs⟩
theorem stmsI_ok {its : List Itm} (hlab : itLab its) : ∀ (l : List Stm) {sc : List Li} {un : Nat} {p : LP}, stmsAll anyP labS l → okL p → okSc sc → un < 256 → okL (stmsI its l sc un p).2 ∧ okSc (stmsI its l sc un p).1
  | [], _, _, _, _, hp, hs, _ => by rw [stmsI]; exact ⟨hp, hs⟩
  | x :: l, sc, un, p, ha, hp, hs, hu => by
    rw [stmsAll] at ha
    have q1 := stmI_ok hlab x ha.1 hp hs hu
    rw [stmsI]
    exact stmsI_ok hlab l ha.2 q1.1 q1.2 hu
end
/-! how much is left -/
def potL (L : List Nat) (o : Lab) : Nat := (L.map (fun f => 256 - o f)).sum
theorem or_grow {a n : Nat} (h : a ||| n ≠ a) : a < a ||| n := by
  have h1 : a ≤ a ||| n := Nat.left_le_or
  omega
theorem upL_le {L : List Nat} {o : Lab} {f n : Nat} (h : o f ≤ n) : potL L (upL o f n) ≤ potL L o := by
  induction L with
  | nil => exact Nat.le_refl _
  | cons g L ih =>
    simp only [potL, List.map_cons, List.sum_cons] at ih ⊢
    have : 256 - upL o f n g ≤ 256 - o g := by
      rw [upL]; split
      · rename_i e; subst e; omega
      · exact Nat.le_refl _
    omega
theorem upL_lt {L : List Nat} {o : Lab} {f n : Nat} (hf : f ∈ L) (h : o f < n) (hn : o f < 256) : potL L (upL o f n) < potL L o := by
  induction L with
  | nil => cases hf
  | cons g L ih =>
    have h1 := upL_le (L := L) (o := o) (f := f) (n := n) (by omega)
    simp only [potL, List.map_cons, List.sum_cons] at ih h1 ⊢
    by_cases e : g = f
    · subst e
      have : upL o g n g = n := by rw [upL, if_pos rfl]
      rw [this]; omega
    · have h2 : upL o f n g = o g := by rw [upL, if_neg e]
      have := ih (by rcases List.mem_cons.1 hf with h | h; exact absurd h.symm e; exact h)
      rw [h2]; omega
/-- from here on: raised no lower; if at all, less is left. -/
structure Gone (L : List Nat) (p q : LP) : Prop where
  le : potL L q.1 ≤ potL L p.1
  lt : q.2 = true → p.2 = true ∨ potL L q.1 < potL L p.1
  same : q.2 = false → q = p
theorem Gone.refl (L : List Nat) (p : LP) : Gone L p p := ⟨Nat.le_refl _, .inl, fun _ => rfl⟩
theorem Gone.trans {L : List Nat} {p q r : LP} (h : Gone L p q) (g : Gone L q r) : Gone L p r :=
  ⟨Nat.le_trans g.le h.le, fun e => by
    have h1 := h.le
    have h2 := g.le
    rcases g.lt e with h3 | h3
    · rcases h.lt h3 with h4 | h4
      · exact .inl h4
      · exact .inr (by omega)
    · exact .inr (by omega), fun e => by
    have h1 := g.same e
    subst h1
    exact h.same e⟩
theorem raiseI_gone {L : List Nat} {p : LP} (hp : okL p) {f : Nat} (hf : f ∈ L) (n : Nat) : Gone L p (raiseI p f n) := by
  rw [raiseI]
  split
  · exact .refl _ _
  · rename_i h
    have h1 := or_grow h
    exact ⟨upL_le (by omega), fun _ => .inr (upL_lt hf h1 (hp f)), fun e => by cases e⟩
theorem raiseO_gone {L : List Nat} {p : LP} (hp : okL p) {f : Option Nat} (hf : ∀ g, f = some g → g ∈ L) (n : Nat) : Gone L p (raiseO p f n) := by
  cases f with
  | none => exact .refl _ _
  | some f => exact raiseI_gone hp (hf f rfl) n
def inL (L : List Nat) (sc : List Li) : Prop := ∀ f ∈ opsL sc, f ∈ L
theorem opsL_mem {sc : List Li} {l : Li} {f : Nat} (h : l ∈ sc) (e : l.op = some f) : f ∈ opsL sc := List.mem_filterMap.2 ⟨l, h, e⟩
theorem setI_gone {L : List Nat} {p : LP} (hp : okL p) {sc : List Li} (hs : inL L sc) (nm : List UInt8) (n : Nat) : Gone L p (setI p sc nm n) := by
  rw [setI]; split
  · rename_i l hl
    exact raiseO_gone hp (fun g hg => hs g (opsL_mem (findLi_mem hl).1 hg)) n
  · exact .refl _ _
theorem opsL_snoc (sc : List Li) (l : Li) : opsL (sc ++ [l]) = opsL sc ++ l.op.toList := by
  rw [opsL, List.filterMap_append, opsL]
  cases h : l.op <;> simp [h]
mutual
theorem stmI_gone {its : List Itm} (hlab : itLab its) {L : List Nat} : ∀ (x : Stm) {sc : List Li} {un : Nat} {p : LP}, x.all anyP labS → okL p → okSc sc → un < 256 → (∀ f ∈ x.lets, f ∈ L) → inL L sc → Gone L p (stmI its x sc un p).2 ∧ inL L (stmI its x sc un p).1
  | .mk k nm a lb o e thn els f t, sc, un, p, ha, hp, hs, hu, hL, hi => by
    rw [Stm.all] at ha
    obtain ⟨h1, h2, h3, h4⟩ := ha
    have hav := or_lt (plainF_lt hlab (lcOf_lab hp hs) e) hu
    rw [Stm.lets] at hL
    have hLt : ∀ f ∈ letsS thn, f ∈ L := fun g hg => hL g (List.mem_append_right _ (List.mem_append_left _ hg))
    have hLe : ∀ f ∈ letsS els, f ∈ L := fun g hg => hL g (List.mem_append_right _ (List.mem_append_right _ hg))
    rw [stmI]
    split
    · rename_i hk
      have hf : f ∈ L := hL f (by rw [if_pos hk]; exact List.mem_append_left _ List.mem_cons_self)
      have hop : ∀ g, opOf o f = some g → g ∈ L := fun g hg => by
        rw [opOf] at hg; split at hg
        · cases hg; exact hf
        · cases hg
      refine ⟨raiseO_gone hp hop _, fun g hg => ?_⟩
      rw [opsL_snoc] at hg
      rcases List.mem_append.1 hg with hg | hg
      · exact hi g hg
      · exact hop g (by simpa using hg)
    · split
      · exact ⟨setI_gone hp hi _ _, hi⟩
      · split
        · have q1 := stmsI_ok hlab thn h3 hp hs hav
          have g1 := stmsI_gone hlab thn h3 hp hs hav hLt hi
          exact ⟨g1.1.trans (stmsI_gone hlab els h4 q1.1 hs hav hLe hi).1, hi⟩
        · exact ⟨.refl _ _, hi⟩
theorem stmsI_gone {its : List Itm} (hlab : itLab its) {L : List Nat} : ∀ (l : List Stm) {sc : List Li} {un : Nat} {p : LP}, stmsAll anyP labS l → okL p → okSc sc → un < 256 → (∀ f ∈ letsS l, f ∈ L) → inL L sc → Gone L p (stmsI its l sc un p).2 ∧ inL L (stmsI its l sc un p).1
  | [], _, _, _, _, hp, hs, _, _, hi => by rw [stmsI]; exact ⟨.refl _ _, hi⟩
  | x :: l, sc, un, p, ha, hp, hs, hu, hL, hi => by
    rw [stmsAll] at ha
    rw [letsS] at hL
    have q1 := stmI_ok hlab x ha.1 hp hs hu
    have g1 := stmI_gone hlab x ha.1 hp hs hu (fun f hf => hL f (List.mem_append_left _ hf)) hi
    have g2 := stmsI_gone hlab l ha.2 q1.1 q1.2 hu (fun f hf => hL f (List.mem_append_right _ hf)) g1.2
    rw [stmsI]
    exact ⟨g1.1.trans g2.1, g2.2⟩
end
theorem parsI_ok {l : List Par} (h : ∀ p ∈ l, p.label < 256) : okSc (parsI l) := fun x hx => by
  obtain ⟨p, hp, rfl⟩ := List.mem_map.1 hx
  exact h p hp
theorem parsI_ops (l : List Par) : opsL (parsI l) = [] := by
  rw [opsL, parsI, List.filterMap_map]
  exact List.filterMap_eq_nil_iff.2 (fun _ _ => rfl)
/-- a round. -/
theorem roundI_ok {its : List Itm} {it : Itm} {o : Lab} (hlab : itLab its) (hb : stmsAll anyP labS it.body) (hp : ∀ p ∈ it.params, p.label < 256) (ho : ∀ f, o f < 256) :
    okL (roundI its it o) ∧ ((roundI its it o).2 = true → potL (letsS it.body) (roundI its it o).1 < potL (letsS it.body) o) ∧ ((roundI its it o).2 = false → (roundI its it o).1 = o) := by
  have h1 := stmsI_ok hlab it.body (sc := parsI it.params) (un := 0) (p := (o, false)) hb ho (parsI_ok hp) (by omega)
  have h2 := stmsI_gone hlab (L := letsS it.body) it.body (sc := parsI it.params) (un := 0) (p := (o, false)) hb ho (parsI_ok hp) (by omega) (fun _ h => h) (fun f hf => by rw [parsI_ops] at hf; cases hf)
  refine ⟨h1.1, fun e => ?_, fun e => ?_⟩
  · rcases h2.1.lt e with h | h
    · cases h
    · exact h
  · exact congrArg Prod.fst (h2.1.same e)
end Go.Sp
end
section
namespace Go.Sp
/-- places of tokens from 'a' on, ahead of 'b', one behind the other. -/
def InT (T : Src) (a b : Nat) (L : List Nat) : Prop := ∃ js : List Nat, js.Pairwise (· < ·) ∧ (∀ j ∈ js, a ≤ j ∧ j < b ∧ j < T.l.length) ∧ L = js.map (fun j => (T.tok j).pos)
theorem InT.nil (T : Src) (a b : Nat) : InT T a b [] := ⟨[], .nil, fun _ h => (by cases h), rfl⟩
theorem InT.one {T : Src} {a b : Nat} (h : a < b) (hl : a < T.l.length) : InT T a b [(T.tok a).pos] := ⟨[a], List.pairwise_singleton _ _, fun j hj => by obtain rfl := List.mem_singleton.1 hj; omega, rfl⟩
theorem InT.app {T : Src} {a b b' c : Nat} {L R : List Nat} (h : InT T a b L) (g : InT T b' c R) (hb : b ≤ b') (hab : a ≤ b) (hc : b' ≤ c) : InT T a c (L ++ R) := by
  obtain ⟨js, h1, h2, rfl⟩ := h
  obtain ⟨ks, g1, g2, rfl⟩ := g
  refine ⟨js ++ ks, List.pairwise_append.2 ⟨h1, g1, fun x hx y hy => ?_⟩, fun j hj => ?_, by rw [List.map_append]⟩
  · have := h2 x hx; have := g2 y hy; omega
  · rcases List.mem_append.1 hj with hj | hj
    · have := h2 j hj; omega
    · have := g2 j hj; omega
theorem InT.mono {T : Src} {a b a' b' : Nat} {L : List Nat} (h : InT T a b L) (ha : a' ≤ a) (hb : b ≤ b') : InT T a' b' L := by
  obtain ⟨js, h1, h2, rfl⟩ := h
  exact ⟨js, h1, fun j hj => (by have := h2 j hj; omega), rfl⟩
theorem letsS_app : ∀ (l r : List Stm), letsS (l ++ r) = letsS l ++ letsS r
  | [], r => by rw [List.nil_append, letsS, List.nil_append]
  | x :: l, r => by rw [List.cons_append, letsS, letsS, letsS_app l r, List.append_assoc]
theorem letsS_one (x : Stm) : letsS [x] = x.lets := by rw [letsS, letsS, List.append_nil]
theorem lets_none {k : Nat} {nm : List UInt8} {a lb : Nat} {o : Bool} {e : Ex} {f t : Nat} (hk : k ≠ 1) : (Stm.mk k nm a lb o e [] [] f t).lets = [] := by rw [Stm.lets, if_neg hk, letsS]; rfl
theorem lets_block (T : Src) : ∀ f, (∀ d s, InT T s.i (block T f d s).2.i (letsS (block T f d s).1)) ∧ (∀ d l s a, a ≤ s.i → InT T a s.i (letsS l) → InT T a (stmL T f d l s).2.i (letsS (stmL T f d l s).1)) ∧
    (∀ d s, InT T s.i (stm T f d s).2.i (stm T f d s).1.lets)
  | 0 => ⟨fun _ _ => by rw [block]; dsimp only; rw [letsS]; exact .nil _ _ _, fun _ _ _ _ _ h => by rw [stmL]; exact h,
      fun _ s => by rw [stm]; show InT T s.i s.i (Stm.mk 0 [] 0 0 false (.mk 0 [] 0 [] 0 0) [] [] 0 0).lets; rw [lets_none (by decide)]; exact .nil _ _ _⟩
  | f + 1 => by
    obtain ⟨hB, hL, hS⟩ := lets_block T f
    obtain ⟨gB, gL, gS⟩ := goes_block T f
    have gE := (goes_expr T f).2.2.1
    refine ⟨fun d s => ?_, fun d l s a ha h => ?_, fun d s => ?_⟩
    · rw [block]
      split
      · dsimp only; rw [letsS]; exact .nil _ _ _
      · split
        · dsimp only; rw [letsS]; exact .nil _ _ _
        · have h1 := hL (d + 1) [] s.next s.next.i (Nat.le_refl _) (by rw [letsS]; exact .nil _ _ _)
          have h3 := need_le T (stmL T f (d + 1) [] s.next).2 [125]
          exact h1.mono (by rw [next_i]; omega) h3
    · rw [stmL]
      split
      · exact h
      · split
        · exact h
        · have h1 := hS d s
          have h2 := (gS d s).le
          try dsimp only
          have h3 : InT T a (stm T f d s).2.i (letsS (l ++ [(stm T f d s).1])) := by
            rw [letsS_app, letsS_one]
            exact h.app h1 (Nat.le_refl _) ha h2
          split
          · rename_i he
            exact hL d _ _ a (by rw [next_i]; omega) (h3.mono (Nat.le_refl _) (by rw [next_i]; omega))
          · exact hL d _ _ a (by omega) h3
    · rw [stm]
      dsimp only
      split
      · rename_i hlet
        have hlt : s.i < T.l.length := tok_lt (by rw [hlet]; decide)
        have h1 := (goes_named T s.next).le
        rw [next_i] at h1
        generalize s.next.named T = r at h1 ⊢
        generalize hr1 : (if (!T.is r.2.i [58]) = true then (0, r.2) else lab T r.2.next) = r1
        have h2 : r.2.i ≤ r1.2.i := by
          rw [← hr1]
          split
          · exact Nat.le_refl _
          · have := (goes_lab T r.2.next).le
            rw [next_i] at this
            omega
        have h3 := need_le T r1.2 [61]
        have h5 := (gE d 1 (r1.2.need T [61]).2).le
        have h6 := need_le T (expr T f d 1 (r1.2.need T [61]).2).2 [59]
        try dsimp only
        rw [Stm.lets, letsS, if_pos rfl]
        exact InT.one (by omega) hlt
      · split
        · have h2 := (gE d 1 s.next).le
          rw [next_i] at h2
          generalize expr T f d 1 s.next = r at h2 ⊢
          have h3 := hB d r.2
          have h4 := (gB d r.2).le
          generalize block T f d r.2 = r1 at h3 h4 ⊢
          split
          · have h5 := hB d r1.2.next
            have h6 := (gB d r1.2.next).le
            rw [next_i] at h5 h6
            try dsimp only
            rw [Stm.lets, if_neg (by decide), List.nil_append]
            exact (h3.app h5 (by omega) (by omega) (by omega)).mono (by omega) (Nat.le_refl _)
          · try dsimp only
            rw [Stm.lets, letsS, if_neg (by decide), List.nil_append, List.append_nil]
            exact h3.mono (by omega) (Nat.le_refl _)
        · split
          · have h2 := (gE d 1 s.next).le
            rw [next_i] at h2
            generalize expr T f d 1 s.next = r at h2 ⊢
            have h3 := hB d r.2
            try dsimp only
            rw [Stm.lets, letsS, if_neg (by decide), List.nil_append, List.append_nil]
            exact h3.mono (by omega) (Nat.le_refl _)
          · split
            · try dsimp only
              rw [lets_none (by decide)]; exact .nil _ _ _
            · split
              · try dsimp only
                rw [lets_none (by decide)]; exact .nil _ _ _
              · split
                · split
                  · try dsimp only
                    rw [lets_none (by decide)]; exact .nil _ _ _
                  · try dsimp only
                    rw [lets_none (by decide)]; exact .nil _ _ _
                · show InT T s.i _ (Stm.mk _ _ _ _ _ _ [] [] _ _).lets
                  rw [lets_none (by decide)]; exact .nil _ _ _
theorem inT_nodup {src : List UInt8} {a b : Nat} {L : List Nat} (ha : 1 ≤ a) (h : InT ⟨tokens src, src.length⟩ a b L) : L.Nodup ∧ 0 ∉ L := by
  obtain ⟨js, h1, h2, rfl⟩ := h
  have hs := List.pairwise_iff_getElem.1 (tokens_sorted src)
  have key : ∀ i j, i < j → j < (tokens src).length → ((Src.mk (tokens src) src.length).tok i).pos < ((Src.mk (tokens src) src.length).tok j).pos := fun i j hij hj => by
    have hi : i < (tokens src).length := by omega
    have h3 := hs i j hi hj hij
    have h4 := (tokens_ok src _ (List.getElem_mem hi)).len
    rw [Src.tok, Src.tok]
    dsimp only
    rw [List.getD_eq_getElem?_getD, List.getD_eq_getElem?_getD, List.getElem?_eq_getElem hi, List.getElem?_eq_getElem hj]
    show (tokens src)[i].pos < (tokens src)[j].pos
    omega
  refine ⟨?_, fun h0 => ?_⟩
  · rw [List.Nodup, List.pairwise_map]
    refine h1.imp_of_mem (fun {x y} hx hy hxy => ?_)
    have := key x y hxy (h2 y hy).2.2
    omega
  · obtain ⟨j, hj, e⟩ := List.mem_map.1 h0
    have := h2 j hj
    have := key 0 j (by omega) this.2.2
    omega
theorem item_lets (src : List UInt8) (at_ : Int) : (letsS (item src at_).body).Nodup ∧ 0 ∉ letsS (item src at_).body := by
  have hnil : (letsS []).Nodup ∧ 0 ∉ letsS [] := by rw [letsS]; exact ⟨List.nodup_nil, fun h => (by cases h)⟩
  rw [item]
  generalize hT : (⟨tokens src, src.length⟩ : Src) = T
  dsimp only
  split
  · rename_i hfn
    have h0 := is_lt hfn
    dsimp only [fnItm]
    have h1 := goes_named T ⟨1, []⟩
    have t1 := h1.top (show 1 ≤ _ by omega)
    have l1 : 1 ≤ _ := h1.le
    generalize (⟨1, []⟩ : St).named T = r at t1 l1 ⊢
    have t2 := need_top [40] t1
    have l2 := need_le T r.2 [40]
    generalize (r.2.need T [40]).2 = s1 at t2 l2 ⊢
    have h3 := (parL_few T 6 [] s1 (by simp)).2 t2
    generalize parL T 6 [] s1 = r2 at h3 ⊢
    have t4 := need_top [41] h3.2.1
    have l4 := need_le T r2.2 [41]
    generalize (r2.2.need T [41]).2 = s3 at t4 l4 ⊢
    have t5 := need_top [58] t4
    have l5 := need_le T s3 [58]
    generalize (s3.need T [58]).2 = s4 at t5 l5 ⊢
    have g6 := goes_lab T s4
    have t6 := g6.top t5
    have l6 := g6.le
    clear g6
    generalize lab T s4 = r5 at t6 l6 ⊢
    generalize hr6 : (if T.is r5.2.i [115, 101, 110, 100, 115] = true then sndL T 6 [] r5.2.next else ([], r5.2)) = r6
    have l7 : r5.2.i ≤ r6.2.i := by
      rw [← hr6]
      split
      · rename_i hs
        have := is_lt hs
        have := ((sndL_few T 6 [] r5.2.next (by simp)).2 (by rw [next_i]; omega)).1
        rw [next_i] at this
        omega
      · exact Nat.le_refl _
    have h8 := (lets_block T (fuel T)).1 0 r6.2
    have h9 := h3.1
    subst hT
    exact inT_nodup (by omega) h8
  · split
    · exact hnil
    · exact hnil
end Go.Sp
end
section
namespace Go.Sp
/-- a name stands there. -/
def stands (s : List UInt8) (a : Nat) (n : List UInt8) : Prop := a + n.length ≤ s.length ∧ (s.drop a).take n.length = n
def stE (s : List UInt8) : PE := fun k nm _ _ f _ => (k = 2 ∨ k = 4) → stands s f nm
def stS (s : List UInt8) : PS := fun k nm a _ _ _ _ => (k = 1 ∨ k = 2 ∨ k = 5) → stands s a nm
/-- names of an item stand in the text. -/
structure ItS (s : List UInt8) (p : Nat) (q : List UInt8) (it : Itm) : Prop where
  at_ : it.at_ = p
  sub : ∀ a n, stands q a n → stands s (p + a) n
  body : stmsAll (stE q) (stS q) it.body
  params : ∀ x ∈ it.params, stands q x.at_ x.name
  sends : ∀ x ∈ it.sends, stands q x.at_ x.name
  mark : stands q it.mark it.name
/-- a use: the name stands there, and where it is made. -/
def UseOk (s : List UInt8) (u : Us) : Prop := ∃ f d n, u.fr = ((f : Nat) : Int) ∧ u.to = ((f + n.length : Nat) : Int) ∧ u.df = ((d : Nat) : Int) ∧ n ≠ [] ∧ stands s f n ∧ stands s d n
def NW.ok (s : List UInt8) (w : NW) : Prop := ∀ u ∈ w.us, UseOk s u
end Go.Sp
end
