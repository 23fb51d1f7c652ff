/- Own work: the executor's rules: variables, fields, elements, slices that grow. -/
import Derived.Test.YtgoglhmnfiehoaaDoorFwMem
import Derived.Laws.AppendOwn
import Derived.Laws.CopyRow
namespace Go.Fw
open Go

/-- field 'i' of a struct type: so many cells in. -/
class Fld (P : Program) (t : TypeId) (i : Nat) (off : outParam Nat) : Prop where
  out : ∃ fs f inf, P.underlying t = some (.struct fs) ∧ fs[i]? = some f ∧ f.offset = off ∧ P.info? f.type = some inf ∧ inf.size ≠ 0

def elemB (P : Program) (e : TypeId) (size bytes : Nat) : Bool :=
  match P.info? e with
  | some i => match i.zero with
    | some z => i.size == size && i.bytes == bytes && z.cells.size == size && Nat.blt 0 size
    | none => false
  | none => false
theorem Elem.of {P : Program} {e : TypeId} {size bytes : Nat} (h : elemB P e size bytes = true) : Elem P e size bytes := by
  unfold elemB at h
  split at h
  · rename_i i hi
    split at h
    · rename_i z hz
      simp only [Bool.and_eq_true, beq_iff_eq, Nat.blt_eq] at h
      exact ⟨i, z, hi, hz, h.1.1.1, h.1.1.2, h.1.2, h.2⟩
    · cases h
  · cases h
def oneB (P : Program) (t : TypeId) : Bool := match P.underlying t with
  | some d => !isAggD d
  | none => false
theorem TyOne.of {P : Program} {t : TypeId} (h : oneB P t = true) : TyOne P t := by
  unfold oneB at h
  split at h
  · rename_i d hd; exact ⟨d, hd, by simpa using h⟩
  · cases h
def aggB (P : Program) (t : TypeId) (size : Nat) : Bool := match P.underlying t, P.info? t with
  | some d, some i => isAggD d && i.size == size
  | _, _ => false
theorem TyAgg.of {P : Program} {t : TypeId} {size : Nat} (h : aggB P t size = true) : TyAgg P t size := by
  unfold aggB at h
  split at h
  · rename_i d i hd hi; simp only [Bool.and_eq_true, beq_iff_eq] at h; exact ⟨d, i, hd, h.1, hi, h.2⟩
  · cases h
def ownB (P : Program) (f : FuncId) : Bool := match P.funcs[f]? with
  | some fn => !(fn.name == "runtime.NumGoroutine") && !fn.body.isNone
  | none => false
theorem Own.of {P : Program} {f : FuncId} (h : ownB P f = true) : Own P f := by
  unfold ownB at h
  split at h
  · rename_i fn hf; simp only [Bool.and_eq_true, Bool.not_eq_true'] at h; exact ⟨fn, hf, h.1, h.2⟩
  · cases h
def fldB (P : Program) (t : TypeId) (i off : Nat) : Bool := match P.underlying t with
  | some (.struct fs) => match fs[i]? with
    | some f => f.offset == off && (match P.info? f.type with | some inf => inf.size != 0 | none => false)
    | none => false
  | _ => false
theorem Fld.of {P : Program} {t : TypeId} {i off : Nat} (h : fldB P t i off = true) : Fld P t i off := by
  unfold fldB at h
  split at h
  · rename_i fs hd
    split at h
    · rename_i f hf
      simp only [Bool.and_eq_true, beq_iff_eq] at h
      obtain ⟨h1, h2⟩ := h
      split at h2
      · rename_i inf hi; exact ⟨fs, f, inf, hd, hf, h1, hi, by simpa using h2⟩
      · cases h2
    · cases h
  · cases h

/-- a struct type: where each field's cells lie, and how many; the zero value's cells. -/
class StructT (P : Program) (t : TypeId) (places : outParam (List (Nat × Nat))) (zero : outParam (List Value)) : Prop where
  out : ∃ fs, P.underlying t = some (.struct fs) ∧ (fs.toList.mapM fun f => (P.info? f.type).map fun i => (f.offset, i.size)) = some places ∧
    (P.info? t).bind (·.zero) = some (.agg zero.toArray)
def placesB (P : Program) (t : TypeId) : Option (List (Nat × Nat)) := match P.underlying t with
  | some (.struct fs) => fs.toList.mapM fun f => (P.info? f.type).map fun i => (f.offset, i.size)
  | _ => none
theorem StructT.of {P : Program} {t : TypeId} {places : List (Nat × Nat)} {zero : List Value} (h : placesB P t = some places) (hz : (P.info? t).bind (·.zero) = some (.agg zero.toArray)) :
    StructT P t places zero := by
  unfold placesB at h
  split at h
  · rename_i fs hd; exact ⟨fs, hd, h, hz⟩
  · cases h
/-- the parts, each in its place. -/
def bld (places : List (Nat × Nat)) (cs : List Value) : List (Nat × Value) → Option (List Value)
  | [] => some cs
  | (i, v) :: ps => match places[i]? with
    | some (off, n) => bif Nat.beq v.cells.toList.length n && Nat.ble (off + n) cs.length then bld places (cs.take off ++ (v.cells.toList ++ cs.drop (off + n))) ps else none
    | none => none

section
variable {P : Program} {N : Nat} {ds : List Deferred} {Q : Exit → Act → World → Prop} {l l' : Log} {w w' : World} {ops : Array Oper} {os : List Oper} {o : Oper}
variable {d : Nat} {ty : TypeId} {pos : String} {af : Array Edge} {g : Option (Nat × Bool)} {t t' : TypeId} {x y : Operand}

theorem Kept.setRow {b : Nat} {c : Array Value} {e : TypeId} {fr : Nat × Nat} (_hb : w.heap[b]? = some (.cells c e fr)) (c' : Array Value) : Kept [b] w (w.setRow b c') :=
  ⟨rfl, rfl, rfl, by simp, fun k _ hx => setRow_other w b k c' (by simpa using hx)⟩

theorem run_storeVar {b off n by_ : Nat} [Elem P t n by_] {c : Array Value} {e : TypeId} (v : Value) (hb : w.heap[b]? = some (.cells c e (0, 0))) (hn : v.cells.size = n) (ho : off + n ≤ c.size)
    (h1 : v.cells.toList.all (·.oneCell') = true) :
    (storeVar t ⟨b, off, none⟩ v).run P w = .ok () (w.setRow b (c.toList.take off ++ v.cells.toList ++ c.toList.drop (off + n)).toArray) := by
  obtain ⟨i, z, hi, _, hs, _, _, _⟩ := Elem.out (P := P) (e := t)
  have h2 := run_storeCells_at P b off e v.cells.toList 0 c w hb (by simp [hn]; omega) (fun u hu => List.all_eq_true.1 h1 u hu)
  simp only [Nat.add_zero, Array.length_toList, hn] at h2
  simp [storeVar, sizeOf, typeInfo, hi, hs, hn, h2]

theorem op_store {b off n by_ : Nat} [Elem P t n by_] {c : Array Value} {e : TypeId} {v : Value} {dst : Option Nat} (hd : dst = none) (hw : want ops l ⟨dst, .store t x y, ty, pos, af, g⟩ = some true)
    (hx : ev l x = some (.pointer (some ⟨b, off, none⟩))) (hy : ev l y = some v) (hb : w.heap[b]? = some (.cells c e (0, 0))) (hn : v.cells.size = n) (ho : off + n ≤ c.size)
    (h1 : v.cells.toList.all (·.oneCell') = true)
    (k : ∀ w', w'.heap[b]? = some (.cells (c.toList.take off ++ v.cells.toList ++ c.toList.drop (off + n)).toArray e (0, 0)) → Kept [b] w w' → WL P N ds ops Q os l w') :
    WL P N ds ops Q (⟨dst, .store t x y, ty, pos, af, g⟩ :: os) l w :=
  wl_op hw fun a ha => by
    have h2 := run_storeVar (P := P) (t := t) v hb hn ho h1
    subst hd
    simp only [Oper.wp, execOp, Instr.storeAt, Instr.sureAddr, ha.ev hx, ha.ev hy]
    simp only [Sem.run_bind, Sem.run_pure, Result.andThen, h2, Oper.upon_skip, Act.put]
    exact (k _ (setRow_heap w b c _ e (0, 0) hb) (Kept.setRow hb _)).run _ ha

def neTmp : Operand → Nat → Bool
  | .tmp t, d => !(Nat.beq t d)
  | _, _ => true
theorem ev_ne {d : Nat} {v u : Value} {x : Operand} (h : neTmp x d = true) (hx : ev l x = some v) : ev ((d, u) :: l) x = some v := by
  cases x with
  | tmp t =>
    have : Nat.beq t d = false := by simpa [neTmp] using h
    simp only [ev, lk, this, cond_false]; exact hx
  | const c => exact hx
  | global c => exact hx
  | func c => exact hx
/-- a variable of its own: 'alloc', and what it begins with. -/
theorem op_var {n by_ : Nat} [Elem P t n by_] {v : Value} {ty' : TypeId} {pos' : String} {af' : Array Edge} (hN : Nat.blt d N = true)
    (hy : ev l y = some v) (hne : neTmp y d = true) (hn : v.cells.size = n) (h1 : v.cells.toList.all (·.oneCell') = true)
    (k : ∀ b w', b = w.heap.size → w'.heap[b]? = some (.cells v.cells t (0, 0)) → Kept [] w w' → WL P N ds ops Q os ((d, .pointer (some ⟨b, 0, none⟩)) :: l) w') :
    WL P N ds ops Q (⟨some d, .alloc t, ty, pos, af, none⟩ :: ⟨none, .store t (.tmp d) y, ty', pos', af', none⟩ :: os) l w := by
  obtain ⟨i, z, hi, hz, hs, _, hzc, _⟩ := Elem.out (P := P) (e := t)
  refine wl_value (w' := w.alloc (.cells z.cells t (0, 0))) (v := .pointer (some ⟨w.heap.size, 0, none⟩)) rfl rfl hN (fun a ha => ?_) ?_
  · simp [execOp, Instr.alloc, newVar, newRow, newObj, zeroValue, typeInfo, hi, hz]; rfl
  · have hy' : ev ((d, .pointer (some ⟨w.heap.size, 0, none⟩)) :: l) y = some v := ev_ne hne hy
    refine op_store (off := 0) rfl rfl (by simp [ev, lk]) hy' (heap_alloc_new w _) hn (by rw [hzc]; omega) h1 (fun w' hb hk => ?_)
    refine k w.heap.size w' rfl ?_ ((Kept.alloc w _).step hk (fun x hx => .inr (by simp at hx; omega)))
    have e1 : List.drop (0 + n) z.cells.toList = [] := by rw [Nat.zero_add, ← hzc]; simp
    rw [hb, e1]
    simp

theorem op_alloc {n by_ : Nat} [Elem P t n by_] (hw : want ops l ⟨some d, .alloc t, ty, pos, af, g⟩ = some true) (hN : Nat.blt d N = true)
    (k : ∀ b w' zc, b = w.heap.size → zc.size = n → w'.heap[b]? = some (.cells zc t (0, 0)) → Kept [] w w' → WL P N ds ops Q os ((d, .pointer (some ⟨b, 0, none⟩)) :: l) w') :
    WL P N ds ops Q (⟨some d, .alloc t, ty, pos, af, g⟩ :: os) l w := by
  obtain ⟨i, z, hi, hz, hs, _, hzc, _⟩ := Elem.out (P := P) (e := t)
  refine wl_value (w' := w.alloc (.cells z.cells t (0, 0))) (v := .pointer (some ⟨w.heap.size, 0, none⟩)) rfl hw hN (fun a ha => ?_) (k w.heap.size _ _ rfl hzc (heap_alloc_new w _) (Kept.alloc w _))
  simp [execOp, Instr.alloc, newVar, newRow, newObj, zeroValue, typeInfo, hi, hz]; rfl
theorem op_store_all {b n by_ : Nat} [Elem P t n by_] {c : Array Value} {e : TypeId} {v : Value} {dst : Option Nat} (hd : dst = none) (hw : want ops l ⟨dst, .store t x y, ty, pos, af, g⟩ = some true)
    (hx : ev l x = some (.pointer (some ⟨b, 0, none⟩))) (hy : ev l y = some v) (hb : w.heap[b]? = some (.cells c e (0, 0))) (hn : v.cells.size = n) (ho : c.size = n)
    (h1 : v.cells.toList.all (·.oneCell') = true)
    (k : ∀ w', w'.heap[b]? = some (.cells v.cells e (0, 0)) → Kept [b] w w' → WL P N ds ops Q os l w') :
    WL P N ds ops Q (⟨dst, .store t x y, ty, pos, af, g⟩ :: os) l w :=
  op_store (off := 0) hd hw hx hy hb hn (by omega) h1 (fun w' hb' hk => k w' (by
    have e1 : List.drop (0 + n) c.toList = [] := by rw [Nat.zero_add, ← ho]; simp
    rw [hb', e1]; simp) hk)

theorem op_fieldAddr {i off : Nat} [Fld P t i off] {b o' : Nat} (hw : want ops l ⟨some d, .fieldAddr t x i, ty, pos, af, g⟩ = some true) (hN : Nat.blt d N = true)
    (hx : ev l x = some (.pointer (some ⟨b, o', none⟩))) (k : WL P N ds ops Q os ((d, .pointer (some ⟨b, o' + off, none⟩)) :: l) w) :
    WL P N ds ops Q (⟨some d, .fieldAddr t x i, ty, pos, af, g⟩ :: os) l w :=
  wl_value rfl hw hN (fun a ha => by
    obtain ⟨fs, f, inf, h1, h2, h3, h4, h5⟩ := Fld.out (P := P) (t := t) (i := i)
    have h6 := run_underlying (P := P) (w := w) h1
    simp [execOp, Instr.fieldAt, Instr.sureAddr, ha.ev hx, h6, h2, fieldPlace, sizeOf, typeInfo, h4, h5, h3, Addr.add_lit]) k

theorem op_indexAddr {e : TypeId} {sz by_ : Nat} [TySlice P t e] [Elem P e sz by_] {b o' n cp : Nat} {i : Int} (hw : want ops l ⟨some d, .indexAddr t x y, ty, pos, af, g⟩ = some true) (hN : Nat.blt d N = true)
    (hx : ev l x = some (.slice (some ⟨b, o', none⟩) n cp)) (hy : ev l y = some (.int .i64 i)) (h0 : 0 ≤ i) (h1 : i < n)
    (k : WL P N ds ops Q os ((d, .pointer (some ⟨b, o' + i.toNat * sz, none⟩)) :: l) w) :
    WL P N ds ops Q (⟨some d, .indexAddr t x y, ty, pos, af, g⟩ :: os) l w :=
  wl_value rfl hw hN (fun a ha => by
    obtain ⟨inf, z, hi, _, hs, _, _, _⟩ := Elem.out (P := P) (e := e)
    have h6 := run_underlying (P := P) (w := w) (TySlice.out (P := P) (t := t))
    simp [execOp, Instr.indexAt, asIntOf, ha.ev hx, ha.ev hy, h6, h0, h1, sizeOf, typeInfo, hi, hs, Addr.add_lit]) k

theorem op_loadN {n : Nat} [TyAgg P t n] {b off : Nat} {c : Array Value} {e : TypeId} {fr : Nat × Nat} {vs : List Value} (hw : want ops l ⟨some d, .load t x, ty, pos, af, g⟩ = some true) (hN : Nat.blt d N = true)
    (hx : ev l x = some (.pointer (some ⟨b, off, none⟩))) (hb : w.heap[b]? = some (.cells c e fr)) (hl : vs.length = n) (hc : ∀ j v, vs[j]? = some v → c[off + j]? = some v)
    (k : WL P N ds ops Q os ((d, .agg vs.toArray) :: l) w) : WL P N ds ops Q (⟨some d, .load t x, ty, pos, af, g⟩ :: os) l w :=
  wl_value rfl hw hN (fun a ha => by
    obtain ⟨dd, i, h1, h2, h3, h4⟩ := TyAgg.out (P := P) (t := t)
    have h5 := run_loadCells_list (P := P) w ⟨b, off, none⟩ vs (fun j v hv => by rw [Addr.add_lit]; exact cell_of hb (hc j v hv))
    rw [hl] at h5
    simp [execOp, Instr.loadAt, Instr.sureAddr, loadVar, run_isAgg h1, h2, ha.ev hx, sizeOf, typeInfo, h3, h4, h5]) k

/-- parts of a composite. -/
def evp (l : Log) : List (Nat × Operand) → Option (List (Nat × Value))
  | [] => some []
  | (i, x) :: xs => match ev l x, evp l xs with
    | some v, some vs => some ((i, v) :: vs)
    | _, _ => none
theorem Fits.evp {a : Act} (h : Fits N ds l a) : ∀ {xs : List (Nat × Operand)} {vs : List (Nat × Value)}, evp l xs = some vs → xs.map (fun (i, x) => (i, a.eval x)) = vs
  | [], vs, hv => by simp [Fw.evp] at hv; simp [← hv]
  | (i, x) :: xs, vs, hv => by
    simp only [Fw.evp] at hv
    split at hv
    · rename_i v us h1 h2
      simp only [Option.some.injEq] at hv
      rw [← hv, List.map_cons, h.evp h2]
      simp only [h.ev h1]
    · cases hv
theorem fold_set (off : Nat) : ∀ (us : List Value) (m : Nat) (cs : Array Value), ∀ j : Nat,
    ((us.zipIdx m).foldl (fun (cs : Array Value) (p : Value × Nat) => cs.setIfInBounds (off + p.2) p.1) cs)[j]? = if off + m ≤ j ∧ j < off + m + us.length ∧ j < cs.size then us[j - (off + m)]? else cs[j]?
  | [], m, cs, j => by
    rw [if_neg (by simp only [List.length_nil]; omega)]; rfl
  | v :: us, m, cs, j => by
    rw [List.zipIdx_cons, List.foldl_cons, fold_set off us (m + 1)]
    simp only [Array.size_setIfInBounds, List.length_cons]
    by_cases h1 : off + m = j
    · subst h1
      rw [if_neg (by omega)]
      by_cases h2 : off + m < cs.size
      · rw [if_pos (by omega)]; simp [h2]
      · rw [if_neg (by omega)]; simp [h2]
    · rw [Array.getElem?_setIfInBounds_ne h1]
      by_cases h2 : off + (m + 1) ≤ j ∧ j < off + (m + 1) + us.length ∧ j < cs.size
      · rw [if_pos h2, if_pos (by omega), show j - (off + m) = (j - (off + (m + 1))) + 1 by omega, List.getElem?_cons_succ]
      · rw [if_neg h2, if_neg (by omega)]

theorem run_sizeOf {P : Program} {w : World} {t : TypeId} {i : TypeInfo} (h : P.info? t = some i) : (sizeOf t).run P w = .ok i.size w := by simp [sizeOf, typeInfo, h]
theorem run_places {P : Program} (w : World) : ∀ (fs : List Field) (places : List (Nat × Nat)), (fs.mapM fun f => (P.info? f.type).map fun i => (f.offset, i.size)) = some places →
    (fs.mapM (m := Sem) fun f => do pure (f.offset, ← sizeOf f.type)).run P w = .ok places w
  | [], places, h => by simp at h; simp [h]
  | f :: fs, places, h => by
    rw [List.mapM_cons] at h ⊢
    cases hf : P.info? f.type with
    | none => simp [hf] at h
    | some i =>
      cases hr : (fs.mapM fun f => (P.info? f.type).map fun i => (f.offset, i.size)) with
      | none => simp [hf, hr] at h
      | some r =>
        have := run_places w fs r hr
        simp [hf, hr] at h
        have h2 := run_sizeOf (w := w) hf
        simp only [Sem.run_bind, h2, Result.andThen, Sem.run_pure, this, ← h]
theorem fill_bld (places : List (Nat × Nat)) : ∀ (ps : List (Nat × Value)) (cs r : List Value), bld places cs ps = some r → Instr.fill (places.toArray[·]?) cs.toArray ps = some r.toArray
  | [], cs, r, h => by simp [bld] at h; simp [Instr.fill, h]
  | (i, v) :: ps, cs, r, h => by
    simp only [bld] at h
    split at h
    · rename_i off n hp
      have hp' : places.toArray[i]? = some (off, n) := by simpa using hp
      cases hc : (Nat.beq v.cells.toList.length n && Nat.ble (off + n) cs.length) with
      | false => rw [hc] at h; cases h
      | true =>
        rw [hc] at h
        simp only [cond_true] at h
        simp only [Bool.and_eq_true, Nat.beq_eq, Nat.ble_eq, Array.length_toList] at hc
        have ih := fill_bld places ps _ _ h
        rw [Instr.fill, hp']
        simp only
        rw [if_neg (by simp [hc.1]; omega)]
        rw [← ih]
        congr 1
        apply Array.ext_getElem?
        intro j
        rw [← Array.foldl_toList, Array.toList_zipIdx]
        rw [fold_set]
        simp only [List.getElem?_toArray, List.size_toArray, Array.length_toList, Nat.add_zero, hc.1]
        by_cases h1 : j < off
        · rw [if_neg (by omega), List.getElem?_append_left (by simp; omega)]
          simp [h1]
        · by_cases h2 : j < off + n
          · rw [if_pos (by omega), List.getElem?_append_right (by simp; omega), List.getElem?_append_left (by simp; omega)]
            congr 1
            simp; omega
          · rw [if_neg (by omega), List.getElem?_append_right (by simp; omega), List.getElem?_append_right (by simp; omega), List.getElem?_drop]
            congr 1
            simp; omega
    · cases h
theorem op_struct {places : List (Nat × Nat)} {zero : List Value} [StructT P t places zero] {ps : List (Nat × Operand)} {vs : List (Nat × Value)} {r : List Value}
    (hw : want ops l ⟨some d, .build t ps.toArray, ty, pos, af, g⟩ = some true) (hN : Nat.blt d N = true)
    (hx : evp l ps = some vs) (hr : bld places zero vs = some r) (k : WL P N ds ops Q os ((d, .agg r.toArray) :: l) w) :
    WL P N ds ops Q (⟨some d, .build t ps.toArray, ty, pos, af, g⟩ :: os) l w :=
  wl_value rfl hw hN (fun a ha => by
    have e1 := ha.evp hx
    obtain ⟨fs, h1, h2, h3⟩ := StructT.out (P := P) (t := t)
    have h4 := run_underlying (P := P) (w := w) h1
    have h5 := run_places (P := P) w _ _ h2
    have h6 := fill_bld places vs zero r hr
    simp only [bind_pure_comp] at h5
    simp only [List.getElem?_toArray] at h6
    cases hi : P.info? t with
    | none => simp [hi] at h3
    | some i =>
      simp only [hi, Option.bind_some] at h3
      simp [execOp, Instr.build, e1, zeroValue, typeInfo, hi, h3, h4, Array.mapM_eq_mapM_toList, h5, Value.cells, h6]) k
theorem op_build {ps : List (Nat × Operand)} {vs : List (Nat × Value)} {v : Value} (hw : want ops l ⟨some d, .build t ps.toArray, ty, pos, af, g⟩ = some true) (hN : Nat.blt d N = true)
    (hx : evp l ps = some vs) (hr : ∀ w, (Instr.build t vs.toArray).run P w = .ok v w) (k : WL P N ds ops Q os ((d, v) :: l) w) :
    WL P N ds ops Q (⟨some d, .build t ps.toArray, ty, pos, af, g⟩ :: os) l w :=
  wl_value rfl hw hN (fun a ha => by
    have := ha.evp hx
    simp [execOp, this, hr]) k

theorem fill_one {sz : Nat} {u : Value} (hu : u.cells.size = sz) (cs : Array Value) (hc : cs.size = sz) : Instr.fill (fun i => some (i * sz, sz)) cs [(0, u)] = some u.cells := by
  simp only [Instr.fill, hu, Nat.zero_mul]
  rw [if_neg (by simp [hc])]
  congr 1
  apply Array.ext_getElem?
  intro j
  rw [← Array.foldl_toList, Array.toList_zipIdx, fold_set]
  by_cases h : j < sz
  · rw [if_pos (by simp [hu, hc, h])]; simp
  · rw [if_neg (by simp [hu, hc, h])]
    rw [Array.getElem?_eq_none (by omega), Array.getElem?_eq_none (by omega)]

/-- 'append': what is owned goes on being owned, where it was, or anew. -/
theorem run_append {e : TypeId} {sz by_ : Nat} [TySlice P t e] [he : Elem P e sz by_] {v : Value} {base n : Nat} {xs : List Value} (hown : w.ownsRow base e sz v n xs)
    (a : Addr) (m c : Nat) (news : List Value) (hl : news.length = m * sz) (hnews : ∀ j u, news[j]? = some u → w.cell? (a.add j) = some u) (h1 : ∀ u ∈ news, u.oneCell' = true)
    (h63 : n + m ≤ 9223372036854775807) (hbytes : (n + m) * by_ ≤ 140737488355328) (hbase : base ≤ w.heap.size) (ty : TypeId) :
    ∃ v' w', (Builtin.append_ #[t, t] ty #[v, .slice (some a) m c]).run P w = .ok v' w' ∧ w'.ownsRow base e sz v' (n + m) (xs ++ news) ∧ Kept v.ownBlock.toList w w' ∧
      (v'.ownBlock = v.ownBlock ∨ ∃ g, v'.ownBlock = some g ∧ w.heap.size ≤ g) := by
  obtain ⟨i, z, hi, hz, hs, hby, hzc, hpos⟩ := he.out
  have ht := TySlice.out (P := P) (t := t)
  have hm63 : n + m ≤ maxLen := by unfold maxLen; exact h63
  rcases hown.2 with ⟨rfl, rfl⟩ | ⟨g, cap, cur, rfl, hbg, hg, hnc, hcm, hcs, htake⟩
  · have hx : xs = [] := List.eq_nil_of_length_eq_zero (by simpa using hown.1)
    subst hx
    obtain ⟨v', w', hr, ho, hk, _⟩ := run_append_own (P := P) w w.heap.size t ty e i z sz by_ ht hi hz hs hby hzc hpos (.slice none 0 0) 0 [] (World.ownsRow_nil w _ _ _) a m c news hl hnews h1 hm63 hbytes (Nat.le_refl _)
    refine ⟨v', w', hr, ownsRow_base ho hbase, Kept.of_grown hk, ?_⟩
    cases hv : v'.ownBlock with
    | none => exact .inl (by simp [Value.ownBlock])
    | some g => exact .inr ⟨g, rfl, (ho.lt g hv).1⟩
  · obtain ⟨v', w', hr, ho, hk, _⟩ := run_append_own (P := P) w base t ty e i z sz by_ ht hi hz hs hby hzc hpos _ n xs hown a m c news hl hnews h1 hm63 hbytes hbase
    refine ⟨v', w', hr, ho, Kept.of_grown hk, ?_⟩
    subst hs
    subst hby
    by_cases hroom : n + m ≤ cap
    · have hfit : n * i.size + news.length ≤ cur.size := by rw [hl, hcs, ← Nat.add_mul]; exact Nat.mul_le_mul_right _ hroom
      have hr2 := run_append_room (P := P) w t ty e i ht hi g n cap cur hg a m c news hl hnews h1 hroom hfit
      rw [hr] at hr2
      injection hr2 with e1 _
      exact .inl (by rw [e1]; rfl)
    · have holds : ∀ j u, xs[j]? = some u → w.cell? ((⟨g, 0, none⟩ : Addr).add j) = some u := hown.cells (g := g) rfl
      have hr2 := run_append_grow (P := P) w t ty e i z ht hi hz ⟨g, 0, none⟩ n cap xs hown.1 holds a m c news hl hnews (by omega) (by omega) (growslice_fits (by omega) hbytes)
      rw [hr] at hr2
      injection hr2 with e1 _
      exact .inr ⟨w.heap.size, by rw [e1]; rfl, Nat.le_refl _⟩

/-- 'append(s, u)': one more. -/
theorem op_append1 {e : TypeId} {sz by_ : Nat} [TySlice P t e] [Elem P e sz by_] {d1 : Nat} {s : Operand} {v u : Value} {base n : Nat} {xs : List Value}
    {ty' : TypeId} {pos' : String} {af' : Array Edge} (hN1 : Nat.blt d1 N = true) (hN : Nat.blt d N = true)
    (hs : ev l s = some v) (hne : neTmp s d1 = true) (hx : ev l x = some u) (hown : w.ownsRow base e sz v n xs) (hu : u.cells.size = sz) (h1 : u.cells.toList.all (·.oneCell') = true)
    (hsz : sz ≤ 1024) (hlen : (n + 1) * by_ ≤ 140737488355328) (hl' : n + 1 ≤ 9223372036854775807) (hbase : base ≤ w.heap.size)
    (k : ∀ v' w', w'.ownsRow base e sz v' (n + 1) (xs ++ u.cells.toList) → Kept v.ownBlock.toList w w' → (v'.ownBlock = v.ownBlock ∨ ∃ g, v'.ownBlock = some g ∧ w.heap.size ≤ g) →
      WL P N ds ops Q os ((d, v') :: (d1, .slice (some ⟨w.heap.size, 0, none⟩) 1 1) :: l) w') :
    WL P N ds ops Q (⟨some d1, .buildSlice t 1 #[(0, x)], ty, pos, af, none⟩ :: ⟨some d, .call ⟨.builtin .append, #[s, .tmp d1], #[t, t]⟩, ty', pos', af', none⟩ :: os) l w := by
  obtain ⟨i, z, hi, hz, hs', hby, hzc, hpos⟩ := Elem.out (P := P) (e := e)
  have h6 := fun w => run_underlying (P := P) (w := w) (TySlice.out (P := P) (t := t))
  have hs2 : ev ((d1, .slice (some ⟨w.heap.size, 0, none⟩) 1 1) :: l) s = some v := ev_ne hne hs
  have hown2 : (w.alloc (.cells u.cells e (0, 0))).ownsRow base e sz v n xs := hown.alloc _
  obtain ⟨v', w', hr, ho, hk, hb⟩ := run_append (P := P) (t := t) hown2 ⟨w.heap.size, 0, none⟩ 1 1 u.cells.toList (by simp [hu]) (fun j r hj => by
      rw [Addr.add_lit]; exact cell_of (heap_alloc_new w _) (by simpa using hj)) (fun r hr => List.all_eq_true.1 h1 r hr) hl' hlen (by simp; omega) ty'
  refine wl_value (w' := w.alloc (.cells u.cells e (0, 0))) (v := .slice (some ⟨w.heap.size, 0, none⟩) 1 1) rfl rfl hN1 (fun a ha => ?_) ?_
  · have hz0 : ¬ (2 ^ 24 < sz) := by omega
    have hz1 : ¬ (sz = 0) := by omega
    have hf := fill_one hu ((Array.range sz).map (z.cells[· % z.cells.size]!)) (by simp)
    simp [execOp, Instr.buildSlice, h6, sizeOf, typeInfo, hi, hs', zeroValue, hz, ha.ev hx, hz0, hz1, hf, newRow, newObj]
    rfl
  · refine wl_value (w' := w') (v := v') rfl rfl hN (fun a ha => ?_) ?_
    · have e1 := ha.ev hs2
      have e2 : a.eval (.tmp d1) = .slice (some ⟨w.heap.size, 0, none⟩) 1 1 := ha.ev (by simp [ev, lk])
      simp [execOp, resolve, invoke, builtin, e1, e2, hr]
    · have hk2 : Kept v.ownBlock.toList w w' := ((Kept.alloc w _).mono (fun _ h => by cases h)).trans hk
      exact k v' w' ho hk2 (hb.imp_right fun ⟨g, h1, h2⟩ => ⟨g, h1, by simp at h2; omega⟩)
end
end Go.Fw
