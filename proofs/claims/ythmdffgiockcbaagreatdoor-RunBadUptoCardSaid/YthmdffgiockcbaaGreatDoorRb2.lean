/- Own work: texts FwMem2, FwMem3, FwQuiet, one behind the other. -/
import Derived.Test.YthmdffgiockcbaaGreatDoorRb1
import Derived.Laws.AppendOwn
import Derived.Laws.CopyRow
import Derived.Laws.StructEq
import Derived.Deep.Quiet
import Derived.StillTail
section
namespace Go.Fw
open Go

class Fld (P : Program) (t : TypeId) (i : Nat) (off : outParam Nat) : Prop where
  out : ∃ fs f inf, P.underlying t = some (.struct fs) ∧ fs[i]? = some f ∧ f.offset = off ∧ P.info? f.type = some inf ∧ inf.size ≠ 0

def elemB (P : Program) (e : TypeId) (size bytes : Nat) : Bool :=
  match P.info? e with
  | some i => match i.zero with
    | some z => i.size == size && i.bytes == bytes && z.cells.size == size && Nat.blt 0 size
    | none => false
  | none => false
theorem Elem.of {P : Program} {e : TypeId} {size bytes : Nat} (h : elemB P e size bytes = true) : Elem P e size bytes := by
  unfold elemB at h
  split at h
  · rename_i i hi
    split at h
    · rename_i z hz
      simp only [Bool.and_eq_true, beq_iff_eq, Nat.blt_eq] at h
      exact ⟨i, z, hi, hz, h.1.1.1, h.1.1.2, h.1.2, h.2⟩
    · cases h
  · cases h
def oneB (P : Program) (t : TypeId) : Bool := match P.underlying t with
  | some d => !isAggD d
  | none => false
theorem TyOne.of {P : Program} {t : TypeId} (h : oneB P t = true) : TyOne P t := by
  unfold oneB at h
  split at h
  · rename_i d hd; exact ⟨d, hd, by simpa using h⟩
  · cases h
def aggB (P : Program) (t : TypeId) (size : Nat) : Bool := match P.underlying t, P.info? t with
  | some d, some i => isAggD d && i.size == size
  | _, _ => false
theorem TyAgg.of {P : Program} {t : TypeId} {size : Nat} (h : aggB P t size = true) : TyAgg P t size := by
  unfold aggB at h
  split at h
  · rename_i d i hd hi; simp only [Bool.and_eq_true, beq_iff_eq] at h; exact ⟨d, i, hd, h.1, hi, h.2⟩
  · cases h
def ownB (P : Program) (f : FuncId) : Bool := match P.funcs[f]? with
  | some fn => !(fn.name == "runtime.NumGoroutine") && !fn.body.isNone
  | none => false
theorem Own.of {P : Program} {f : FuncId} (h : ownB P f = true) : Own P f := by
  unfold ownB at h
  split at h
  · rename_i fn hf; simp only [Bool.and_eq_true, Bool.not_eq_true'] at h; exact ⟨fn, hf, h.1, h.2⟩
  · cases h
def fldB (P : Program) (t : TypeId) (i off : Nat) : Bool := match P.underlying t with
  | some (.struct fs) => match fs[i]? with
    | some f => f.offset == off && (match P.info? f.type with | some inf => inf.size != 0 | none => false)
    | none => false
  | _ => false
theorem Fld.of {P : Program} {t : TypeId} {i off : Nat} (h : fldB P t i off = true) : Fld P t i off := by
  unfold fldB at h
  split at h
  · rename_i fs hd
    split at h
    · rename_i f hf
      simp only [Bool.and_eq_true, beq_iff_eq] at h
      obtain ⟨h1, h2⟩ := h
      split at h2
      · rename_i inf hi; exact ⟨fs, f, inf, hd, hf, h1, hi, by simpa using h2⟩
      · cases h2
    · cases h
  · cases h

class StructT (P : Program) (t : TypeId) (places : outParam (List (Nat × Nat))) (zero : outParam (List Value)) : Prop where
  out : ∃ fs, P.underlying t = some (.struct fs) ∧ (fs.toList.mapM fun f => (P.info? f.type).map fun i => (f.offset, i.size)) = some places ∧
    (P.info? t).bind (·.zero) = some (.agg zero.toArray)
def placesB (P : Program) (t : TypeId) : Option (List (Nat × Nat)) := match P.underlying t with
  | some (.struct fs) => fs.toList.mapM fun f => (P.info? f.type).map fun i => (f.offset, i.size)
  | _ => none
theorem StructT.of {P : Program} {t : TypeId} {places : List (Nat × Nat)} {zero : List Value} (h : placesB P t = some places) (hz : (P.info? t).bind (·.zero) = some (.agg zero.toArray)) :
    StructT P t places zero := by
  unfold placesB at h
  split at h
  · rename_i fs hd; exact ⟨fs, hd, h, hz⟩
  · cases h
def bld (places : List (Nat × Nat)) (cs : List Value) : List (Nat × Value) → Option (List Value)
  | [] => some cs
  | (i, v) :: ps => match places[i]? with
    | some (off, n) => bif Nat.beq v.cells.toList.length n && Nat.ble (off + n) cs.length then bld places (cs.take off ++ (v.cells.toList ++ cs.drop (off + n))) ps else none
    | none => none

section
variable {P : Program} {N : Nat} {ds : List Deferred} {Q : Exit → Act → World → Prop} {l l' : Log} {w w' : World} {ops : Array Oper} {os : List Oper} {o : Oper}
variable {d : Nat} {ty : TypeId} {pos : String} {af : Array Edge} {g : Option (Nat × Bool)} {t t' : TypeId} {x y : Operand}

theorem Kept.setRow {b : Nat} {c : Array Value} {e : TypeId} {fr : Nat × Nat} (_hb : w.heap[b]? = some (.cells c e fr)) (c' : Array Value) : Kept [b] w (w.setRow b c') :=
  ⟨rfl, rfl, rfl, by simp, fun k _ hx => setRow_other w b k c' (by simpa using hx)⟩

theorem run_storeVar {b off n by_ : Nat} [Elem P t n by_] {c : Array Value} {e : TypeId} (v : Value) (hb : w.heap[b]? = some (.cells c e (0, 0))) (hn : v.cells.size = n) (ho : off + n ≤ c.size)
    (h1 : v.cells.toList.all (·.oneCell') = true) :
    (storeVar t ⟨b, off, none⟩ v).run P w = .ok () (w.setRow b (c.toList.take off ++ v.cells.toList ++ c.toList.drop (off + n)).toArray) := by
  obtain ⟨i, z, hi, _, hs, _, _, _⟩ := Elem.out (P := P) (e := t)
  have h2 := run_storeCells_at P b off e v.cells.toList 0 c w hb (by simp [hn]; omega) (fun u hu => List.all_eq_true.1 h1 u hu)
  simp only [Nat.add_zero, Array.length_toList, hn] at h2
  simp [storeVar, sizeOf, typeInfo, hi, hs, hn, h2]

theorem op_store {b off n by_ : Nat} [Elem P t n by_] {c : Array Value} {e : TypeId} {v : Value} {dst : Option Nat} (hd : dst = none) (hw : want ops l ⟨dst, .store t x y, ty, pos, af, g⟩ = some true)
    (hx : ev l x = some (.pointer (some ⟨b, off, none⟩))) (hy : ev l y = some v) (hb : w.heap[b]? = some (.cells c e (0, 0))) (hn : v.cells.size = n) (ho : off + n ≤ c.size)
    (h1 : v.cells.toList.all (·.oneCell') = true)
    (k : ∀ w', w'.heap[b]? = some (.cells (c.toList.take off ++ v.cells.toList ++ c.toList.drop (off + n)).toArray e (0, 0)) → Kept [b] w w' → WL P N ds ops Q os l w') :
    WL P N ds ops Q (⟨dst, .store t x y, ty, pos, af, g⟩ :: os) l w :=
  wl_op hw fun a ha => by
    have h2 := run_storeVar (P := P) (t := t) v hb hn ho h1
    subst hd
    simp only [Oper.wp, execOp, Instr.storeAt, Instr.sureAddr, ha.ev hx, ha.ev hy]
    simp only [Sem.run_bind, Sem.run_pure, Result.andThen, h2, Oper.upon_skip, Act.put]
    exact (k _ (setRow_heap w b c _ e (0, 0) hb) (Kept.setRow hb _)).run _ ha

def neTmp : Operand → Nat → Bool
  | .tmp t, d => !(Nat.beq t d)
  | _, _ => true
theorem ev_ne {d : Nat} {v u : Value} {x : Operand} (h : neTmp x d = true) (hx : ev l x = some v) : ev ((d, u) :: l) x = some v := by
  cases x with
  | tmp t =>
    have : Nat.beq t d = false := by simpa [neTmp] using h
    simp only [ev, lk, this, cond_false]; exact hx
  | const c => exact hx
  | global c => exact hx
  | func c => exact hx
theorem op_var {n by_ : Nat} [Elem P t n by_] {v : Value} {ty' : TypeId} {pos' : String} {af' : Array Edge} (hN : Nat.blt d N = true := by rfl)
    (hy : ev l y = some v := by rfl) (hne : neTmp y d = true := by rfl) (hn : v.cells.size = n := by rfl) (h1 : v.cells.toList.all (·.oneCell') = true := by rfl)
    (k : ∀ b w', b = w.heap.size → w'.heap[b]? = some (.cells v.cells t (0, 0)) → Kept [] w w' → WL P N ds ops Q os ((d, .pointer (some ⟨b, 0, none⟩)) :: l) w') :
    WL P N ds ops Q (⟨some d, .alloc t, ty, pos, af, none⟩ :: ⟨none, .store t (.tmp d) y, ty', pos', af', none⟩ :: os) l w := by
  obtain ⟨i, z, hi, hz, hs, _, hzc, _⟩ := Elem.out (P := P) (e := t)
  refine wl_value (w' := w.alloc (.cells z.cells t (0, 0))) (v := .pointer (some ⟨w.heap.size, 0, none⟩)) rfl rfl hN (fun a ha => ?_) ?_
  · simp [execOp, Instr.alloc, newVar, newRow, newObj, zeroValue, typeInfo, hi, hz]; rfl
  · have hy' : ev ((d, .pointer (some ⟨w.heap.size, 0, none⟩)) :: l) y = some v := ev_ne hne hy
    refine op_store (off := 0) rfl rfl (by simp [ev, lk]) hy' (heap_alloc_new w _) hn (by rw [hzc]; omega) h1 (fun w' hb hk => ?_)
    refine k w.heap.size w' rfl ?_ ((Kept.alloc w _).step hk (fun x hx => .inr (by simp at hx; omega)))
    have e1 : List.drop (0 + n) z.cells.toList = [] := by rw [Nat.zero_add, ← hzc]; simp
    rw [hb, e1]
    simp

theorem op_fieldAddr {i off : Nat} [Fld P t i off] {b o' : Nat} (hw : want ops l ⟨some d, .fieldAddr t x i, ty, pos, af, g⟩ = some true := by rfl) (hN : Nat.blt d N = true := by rfl)
    (hx : ev l x = some (.pointer (some ⟨b, o', none⟩)) := by rfl) (k : WL P N ds ops Q os ((d, .pointer (some ⟨b, o' + off, none⟩)) :: l) w) :
    WL P N ds ops Q (⟨some d, .fieldAddr t x i, ty, pos, af, g⟩ :: os) l w :=
  wl_value rfl hw hN (fun a ha => by
    obtain ⟨fs, f, inf, h1, h2, h3, h4, h5⟩ := Fld.out (P := P) (t := t) (i := i)
    have h6 := run_underlying (P := P) (w := w) h1
    simp [execOp, Instr.fieldAt, Instr.sureAddr, ha.ev hx, h6, h2, fieldPlace, sizeOf, typeInfo, h4, h5, h3, Addr.add_lit]) k

theorem op_indexAddr {e : TypeId} {sz by_ : Nat} [TySlice P t e] [Elem P e sz by_] {b o' n cp : Nat} {i : Int} (hw : want ops l ⟨some d, .indexAddr t x y, ty, pos, af, g⟩ = some true := by rfl) (hN : Nat.blt d N = true := by rfl)
    (hx : ev l x = some (.slice (some ⟨b, o', none⟩) n cp) := by rfl) (hy : ev l y = some (.int .i64 i) := by rfl) (h0 : 0 ≤ i := by omega) (h1 : i < n := by omega)
    (k : WL P N ds ops Q os ((d, .pointer (some ⟨b, o' + i.toNat * sz, none⟩)) :: l) w) :
    WL P N ds ops Q (⟨some d, .indexAddr t x y, ty, pos, af, g⟩ :: os) l w :=
  wl_value rfl hw hN (fun a ha => by
    obtain ⟨inf, z, hi, _, hs, _, _, _⟩ := Elem.out (P := P) (e := e)
    have h6 := run_underlying (P := P) (w := w) (TySlice.out (P := P) (t := t))
    simp [execOp, Instr.indexAt, asIntOf, ha.ev hx, ha.ev hy, h6, h0, h1, sizeOf, typeInfo, hi, hs, Addr.add_lit]) k

theorem op_loadN {n : Nat} [TyAgg P t n] {b off : Nat} {c : Array Value} {e : TypeId} {fr : Nat × Nat} {vs : List Value} (hw : want ops l ⟨some d, .load t x, ty, pos, af, g⟩ = some true := by rfl) (hN : Nat.blt d N = true := by rfl)
    (hx : ev l x = some (.pointer (some ⟨b, off, none⟩)) := by rfl) (hb : w.heap[b]? = some (.cells c e fr)) (hl : vs.length = n := by rfl) (hc : ∀ j v, vs[j]? = some v → c[off + j]? = some v)
    (k : WL P N ds ops Q os ((d, .agg vs.toArray) :: l) w) : WL P N ds ops Q (⟨some d, .load t x, ty, pos, af, g⟩ :: os) l w :=
  wl_value rfl hw hN (fun a ha => by
    obtain ⟨dd, i, h1, h2, h3, h4⟩ := TyAgg.out (P := P) (t := t)
    have h5 := run_loadCells_list (P := P) w ⟨b, off, none⟩ vs (fun j v hv => by rw [Addr.add_lit]; exact cell_of hb (hc j v hv))
    rw [hl] at h5
    simp [execOp, Instr.loadAt, Instr.sureAddr, loadVar, run_isAgg h1, h2, ha.ev hx, sizeOf, typeInfo, h3, h4, h5]) k

def evp (l : Log) : List (Nat × Operand) → Option (List (Nat × Value))
  | [] => some []
  | (i, x) :: xs => match ev l x, evp l xs with
    | some v, some vs => some ((i, v) :: vs)
    | _, _ => none
theorem Fits.evp {a : Act} (h : Fits N ds l a) : ∀ {xs : List (Nat × Operand)} {vs : List (Nat × Value)}, evp l xs = some vs → xs.map (fun (i, x) => (i, a.eval x)) = vs
  | [], vs, hv => by simp [Fw.evp] at hv; simp [← hv]
  | (i, x) :: xs, vs, hv => by
    simp only [Fw.evp] at hv
    split at hv
    · rename_i v us h1 h2
      simp only [Option.some.injEq] at hv
      rw [← hv, List.map_cons, h.evp h2]
      simp only [h.ev h1]
    · cases hv
theorem fold_set (off : Nat) : ∀ (us : List Value) (m : Nat) (cs : Array Value), ∀ j : Nat,
    ((us.zipIdx m).foldl (fun (cs : Array Value) (p : Value × Nat) => cs.setIfInBounds (off + p.2) p.1) cs)[j]? = if off + m ≤ j ∧ j < off + m + us.length ∧ j < cs.size then us[j - (off + m)]? else cs[j]?
  | [], m, cs, j => by
    rw [if_neg (by simp only [List.length_nil]; omega)]; rfl
  | v :: us, m, cs, j => by
    rw [List.zipIdx_cons, List.foldl_cons, fold_set off us (m + 1)]
    simp only [Array.size_setIfInBounds, List.length_cons]
    by_cases h1 : off + m = j
    · subst h1
      rw [if_neg (by omega)]
      by_cases h2 : off + m < cs.size
      · rw [if_pos (by omega)]; simp [h2]
      · rw [if_neg (by omega)]; simp [h2]
    · rw [Array.getElem?_setIfInBounds_ne h1]
      by_cases h2 : off + (m + 1) ≤ j ∧ j < off + (m + 1) + us.length ∧ j < cs.size
      · rw [if_pos h2, if_pos (by omega), show j - (off + m) = (j - (off + (m + 1))) + 1 by omega, List.getElem?_cons_succ]
      · rw [if_neg h2, if_neg (by omega)]

theorem run_sizeOf {P : Program} {w : World} {t : TypeId} {i : TypeInfo} (h : P.info? t = some i) : (sizeOf t).run P w = .ok i.size w := by simp [sizeOf, typeInfo, h]
theorem run_places {P : Program} (w : World) : ∀ (fs : List Field) (places : List (Nat × Nat)), (fs.mapM fun f => (P.info? f.type).map fun i => (f.offset, i.size)) = some places →
    (fs.mapM (m := Sem) fun f => do pure (f.offset, ← sizeOf f.type)).run P w = .ok places w
  | [], places, h => by simp at h; simp [h]
  | f :: fs, places, h => by
    rw [List.mapM_cons] at h ⊢
    cases hf : P.info? f.type with
    | none => simp [hf] at h
    | some i =>
      cases hr : (fs.mapM fun f => (P.info? f.type).map fun i => (f.offset, i.size)) with
      | none => simp [hf, hr] at h
      | some r =>
        have := run_places w fs r hr
        simp [hf, hr] at h
        have h2 := run_sizeOf (w := w) hf
        simp only [Sem.run_bind, h2, Result.andThen, Sem.run_pure, this, ← h]
theorem fill_bld (places : List (Nat × Nat)) : ∀ (ps : List (Nat × Value)) (cs r : List Value), bld places cs ps = some r → Instr.fill (places.toArray[·]?) cs.toArray ps = some r.toArray
  | [], cs, r, h => by simp [bld] at h; simp [Instr.fill, h]
  | (i, v) :: ps, cs, r, h => by
    simp only [bld] at h
    split at h
    · rename_i off n hp
      have hp' : places.toArray[i]? = some (off, n) := by simpa using hp
      cases hc : (Nat.beq v.cells.toList.length n && Nat.ble (off + n) cs.length) with
      | false => rw [hc] at h; cases h
      | true =>
        rw [hc] at h
        simp only [cond_true] at h
        simp only [Bool.and_eq_true, Nat.beq_eq, Nat.ble_eq, Array.length_toList] at hc
        have ih := fill_bld places ps _ _ h
        rw [Instr.fill, hp']
        simp only
        rw [if_neg (by simp [hc.1]; omega)]
        rw [← ih]
        congr 1
        apply Array.ext_getElem?
        intro j
        rw [← Array.foldl_toList, Array.toList_zipIdx]
        rw [fold_set]
        simp only [List.getElem?_toArray, List.size_toArray, Array.length_toList, Nat.add_zero, hc.1]
        by_cases h1 : j < off
        · rw [if_neg (by omega), List.getElem?_append_left (by simp; omega)]
          simp [h1]
        · by_cases h2 : j < off + n
          · rw [if_pos (by omega), List.getElem?_append_right (by simp; omega), List.getElem?_append_left (by simp; omega)]
            congr 1
            simp; omega
          · rw [if_neg (by omega), List.getElem?_append_right (by simp; omega), List.getElem?_append_right (by simp; omega), List.getElem?_drop]
            congr 1
            simp; omega
    · cases h
theorem op_struct {places : List (Nat × Nat)} {zero : List Value} [StructT P t places zero] {ps : List (Nat × Operand)} {vs : List (Nat × Value)} {r : List Value}
    (hw : want ops l ⟨some d, .build t ps.toArray, ty, pos, af, g⟩ = some true := by rfl) (hN : Nat.blt d N = true := by rfl)
    (hx : evp l ps = some vs := by rfl) (hr : bld places zero vs = some r := by rfl) (k : WL P N ds ops Q os ((d, .agg r.toArray) :: l) w) :
    WL P N ds ops Q (⟨some d, .build t ps.toArray, ty, pos, af, g⟩ :: os) l w :=
  wl_value rfl hw hN (fun a ha => by
    have e1 := ha.evp hx
    obtain ⟨fs, h1, h2, h3⟩ := StructT.out (P := P) (t := t)
    have h4 := run_underlying (P := P) (w := w) h1
    have h5 := run_places (P := P) w _ _ h2
    have h6 := fill_bld places vs zero r hr
    simp only [bind_pure_comp] at h5
    simp only [List.getElem?_toArray] at h6
    cases hi : P.info? t with
    | none => simp [hi] at h3
    | some i =>
      simp only [hi, Option.bind_some] at h3
      simp [execOp, Instr.build, e1, zeroValue, typeInfo, hi, h3, h4, Array.mapM_eq_mapM_toList, h5, Value.cells, h6]) k
theorem fill_one {sz : Nat} {u : Value} (hu : u.cells.size = sz) (cs : Array Value) (hc : cs.size = sz) : Instr.fill (fun i => some (i * sz, sz)) cs [(0, u)] = some u.cells := by
  simp only [Instr.fill, hu, Nat.zero_mul]
  rw [if_neg (by simp [hc])]
  congr 1
  apply Array.ext_getElem?
  intro j
  rw [← Array.foldl_toList, Array.toList_zipIdx, fold_set]
  by_cases h : j < sz
  · rw [if_pos (by simp [hu, hc, h])]; simp
  · rw [if_neg (by simp [hu, hc, h])]
    rw [Array.getElem?_eq_none (by omega), Array.getElem?_eq_none (by omega)]

theorem run_append {e : TypeId} {sz by_ : Nat} [TySlice P t e] [he : Elem P e sz by_] {v : Value} {base n : Nat} {xs : List Value} (hown : w.ownsRow base e sz v n xs)
    (a : Addr) (m c : Nat) (news : List Value) (hl : news.length = m * sz) (hnews : ∀ j u, news[j]? = some u → w.cell? (a.add j) = some u) (h1 : ∀ u ∈ news, u.oneCell' = true)
    (h63 : n + m ≤ 9223372036854775807) (hbytes : (n + m) * by_ ≤ 140737488355328) (hbase : base ≤ w.heap.size) (ty : TypeId) :
    ∃ v' w', (Builtin.append_ #[t, t] ty #[v, .slice (some a) m c]).run P w = .ok v' w' ∧ w'.ownsRow base e sz v' (n + m) (xs ++ news) ∧ Kept v.ownBlock.toList w w' ∧
      (v'.ownBlock = v.ownBlock ∨ ∃ g, v'.ownBlock = some g ∧ w.heap.size ≤ g) := by
  obtain ⟨i, z, hi, hz, hs, hby, hzc, hpos⟩ := he.out
  have ht := TySlice.out (P := P) (t := t)
  have hm63 : n + m ≤ maxLen := by unfold maxLen; exact h63
  rcases hown.2 with ⟨rfl, rfl⟩ | ⟨g, cap, cur, rfl, hbg, hg, hnc, hcm, hcs, htake⟩
  · have hx : xs = [] := List.eq_nil_of_length_eq_zero (by simpa using hown.1)
    subst hx
    obtain ⟨v', w', hr, ho, hk, _⟩ := run_append_own (P := P) w w.heap.size t ty e i z sz by_ ht hi hz hs hby hzc hpos (.slice none 0 0) 0 [] (World.ownsRow_nil w _ _ _) a m c news hl hnews h1 hm63 hbytes (Nat.le_refl _)
    refine ⟨v', w', hr, ownsRow_base ho hbase, Kept.of_grown hk, ?_⟩
    cases hv : v'.ownBlock with
    | none => exact .inl (by simp [Value.ownBlock])
    | some g => exact .inr ⟨g, rfl, (ho.lt g hv).1⟩
  · obtain ⟨v', w', hr, ho, hk, _⟩ := run_append_own (P := P) w base t ty e i z sz by_ ht hi hz hs hby hzc hpos _ n xs hown a m c news hl hnews h1 hm63 hbytes hbase
    refine ⟨v', w', hr, ho, Kept.of_grown hk, ?_⟩
    subst hs
    subst hby
    by_cases hroom : n + m ≤ cap
    · have hfit : n * i.size + news.length ≤ cur.size := by rw [hl, hcs, ← Nat.add_mul]; exact Nat.mul_le_mul_right _ hroom
      have hr2 := run_append_room (P := P) w t ty e i ht hi g n cap cur hg a m c news hl hnews h1 hroom hfit
      rw [hr] at hr2
      injection hr2 with e1 _
      exact .inl (by rw [e1]; rfl)
    · have holds : ∀ j u, xs[j]? = some u → w.cell? ((⟨g, 0, none⟩ : Addr).add j) = some u := hown.cells (g := g) rfl
      have hr2 := run_append_grow (P := P) w t ty e i z ht hi hz ⟨g, 0, none⟩ n cap xs hown.1 holds a m c news hl hnews (by omega) (by omega) (growslice_fits (by omega) hbytes)
      rw [hr] at hr2
      injection hr2 with e1 _
      exact .inr ⟨w.heap.size, by rw [e1]; rfl, Nat.le_refl _⟩

theorem op_append1 {e : TypeId} {sz by_ : Nat} [TySlice P t e] [Elem P e sz by_] {d1 : Nat} {s : Operand} {v u : Value} {base n : Nat} {xs : List Value}
    {ty' : TypeId} {pos' : String} {af' : Array Edge} (hN1 : Nat.blt d1 N = true := by rfl) (hN : Nat.blt d N = true := by rfl)
    (hs : ev l s = some v := by rfl) (hne : neTmp s d1 = true := by rfl) (hx : ev l x = some u := by rfl) (hown : w.ownsRow base e sz v n xs) (hu : u.cells.size = sz := by rfl) (h1 : u.cells.toList.all (·.oneCell') = true := by rfl)
    (hsz : sz ≤ 1024 := by omega) (hlen : (n + 1) * by_ ≤ 140737488355328 := by omega) (hl' : n + 1 ≤ 9223372036854775807 := by omega) (hbase : base ≤ w.heap.size)
    (k : ∀ v' w', w'.ownsRow base e sz v' (n + 1) (xs ++ u.cells.toList) → Kept v.ownBlock.toList w w' → (v'.ownBlock = v.ownBlock ∨ ∃ g, v'.ownBlock = some g ∧ w.heap.size ≤ g) →
      WL P N ds ops Q os ((d, v') :: (d1, .slice (some ⟨w.heap.size, 0, none⟩) 1 1) :: l) w') :
    WL P N ds ops Q (⟨some d1, .buildSlice t 1 #[(0, x)], ty, pos, af, none⟩ :: ⟨some d, .call ⟨.builtin .append, #[s, .tmp d1], #[t, t]⟩, ty', pos', af', none⟩ :: os) l w := by
  obtain ⟨i, z, hi, hz, hs', hby, hzc, hpos⟩ := Elem.out (P := P) (e := e)
  have h6 := fun w => run_underlying (P := P) (w := w) (TySlice.out (P := P) (t := t))
  have hs2 : ev ((d1, .slice (some ⟨w.heap.size, 0, none⟩) 1 1) :: l) s = some v := ev_ne hne hs
  have hown2 : (w.alloc (.cells u.cells e (0, 0))).ownsRow base e sz v n xs := hown.alloc _
  obtain ⟨v', w', hr, ho, hk, hb⟩ := run_append (P := P) (t := t) hown2 ⟨w.heap.size, 0, none⟩ 1 1 u.cells.toList (by simp [hu]) (fun j r hj => by
      rw [Addr.add_lit]; exact cell_of (heap_alloc_new w _) (by simpa using hj)) (fun r hr => List.all_eq_true.1 h1 r hr) hl' hlen (by simp; omega) ty'
  refine wl_value (w' := w.alloc (.cells u.cells e (0, 0))) (v := .slice (some ⟨w.heap.size, 0, none⟩) 1 1) rfl rfl hN1 (fun a ha => ?_) ?_
  · have hz0 : ¬ (2 ^ 24 < sz) := by omega
    have hz1 : ¬ (sz = 0) := by omega
    have hf := fill_one hu ((Array.range sz).map (z.cells[· % z.cells.size]!)) (by simp)
    simp [execOp, Instr.buildSlice, h6, sizeOf, typeInfo, hi, hs', zeroValue, hz, ha.ev hx, hz0, hz1, hf, newRow, newObj]
    rfl
  · refine wl_value (w' := w') (v := v') rfl rfl hN (fun a ha => ?_) ?_
    · have e1 := ha.ev hs2
      have e2 : a.eval (.tmp d1) = .slice (some ⟨w.heap.size, 0, none⟩) 1 1 := ha.ev (by simp [ev, lk])
      simp [execOp, resolve, invoke, builtin, e1, e2, hr]
    · have hk2 : Kept v.ownBlock.toList w w' := ((Kept.alloc w _).mono (fun _ h => by cases h)).trans hk
      exact k v' w' ho hk2 (hb.imp_right fun ⟨g, h1, h2⟩ => ⟨g, h1, by simp at h2; omega⟩)
end
end Go.Fw
end
section
namespace Go.Fw
open Go

inductive FK where
  | int (k : IntKind)
  | str
  | bool
def eqCell : Value → Value → Bool
  | .int _ a, .int _ b => decide (a = b)
  | .string a, .string b => decide (a.toList = b.toList)
  | .bool a, .bool b => decide (a = b)
  | _, _ => false
def eqCells : List Value → List Value → Bool
  | [], [] => true
  | x :: xs, y :: ys => eqCell x y && eqCells xs ys
  | _, _ => false
def fitCell : FK → Value → Bool
  | .int j, .int k _ => decide (j = k)
  | .str, .string _ => true
  | .bool, .bool _ => true
  | _, _ => false
def fitCells : List FK → List Value → Bool
  | [], [] => true
  | k :: ks, x :: xs => fitCell k x && fitCells ks xs
  | _, _ => false
def flatB (P : Program) : Nat → List Field → List FK → Bool
  | _, [], [] => true
  | i, f :: fs, k :: ks => !(f.name == "_") && f.offset == i && (match P.underlying f.type, k with
    | some (.int a), .int b => decide (a = b)
    | some .string, .str => true
    | some .bool, .bool => true
    | _, _ => false) && flatB P (i + 1) fs ks
  | _, _, _ => false
class FlatT (P : Program) (t : TypeId) (ks : outParam (List FK)) : Prop where
  out : ∃ fs, P.underlying t = some (.struct fs) ∧ flatB P 0 fs.toList ks = true ∧ P.stoodInHeld t = false ∧ P.eqGuardType P.depth t = false
def flatTB (P : Program) (t : TypeId) (ks : List FK) : Bool := match P.underlying t with
  | some (.struct fs) => flatB P 0 fs.toList ks && !P.stoodInHeld t && !P.eqGuardType P.depth t
  | _ => false
theorem FlatT.of {P : Program} {t : TypeId} {ks : List FK} (h : flatTB P t ks = true) : FlatT P t ks := by
  unfold flatTB at h
  split at h
  · rename_i fs hd; simp only [Bool.and_eq_true, Bool.not_eq_true'] at h; exact ⟨fs, hd, h.1.1, h.1.2, h.2⟩
  · cases h

section
variable {P : Program} {N : Nat} {ds : List Deferred} {Q : Exit → Act → World → Prop} {l l' : Log} {w w' : World} {ops : Array Oper} {os : List Oper} {o : Oper}
variable {d : Nat} {ty : TypeId} {pos : String} {af : Array Edge} {g : Option (Nat × Bool)} {t t' : TypeId} {x y : Operand}

theorem run_part1 {dd : TypeDesc} (h : P.underlying t = some dd) (h2 : isAggD dd = false) {cs : Array Value} {i : Nat} {v : Value} (hv : cs[i]? = some v) : (part t cs i).run P w = .ok v w := by
  simp [part, run_isAgg h, h2, hv]
theorem run_flat (xs ys : List Value) : ∀ (fs : List Field) (ks : List FK) (i : Nat) (w : World), flatB P i fs ks = true → fitCells ks (xs.drop i) = true → fitCells ks (ys.drop i) = true →
    (Op.eqFields 9999 xs.toArray ys.toArray fs).run P w = .ok (eqCells (xs.drop i) (ys.drop i)) w
  | [], [], i, w, _, h1, h2 => by
    have e1 : xs.drop i = [] := by cases h : xs.drop i with | nil => rfl | cons a l => rw [h] at h1; cases h1
    have e2 : ys.drop i = [] := by cases h : ys.drop i with | nil => rfl | cons a l => rw [h] at h2; cases h2
    simp [Op.eqFields, e1, e2, eqCells]
  | [], _ :: _, _, _, h, _, _ => by cases h
  | _ :: _, [], _, _, h, _, _ => by cases h
  | f :: fs, k :: ks, i, w, h, h1, h2 => by
    simp only [flatB, Bool.and_eq_true, Bool.not_eq_true', beq_iff_eq, beq_eq_false_iff_ne] at h
    obtain ⟨⟨⟨hn, ho⟩, hk⟩, hr⟩ := h
    cases e1 : xs.drop i with
    | nil => rw [e1] at h1; cases h1
    | cons a xs' =>
      cases e2 : ys.drop i with
      | nil => rw [e2] at h2; cases h2
      | cons b ys' =>
        have d1 : xs.drop (i + 1) = xs' := by rw [← List.drop_drop, e1]; rfl
        have d2 : ys.drop (i + 1) = ys' := by rw [← List.drop_drop, e2]; rfl
        have g1 : xs.toArray[i]? = some a := by
          have : (xs.drop i)[0]? = some a := by rw [e1]; rfl
          simpa using this
        have g2 : ys.toArray[i]? = some b := by
          have : (ys.drop i)[0]? = some b := by rw [e2]; rfl
          simpa using this
        rw [e1] at h1
        rw [e2] at h2
        simp only [fitCells, Bool.and_eq_true] at h1 h2
        have ih := run_flat xs ys fs ks (i + 1) w hr (by rw [d1]; exact h1.2) (by rw [d2]; exact h2.2)
        rw [d1, d2] at ih
        simp only [Op.eqFields]
        rw [if_pos hn]
        cases hu : P.underlying f.type with
        | none => rw [hu] at hk; cases hk
        | some dd =>
          rw [hu] at hk
          have hagg : isAggD dd = false := by
            cases dd <;> first | rfl | (cases k <;> simp at hk)
          have p1 := run_part1 (P := P) (w := w) hu hagg (i := f.offset) (by rw [ho]; exact g1)
          have p2 := run_part1 (P := P) (w := w) hu hagg (i := f.offset) (by rw [ho]; exact g2)
          have heq : (Op.equalIn 9999 f.type a b).run P w = .ok (eqCell a b) w := by
            cases k with
            | int kk =>
              cases a <;> simp [fitCell] at h1
              cases b <;> simp [fitCell] at h2
              cases dd <;> simp at hk
              obtain ⟨e3, _⟩ := h1
              obtain ⟨e4, _⟩ := h2
              subst e3
              subst e4
              rw [run_equalIn_int w 9998 f.type _ _ _ _ hu]
              simp [eqCell, beq_dec]
            | str =>
              cases a <;> simp [fitCell] at h1
              cases b <;> simp [fitCell] at h2
              cases dd <;> simp at hk
              rw [run_equalIn_string w 9998 _ _ _ hu]
              simp only [eqCell]
              congr 1
              exact beq_dec _ _
            | bool =>
              cases a <;> simp [fitCell] at h1
              cases b <;> simp [fitCell] at h2
              cases dd <;> simp at hk
              rw [run_equalIn_bool' w 9998 _ _ _ hu]
              simp only [eqCell, beq_dec]
          simp only [Sem.run_bind, p1, p2, Result.andThen_ok, heq, eqCells]
          cases hc : eqCell a b with
          | false => simp
          | true => simpa using ih

class TyBool (P : Program) (t : TypeId) : Prop where out : P.underlying t = some .bool
theorem op_eql_bool [TyBool P t] {a b : Bool} (hw : want ops l ⟨some d, .binOp .eql t x y t', ty, pos, af, g⟩ = some true := by rfl) (hN : Nat.blt d N = true := by rfl)
    (hx : ev l x = some (.bool a) := by rfl) (hy : ev l y = some (.bool b) := by rfl) (k : WL P N ds ops Q os ((d, .bool (decide (a = b))) :: l) w) :
    WL P N ds ops Q (⟨some d, .binOp .eql t x y t', ty, pos, af, g⟩ :: os) l w :=
  wl_value rfl hw hN (fun c hc => by
    have h1 := run_equalIn_bool' (P := P) w 9999 t a b (TyBool.out (P := P) (t := t))
    simp only [execOp, hc.ev hx, hc.ev hy, eqGuard, binOp, Op.equal, Op.maxDepth]
    simp [h1, beq_dec]) k
theorem op_eql_flat {ks : List FK} [FlatT P t ks] {xs ys : List Value} (hw : want ops l ⟨some d, .binOp .eql t x y t', ty, pos, af, g⟩ = some true := by rfl) (hN : Nat.blt d N = true := by rfl)
    (hx : ev l x = some (.agg xs.toArray) := by rfl) (hy : ev l y = some (.agg ys.toArray) := by rfl) (h1 : fitCells ks xs = true := by rfl) (h2 : fitCells ks ys = true := by rfl)
    (k : WL P N ds ops Q os ((d, .bool (eqCells xs ys)) :: l) w) : WL P N ds ops Q (⟨some d, .binOp .eql t x y t', ty, pos, af, g⟩ :: os) l w :=
  wl_value rfl hw hN (fun c hc => by
    obtain ⟨fs, a1, a2, a3, a4⟩ := FlatT.out (P := P) (t := t)
    have hf : P.fieldsOf t = fs := by simp [Program.fieldsOf, a1]
    have r1 := run_eqGuard_agg (P := P) w .eql t x y xs.toArray ys.toArray a4
    have r2 := run_equalIn_agg (P := P) w 9999 t xs.toArray ys.toArray (by rw [hf]; exact a1) a3
    rw [hf, run_flat xs ys _ _ 0 _ a2 h1 h2] at r2
    simp only [execOp, hc.ev hx, hc.ev hy, Sem.run_bind, r1, Result.andThen_ok, run_eql_struct, r2, Sem.run_pure, List.drop_zero]) k
end
end Go.Fw
end
section
namespace Go.Fw
open Go
section
variable {P : Program} {ops : Array Oper} {md : Region.Mode} {C : World → Prop}

def anyHead (P : Program) (md : Region.Mode) (ops : Array Oper) (C : World → Prop) (n : Nat) (L : Array Bool → Act → Prop) : Nat → Array Bool → Act → Prop
  | 0, listed, a => L listed a
  | f + 1, listed, a => Region.ready md ops listed ≠ [] ∧ ∀ i ∈ Region.ready md ops listed, i < n ∧ qOp P ops C i (anyHead P md ops C n L f (listed.setIfInBounds i true)) a

theorem any_of_head {n g : Nat} {L : Array Bool → Act → Prop} {Q' : Exit → Act → World → Prop} (hL : ∀ listed a w, C w → L listed a → wpAny P md ops Q' g listed a w) :
    ∀ (f : Nat) (listed : Array Bool) (a : Act) (w : World), C w → anyHead P md ops C n L f listed a → wpAny P md ops Q' (f + g) listed a w
  | 0, listed, a, w, hw, h => by rw [Nat.zero_add]; exact hL _ _ _ hw h
  | f + 1, listed, a, w, hw, h => by
    rw [show f + 1 + g = (f + g) + 1 by omega]
    exact ⟨fun h0 => absurd h0 h.1, fun i hi => wpOp_of_qOp hw (fun a' w' hw' h' => any_of_head hL f _ a' w' hw' h') (h.2 i hi).2⟩

theorem anyHead_first {n i : Nat} {oi : Oper} {v : Value} {L : Array Bool → Act → Prop} (hi : ops[i]? = some oi) (hsel : ∀ (j : Nat) (o : Oper) cs b, ops[j]? = some o → o.op ≠ .select cs b)
    (hs : Region.sinkB md ops n = true) (hc : Region.chainB md ops n = true) (hn : n < ops.size) (hin : i < n)
    (hdone : ∀ listed a, L listed a → ∀ j ∈ Region.ready md ops listed, n ≤ j) :
    ∀ (f : Nat) (listed : Array Bool) (a : Act), HeadInv md ops n listed →
      (∀ j oj, ops[j]? = some oj → j ≠ i → listed.getD j true = false → (∀ e ∈ oj.after, Region.binds md e = true → e.on ≠ i) → oi.apart ops oj = true) →
      i ∈ Region.ready md ops listed → YieldsIn P ops C oi v a →
      anyHead P md ops C n L f (listed.setIfInBounds i true) (a.put oi.dst v) → anyHead P md ops C n L (f + 1) listed a := by
  intro f
  induction f with
  | zero =>
    intro listed a inv _ hr hy H
    have hun := (mem_ready.1 hr).1
    refine ⟨fun h => (by rw [h] at hr; cases hr), fun j hj => ?_⟩
    have hjn : j < n := by
      rcases Nat.lt_or_ge j n with h | h
      · exact h
      · exact absurd hj (tail_waits hs hc hn inv _ i rfl hin hun j h)
    refine ⟨hjn, ?_⟩
    by_cases hji : j = i
    · subst hji; exact hy.qOp hi H
    · have := hdone _ _ H j (ready_mono hj hji)
      omega
  | succ f ih =>
    intro listed a inv hfree hr hy H
    have hun := (mem_ready.1 hr).1
    refine ⟨fun h => (by rw [h] at hr; cases hr), fun j hj => ?_⟩
    have hjn : j < n := by
      rcases Nat.lt_or_ge j n with h | h
      · exact h
      · exact absurd hj (tail_waits hs hc hn inv _ i rfl hin hun j h)
    refine ⟨hjn, ?_⟩
    by_cases hji : j = i
    · subst hji; exact hy.qOp hi H
    · have h1 := (H.2 j (ready_mono hj hji)).2
      obtain ⟨hjun, oj, hoj, hall⟩ := mem_ready.1 hj
      have hnot : ∀ e ∈ oj.after, Region.binds md e = true → e.on ≠ i := fun e he hb heq => by
        have h1 := hall e he hb
        rw [heq, getD_both hun] at h1
        cases h1
      have h2 := qOp_put hoj (hfree j oj hoj hji hjun hnot) (fun cs b => hsel i oi cs b hi) (fun cs b => hsel j oj cs b hoj) hy h1
      have hfree' : ∀ k ok, ops[k]? = some ok → k ≠ i → (listed.setIfInBounds j true).getD k true = false →
          (∀ e ∈ ok.after, Region.binds md e = true → e.on ≠ i) → oi.apart ops ok = true := fun k ok hk hki hun hno => by
        refine hfree k ok hk hki ?_ hno
        by_cases hjk : j = k
        · subst hjk; exact hjun
        · rw [getD_set_ne true hjk] at hun; exact hun
      refine qOp_mono (fun a' h3 => ih (listed.setIfInBounds j true) a' (inv.set hj hjn) hfree' (ready_mono hr (Ne.symm hji)) h3.1 ?_) h2
      rw [Array.setIfInBounds_comm _ _ hji]
      exact h3.2

theorem anyHead_lex {n g : Nat} {Lq : Act → Prop} (hsel : Region.noSelect ops = true) (hs : Region.sinkB md ops n = true) (hc : Region.chainB md ops n = true) (hn : n < ops.size) :
    ∀ (l : List Oper) (k : Nat) (listed : Array Bool) (a : Act), (∀ j, j < l.length → l[j]? = ops[k + j]?) → k + l.length = n → HeadInv md ops n listed →
    Region.lexHead md ops g l.length k listed = true → wpQuiet P ops C Lq l a →
    anyHead P md ops C n (fun listed' a' => Region.seqB md ops g n listed' = true ∧ Lq a') l.length listed a
  | [], k, listed, a, _, hk, _, hB, h => by
    have : k = n := by simpa using hk
    subst this
    exact ⟨by simpa [Region.lexHead] using hB, h⟩
  | o :: l, k, listed, a, hl, hk, inv, hB, h => by
    have h0 : ops[k]? = some o := by simpa using (hl 0 (by simp)).symm
    simp only [List.length_cons, Region.lexHead, Bool.and_eq_true] at hB
    obtain ⟨⟨hr, hf⟩, hB'⟩ := hB
    have hkn : k < n := by simp only [List.length_cons] at hk; omega
    have hr' : k ∈ Region.ready md ops listed := by simpa using hr
    have hst : qOp P ops C k (wpQuiet P ops C Lq l) a := by unfold qOp; simp only [h0]; exact h
    obtain ⟨v, hy, hK⟩ := yieldsIn_of_qOp h0 hst
    exact anyHead_first h0 (Region.noSelect_spec hsel) hs hc hn hkn (fun listed' a' hL => seqB_ready hL.1) l.length listed a inv (Region.free_spec h0 hf) hr' hy
      (anyHead_lex hsel hs hc hn l (k + 1) _ _ (fun j hj => by have := hl (j + 1) (by simp; omega); simpa [Nat.add_assoc, Nat.add_comm 1 j] using this) (by simp only [List.length_cons] at hk; omega) (inv.set hr' hkn) hB' hK)

theorem wp_region_quiet_tail {id : Nat} {Q : Exit → Act → World → Prop} {a : Act} {w : World} {l : List Oper} (n : Nat) (hm : P.follows .mixedOrders = true) (hB : Region.lexTailB .any l.toArray n = true)
    (hC : C { w with drawn := w.drawn + 1 })
    (h : wpQuiet P l.toArray C (fun a' => ∀ w', C w' → wpList P l.toArray Q (l.drop n) a' w') (l.take n) a) : (Code.region id l.toArray true).wp P Q a w := by
  simp only [Region.lexTailB, Bool.and_eq_true, decide_eq_true_eq] at hB
  obtain ⟨⟨⟨⟨hsel, hn⟩, hs⟩, hc⟩, hlex⟩ := hB
  have hn' : n < l.length := by simpa using hn
  have htl : (l.take n).length = n := by simp; omega
  have hdl : (l.drop n).length = l.toArray.size - n := by simp
  have inv0 : HeadInv .any l.toArray n (Array.replicate l.toArray.size false) :=
    ⟨by simp, fun j oj _ hl => (by rw [getD_replicate_false] at hl; cases hl), fun t _ ht => getD_in (by simpa using ht) (getD_replicate_false _ _)⟩
  have H := anyHead_lex (md := .any) (g := l.toArray.size - n) hsel hs hc hn (l.take n) 0 _ a (fun j hj => by
    have hj' : j < n := by rw [htl] at hj; exact hj
    simp [hj']) (by simpa using htl) inv0 (by rw [htl]; exact hlex) h
  refine wp_region_any hm ?_
  have := any_of_head (Q' := Q) (g := l.toArray.size - n) (fun listed a' w' hw' hL => by
    have := wpAny_of_seq (md := .any) (Q' := Q) (l.drop n) n listed a' w' (fun j => by simp [List.getElem?_drop]) (by rw [hdl]; exact hL.1) (hL.2 w' hw')
    rwa [hdl] at this) _ _ _ _ hC H
  rw [htl, show n + (l.toArray.size - n) = l.toArray.size by omega] at this
  exact this
end

section
variable {P : Program} {N : Nat} {ds : List Deferred} {K : Act → World → Prop} {Q : Exit → Act → World → Prop} {l l' : Log} {w w' : World} {ops : Array Oper} {os : List Oper} {o : Oper}

structure WQ (P : Program) (N : Nat) (ds : List Deferred) (ops : Array Oper) (w : World) (K : Act → World → Prop) (os : List Oper) (l : Log) : Prop where
  run : ∀ a, Fits N ds l a → wpQuiet P ops (fun w' => Kept [] w w') (fun a' => ∀ w', Kept [] w w' → K a' w') os a

class Mixed (P : Program) : Prop where out : P.follows .mixedOrders = true

theorem wc_quiet [Mixed P] {id : Nat} {os : List Oper} (hB : Region.lexB .any os.toArray = true := by kernel_rfl)
    (h : WQ P N ds os.toArray w (fun a' w' => Q .normal a' w') os l) : WC P N ds (.region id os.toArray true) Q l w :=
  ⟨fun a ha => wp_region_quiet (C := fun w' => Kept [] w w') Mixed.out hB (Kept.drew w) (by simpa using h.run a ha)⟩
theorem wc_quiet_tail [Mixed P] {id : Nat} {os : List Oper} (n : Nat) (hB : Region.lexTailB .any os.toArray n = true := by kernel_rfl)
    (h : WQ P N ds os.toArray w (fun a' w' => wpList P os.toArray Q (os.drop n) a' w') (os.take n) l) : WC P N ds (.region id os.toArray true) Q l w :=
  ⟨fun a ha => wp_region_quiet_tail n Mixed.out hB (Kept.drew w) (h.run a ha)⟩

theorem wq_nil_tail {os' : List Oper} (h : ∀ w', Kept [] w w' → WL P N ds ops Q os' l w') : WQ P N ds ops w (fun a' w' => wpList P ops Q os' a' w') [] l :=
  ⟨fun a ha => wpQuiet_nil (fun w' hw => (h w' hw).run a ha)⟩
theorem wq_nil (h : ∀ w', Kept [] w w' → At N ds Q .normal l w') : WQ P N ds ops w (fun a' w' => Q .normal a' w') [] l :=
  ⟨fun a ha => wpQuiet_nil (fun w' hw => (h w' hw).run a ha)⟩

theorem wq_value {d : Nat} {v : Value} (hd : o.dst = some d) (hw : want ops l o = some true) (hN : Nat.blt d N = true)
    (hrun : ∀ w', Kept [] w w' → ∀ a, Fits N ds l a → (execOp a.eval o).run P w' = .ok (.value v) w')
    (k : WQ P N ds ops w K os ((d, v) :: l)) : WQ P N ds ops w K (o :: os) l :=
  ⟨fun a ha => by
    unfold wpQuiet
    rw [want_spec ha hw]
    refine ⟨v, fun w' hw' => ?_, by rw [hd]; exact k.run _ (ha.put hN v)⟩
    unfold Oper.quietAt
    rw [hrun w' hw' a ha]
    exact ⟨rfl, rfl⟩⟩
theorem wq_skip {d : Nat} (hd : o.dst = some d := by rfl) (hw : want ops l o = some false := by rfl) (hN : Nat.blt d N = true := by rfl)
    (k : WQ P N ds ops w K os ((d, undef) :: l)) : WQ P N ds ops w K (o :: os) l := ⟨fun a ha => by
  unfold wpQuiet
  rw [want_spec ha hw, hd]
  exact k.run _ (ha.put hN _)⟩
theorem wq_split {j : Nat} {b : Bool} {c : Bool} {t : Nat} (_hg : o.guard = some (j, c) := by rfl) (_ht : (ops[j]?).bind (·.dst) = some t := by rfl) (hb : lk l t = some (.bool b) := by rfl)
    (h1 : b = true → WQ P N ds ops w K (o :: os) ((t, .bool true) :: l)) (h0 : b = false → WQ P N ds ops w K (o :: os) ((t, .bool false) :: l)) :
    WQ P N ds ops w K (o :: os) l := by
  have key : ∀ c, b = c → WQ P N ds ops w K (o :: os) ((t, .bool c) :: l) → WQ P N ds ops w K (o :: os) l := fun c e h => ⟨fun a ha => by
    subst e
    refine h.run a ⟨ha.size, ha.defs, fun s v hv => ?_⟩
    simp only [lk] at hv
    cases hs : Nat.beq s t with
    | true => rw [hs] at hv; have := Nat.eq_of_beq_eq_true hs; subst this; simp at hv; subst hv; exact ha.vals _ _ hb
    | false => rw [hs] at hv; exact ha.vals _ _ (by simpa using hv)⟩
  cases hb' : b with
  | true => exact key true hb' (h1 hb')
  | false => exact key false hb' (h0 hb')
theorem wq_split_dec {j : Nat} {p : Prop} [Decidable p] {c : Bool} {t : Nat} (hg : o.guard = some (j, c) := by rfl) (ht : (ops[j]?).bind (·.dst) = some t := by rfl) (hb : lk l t = some (.bool (decide p)) := by rfl)
    (h1 : p → WQ P N ds ops w K (o :: os) ((t, .bool true) :: l)) (h0 : ¬ p → WQ P N ds ops w K (o :: os) ((t, .bool false) :: l)) :
    WQ P N ds ops w K (o :: os) l :=
  wq_split hg ht hb (fun h => h1 (of_decide_eq_true h)) (fun h => h0 (of_decide_eq_false h))
theorem wq_enter {d : Nat} {v : Value} {f : FuncId} {args : Array Value} (hd : o.dst = some d) (hw : want ops l o = some true) (hN : Nat.blt d N = true)
    (hrun : ∀ w' a, Fits N ds l a → (execOp a.eval o).run P w' = .ok (.enter f args) w')
    (hc : ∀ w', Kept [] w w' → Cal P f args w' (fun u w'' => u = v ∧ Kept [] w' w''))
    (k : WQ P N ds ops w K os ((d, v) :: l)) : WQ P N ds ops w K (o :: os) l :=
  ⟨fun a ha => by
    unfold wpQuiet
    rw [want_spec ha hw]
    refine ⟨v, fun w' hw' => ?_, by rw [hd]; exact k.run _ (ha.put hN v)⟩
    unfold Oper.quietAt
    rw [hrun w' a ha]
    refine ⟨rfl, Calls.mono (hc w' hw').run (fun e w2 q => ?_)⟩
    cases e with
    | returned u => exact ⟨by rw [q.1], hw'.trans q.2⟩
    | panicked c => exact q.elim
    | outgrown => exact q.elim⟩
end
end Go.Fw
end
