/- Own work: texts SpecSort, FwIns, SpecFlow, SpecEff, one behind the other. -/
import Derived.Test.YtghommdgmglmdaaDoorEl13
import Derived.Shelf.Spec.SearchS
import Derived.Shelf.Spec.SlicesInsert
import Derived.Shelf.Spec.SlicesInsertGrow
section
namespace Go.Sp
abbrev Nm := List UInt8
theorem nlt_irrefl (a : Nm) : ¬ a < a := List.lt_irrefl a
theorem nlt_trans {a b c : Nm} (h : a < b) (k : b < c) : a < c := List.lt_trans h k
theorem nlt_tri (a b : Nm) : a < b ∨ a = b ∨ b < a := by
  rcases Decidable.em (a < b) with h | h
  · exact .inl h
  · rcases Decidable.em (b < a) with k | k
    · exact .inr (.inr k)
    · exact .inr (.inl (List.le_antisymm (List.not_lt.1 k) (List.not_lt.1 h)))
theorem nlt_asymm {a b : Nm} (h : a < b) : ¬ b < a := fun k => nlt_irrefl a (nlt_trans h k)
/-- rising, none twice. -/
def Srt (l : List Nm) : Prop := l.Pairwise (· < ·)
theorem Srt.nil : Srt [] := List.Pairwise.nil
theorem srt_ext : ∀ {a b : List Nm}, Srt a → Srt b → (∀ x, x ∈ a ↔ x ∈ b) → a = b
  | [], [], _, _, _ => rfl
  | [], y :: b, _, _, h => absurd ((h y).2 List.mem_cons_self) (by simp)
  | x :: a, [], _, _, h => absurd ((h x).1 List.mem_cons_self) (by simp)
  | x :: a, y :: b, ha, hb, h => by
    obtain ⟨ha1, ha2⟩ := List.pairwise_cons.1 ha
    obtain ⟨hb1, hb2⟩ := List.pairwise_cons.1 hb
    have hx := (h x).1 List.mem_cons_self
    have hy := (h y).2 List.mem_cons_self
    have e : x = y := by
      rcases List.mem_cons.1 hx with e | hx
      · exact e
      · rcases List.mem_cons.1 hy with e | hy
        · exact e.symm
        · exact absurd (ha1 y hy) (nlt_asymm (hb1 x hx))
    subst e
    congr 1
    refine srt_ext ha2 hb2 (fun z => ⟨fun hz => ?_, fun hz => ?_⟩)
    · rcases List.mem_cons.1 ((h z).1 (List.mem_cons_of_mem _ hz)) with e | h1
      · subst e; exact absurd (ha1 z hz) (nlt_irrefl z)
      · exact h1
    · rcases List.mem_cons.1 ((h z).2 (List.mem_cons_of_mem _ hz)) with e | h1
      · subst e; exact absurd (hb1 z hz) (nlt_irrefl z)
      · exact h1
def insT (s : Nm) : List Nm → List Nm
  | [] => [s]
  | x :: l => if x < s then x :: insT s l else s :: x :: l
/-- one more; none that is there, nor an empty one. -/
def addE (l : List Nm) (s : Nm) : List Nm := if s = [] ∨ s ∈ l then l else insT s l
theorem insT_mem (s x : Nm) : ∀ (l : List Nm), x ∈ insT s l ↔ x = s ∨ x ∈ l
  | [] => by simp [insT]
  | y :: l => by
    rw [insT]
    split
    · rw [List.mem_cons, insT_mem s x l, List.mem_cons]
      constructor
      · rintro (h | h | h)
        · exact .inr (.inl h)
        · exact .inl h
        · exact .inr (.inr h)
      · rintro (h | h | h)
        · exact .inr (.inl h)
        · exact .inl h
        · exact .inr (.inr h)
    · simp
theorem insT_srt {s : Nm} : ∀ {l : List Nm}, Srt l → s ∉ l → Srt (insT s l)
  | [], _, _ => by rw [insT]; exact List.pairwise_singleton _ _
  | y :: l, h, hs => by
    obtain ⟨h1, h2⟩ := List.pairwise_cons.1 h
    rw [insT]
    split
    · rename_i hy
      refine List.pairwise_cons.2 ⟨fun z hz => ?_, insT_srt h2 (fun hm => hs (List.mem_cons_of_mem _ hm))⟩
      rcases (insT_mem s z l).1 hz with rfl | hz
      · exact hy
      · exact h1 z hz
    · rename_i hy
      have hsy : s < y := by
        rcases nlt_tri s y with h | h | h
        · exact h
        · subst h; exact absurd List.mem_cons_self hs
        · exact absurd h hy
      refine List.pairwise_cons.2 ⟨fun z hz => ?_, h⟩
      rcases List.mem_cons.1 hz with rfl | hz
      · exact hsy
      · exact nlt_trans hsy (h1 z hz)
theorem insT_len (s : Nm) : ∀ (l : List Nm), (insT s l).length = l.length + 1
  | [] => rfl
  | y :: l => by
    rw [insT]
    split
    · rw [List.length_cons, insT_len s l, List.length_cons]
    · rfl
/-- where it goes: behind all that are less. -/
theorem insT_at {s : Nm} : ∀ {l : List Nm} {k : Nat}, k ≤ l.length → (∀ j x, j < k → l[j]? = some x → x < s) → (∀ x, l[k]? = some x → ¬ x < s) → insT s l = l.take k ++ s :: l.drop k
  | [], k, hk, _, _ => by
    obtain rfl : k = 0 := by simpa using hk
    rfl
  | y :: l, 0, _, _, h2 => by
    rw [insT, if_neg (h2 y rfl)]; rfl
  | y :: l, k + 1, hk, h1, h2 => by
    rw [insT, if_pos (h1 0 y (by omega) rfl), List.take_succ_cons, List.drop_succ_cons, List.cons_append]
    congr 1
    refine insT_at (by simpa using hk) (fun j x hj hx => h1 (j + 1) x (by omega) (by simpa using hx)) (fun x hx => h2 x (by simpa using hx))
theorem addE_mem (l : List Nm) (s x : Nm) : x ∈ addE l s ↔ x ∈ l ∨ (x = s ∧ s ≠ []) := by
  rw [addE]
  split
  · rename_i h
    constructor
    · exact .inl
    · rintro (h1 | ⟨rfl, h1⟩)
      · exact h1
      · rcases h with h | h
        · exact absurd h h1
        · exact h
  · rename_i h
    rw [insT_mem]
    constructor
    · rintro (rfl | h1)
      · exact .inr ⟨rfl, fun e => h (.inl e)⟩
      · exact .inl h1
    · rintro (h1 | ⟨rfl, _⟩)
      · exact .inr h1
      · exact .inl rfl
theorem addE_srt {l : List Nm} (h : Srt l) (s : Nm) : Srt (addE l s) := by
  rw [addE]
  split
  · exact h
  · rename_i h1
    exact insT_srt h (fun hm => h1 (.inr hm))
theorem addE_len (l : List Nm) (s : Nm) : l.length ≤ (addE l s).length ∧ (addE l s).length ≤ l.length + 1 := by
  rw [addE]
  split
  · omega
  · rw [insT_len]; omega
theorem addE_same {l : List Nm} {s : Nm} (h : s = [] ∨ s ∈ l) : addE l s = l := by rw [addE, if_pos h]
theorem addE_new {l : List Nm} {s : Nm} (h : ¬ (s = [] ∨ s ∈ l)) : addE l s = insT s l := by rw [addE, if_neg h]
/-- all of others as well. -/
def joinE (a b : List Nm) : List Nm := b.foldl addE a
theorem joinE_mem : ∀ (b a : List Nm) (x : Nm), x ∈ joinE a b ↔ x ∈ a ∨ (x ∈ b ∧ x ≠ [])
  | [], a, x => by simp [joinE]
  | y :: b, a, x => by
    show x ∈ joinE (addE a y) b ↔ _
    rw [joinE_mem b, addE_mem, List.mem_cons]
    constructor
    · rintro ((h | ⟨rfl, h⟩) | ⟨h, k⟩)
      · exact .inl h
      · exact .inr ⟨.inl rfl, h⟩
      · exact .inr ⟨.inr h, k⟩
    · rintro (h | ⟨rfl | h, k⟩)
      · exact .inl (.inl h)
      · exact .inl (.inr ⟨rfl, k⟩)
      · exact .inr ⟨h, k⟩
theorem joinE_srt : ∀ (b : List Nm) {a : List Nm}, Srt a → Srt (joinE a b)
  | [], _, h => h
  | y :: b, a, h => joinE_srt b (addE_srt h y)
theorem joinE_same : ∀ (b : List Nm) {a : List Nm}, (∀ x ∈ b, x ∈ a) → joinE a b = a
  | [], _, _ => rfl
  | y :: b, a, h => by
    show joinE (addE a y) b = a
    rw [addE_same (.inr (h y List.mem_cons_self))]
    exact joinE_same b (fun x hx => h x (List.mem_cons_of_mem _ hx))
theorem joinE_step {a b : List Nm} {k : Nat} {x : Nm} (h : b[k]? = some x) : joinE a (b.take (k + 1)) = addE (joinE a (b.take k)) x := by
  rw [take_succ_get h, joinE, List.foldl_append]; rfl
/-- a row is no longer than what it is of. -/
theorem srt_len {a u : List Nm} (ha : Srt a) (h : ∀ x ∈ a, x ∈ u) : a.length ≤ u.length := by
  induction a generalizing u with
  | nil => exact Nat.zero_le _
  | cons x a ih =>
    obtain ⟨h1, h2⟩ := List.pairwise_cons.1 ha
    have hx := h x List.mem_cons_self
    have := ih (u := u.erase x) h2 (fun y hy => (List.mem_erase_of_ne (fun e => nlt_irrefl x (by have h2 := h1 y hy; rw [e] at h2; exact h2))).2 (h y (List.mem_cons_of_mem _ hy)))
    rw [List.length_erase_of_mem hx] at this
    have := List.length_pos_of_mem hx
    rw [List.length_cons]; omega
/-- the same length is the same. -/
theorem srt_same {a b : List Nm} (ha : Srt a) (hb : Srt b) (h : ∀ x ∈ a, x ∈ b) (hl : b.length ≤ a.length) : a = b := by
  refine srt_ext ha hb (fun x => ⟨h x, fun hx => ?_⟩)
  refine Decidable.byContradiction (fun hn => ?_)
  have h1 := srt_len (a := insT x a) (u := b) (insT_srt ha hn) (fun y hy => by
    rcases (insT_mem x y a).1 hy with rfl | hy
    · exact hx
    · exact h y hy)
  rw [insT_len] at h1
  omega
end Go.Sp
end
section
namespace Go.Fw
open Go
abbrev encS (s : List UInt8) : List Value := [str s]
theorem setCell_heap {w : World} {b o : Nat} {c : Array Value} {e : TypeId} {fr : Nat × Nat} {v : Value} (h : w.heap[b]? = some (.cells c e fr)) : (w.setCell ⟨b, o, none⟩ v).heap[b]? = some (.cells (c.setIfInBounds o v) e fr) := by
  simp [World.setCell, Array.getElem?_modify, h]
theorem setCell_kept (w : World) (b o : Nat) (v : Value) : Kept [b] w (w.setCell ⟨b, o, none⟩ v) :=
  ⟨rfl, rfl, rfl, by simp [World.setCell], fun k _ hk => by
    have : b ≠ k := fun e => hk (by rw [e]; simp)
    simp [World.setCell, Array.getElem?_modify, this]⟩
theorem setCells_kept (b : Nat) : ∀ (vs : List Value) (o : Nat) (w : World), Kept [b] w (w.setCells b o vs)
  | [], _, w => Kept.refl _ w
  | v :: vs, o, w => (setCell_kept w b o v).trans (setCells_kept b vs (o + 1) _)
/-- what a block holds behind that. -/
theorem setCells_heap {b : Nat} {e : TypeId} {fr : Nat × Nat} : ∀ (vs : List Value) (o : Nat) (w : World) (c : List Value), w.heap[b]? = some (.cells c.toArray e fr) → o + vs.length ≤ c.length →
    (w.setCells b o vs).heap[b]? = some (.cells (c.take o ++ (vs ++ c.drop (o + vs.length))).toArray e fr)
  | [], o, w, c, h, _ => by
    show w.heap[b]? = _
    rw [h, List.nil_append, List.length_nil, Nat.add_zero, List.take_append_drop]
  | v :: vs, o, w, c, h, hl => by
    rw [List.length_cons] at hl
    have h1 := setCell_heap (o := o) (v := v) h
    rw [show c.toArray.setIfInBounds o v = (c.set o v).toArray by simp] at h1
    have h2 := setCells_heap vs (o + 1) _ (c.set o v) h1 (by rw [List.length_set]; omega)
    show ((w.setCell ⟨b, o, none⟩ v).setCells b (o + 1) vs).heap[b]? = _
    rw [h2]
    congr 2
    apply congrArg
    have e1 : (c.set o v).take (o + 1) = c.take o ++ [v] := by
      rw [List.take_set, List.take_succ_eq_append_getElem (by omega), List.set_append, if_neg (by rw [List.length_take]; omega), List.length_take, Nat.min_eq_left (by omega), Nat.sub_self]
      rfl
    have e2 : (c.set o v).drop (o + 1 + vs.length) = c.drop (o + 1 + vs.length) := by
      rw [List.drop_set, if_pos (by omega)]
    rw [e1, e2, List.length_cons, show o + (vs.length + 1) = o + 1 + vs.length by omega, List.append_assoc, List.cons_append, List.nil_append, List.cons_append]
theorem Kept.drewN : ∀ (q : Nat) (w : World), Kept [] w (w.drewN q)
  | q, w => ⟨rfl, rfl, rfl, Nat.le_refl _, fun _ _ _ => rfl⟩
theorem cell_row {w : World} {g cap n sz : Nat} {e : TypeId} {cur : Array Value} {xs : List Value} (hg : w.heap[g]? = some (.cells cur e (0, 0))) (ht : cur.toList.take (n * sz) = xs) {j : Nat} {v : Value} (h : xs[j]? = some v) : w.cell? ⟨g, 0 + j, none⟩ = some v := by
  rw [Nat.zero_add]
  refine cell_of hg ?_
  rw [← ht, List.getElem?_take] at h
  split at h
  · simpa using h
  · cases h
theorem flat_one {α : Type} (f : α → Value) (l : List α) : l.flatMap (fun a => [f a]) = l.map f := by
  induction l with
  | nil => rfl
  | cons a l ih => rw [List.flatMap_cons, ih]; rfl
section
open Go.Sp (Srt insT addE)
theorem bytes_lt : ∀ (x y : List UInt8), Op.bytesLess x y = decide (x < y)
  | [], [] => by simp [Op.bytesLess]
  | _ :: _, [] => by simp [Op.bytesLess]
  | [], _ :: _ => by simp [Op.bytesLess]
  | a :: x, b :: y => by
    rw [Op.bytesLess, bytes_lt x y]
    simp only [List.cons_lt_cons_iff]
    by_cases h1 : a < b <;> by_cases h2 : a = b <;> by_cases h3 : x < y <;> simp [h1, h2, h3]
/-- where a text stands, or would. -/
def posE (l : List (List UInt8)) (s : List UInt8) : Nat := (l.takeWhile (fun x => decide (x < s))).length
theorem pos_spec {s : List UInt8} : ∀ {l : List (List UInt8)}, Srt l → (∀ j x, j < posE l s → l[j]? = some x → x < s) ∧ (∀ j x, posE l s ≤ j → l[j]? = some x → ¬ x < s) ∧ posE l s ≤ l.length
  | [], _ => ⟨fun j x _ h => by simp at h, fun j x _ h => by simp at h, Nat.le_refl _⟩
  | a :: l, h => by
    obtain ⟨h1, h2⟩ := List.pairwise_cons.1 h
    obtain ⟨i1, i2, i3⟩ := pos_spec (s := s) h2
    by_cases ha : a < s
    · have e : posE (a :: l) s = posE l s + 1 := by simp [posE, List.takeWhile_cons, ha]
      rw [e]
      refine ⟨fun j x hj hx => ?_, fun j x hj hx => ?_, by rw [List.length_cons]; omega⟩
      · cases j with
        | zero => simp only [List.getElem?_cons_zero, Option.some.injEq] at hx; rw [← hx]; exact ha
        | succ j => exact i1 j x (by omega) (by simpa using hx)
      · cases j with
        | zero => omega
        | succ j => exact i2 j x (by omega) (by simpa using hx)
    · have e : posE (a :: l) s = 0 := by simp [posE, List.takeWhile_cons, ha]
      rw [e]
      refine ⟨fun j x hj hx => by omega, fun j x hj hx => ?_, Nat.zero_le _⟩
      cases j with
      | zero => simp only [List.getElem?_cons_zero, Option.some.injEq] at hx; rw [← hx]; exact ha
      | succ j =>
        have hm := List.mem_of_getElem? (show l[j]? = some x by simpa using hx)
        exact fun hxs => ha (Sp.nlt_trans (h1 x hm) hxs)
theorem pos_found {l : List (List UInt8)} {s : List UInt8} (h : Srt l) : l[posE l s]? = some s ↔ s ∈ l := by
  obtain ⟨h1, h2, h3⟩ := pos_spec (s := s) h
  constructor
  · exact fun e => List.mem_of_getElem? e
  · intro hm
    obtain ⟨j, hj, rfl⟩ := List.getElem_of_mem hm
    have hg := List.getElem?_eq_getElem hj
    have h4 : posE l l[j] ≤ j := by
      rcases Nat.lt_or_ge j (posE l l[j]) with h5 | h5
      · exact absurd (h1 j _ h5 hg) (Sp.nlt_irrefl _)
      · exact h5
    have hk : posE l l[j] < l.length := by omega
    have hgk := List.getElem?_eq_getElem hk
    have h5 := h2 _ _ (Nat.le_refl _) hgk
    rcases Nat.lt_or_ge (posE l l[j]) j with h6 | h6
    · exact absurd (List.pairwise_iff_getElem.1 h _ _ hk hj h6) h5
    · have : posE l l[j] = j := by omega
      rw [this]; exact hg
end
section
variable {P : Program} {ρ : Shelf.Ren}
/-- slices.BinarySearch of an owned row of texts that rise. -/
theorem m_search (L : Proofs.Lays2.n26 P ρ) {I : Imm} {ty : TypeId} {l : List (List UInt8)} {a : Option Addr} {cp : Nat} (s : List UInt8) (hs : Sp.Srt l) (hn : l.length ≤ 1099511627776) :
    CalR P (ρ.f 26) #[.slice a l.length cp, str s] I [.row (.slice a l.length cp) ty 1 l.length (l.flatMap encS)] (.tuple #[.int .i64 (posE l s : Nat), .bool (decide (s ∈ l))]) := by
  refine ⟨fun w hI hH => ?_⟩
  have ho : w.ownsRow 0 ty 1 (.slice a l.length cp) l.length (l.flatMap encS) := hH _ List.mem_cons_self
  rcases ho.2 with ⟨hv, h0⟩ | ⟨g, cap, cur, hv, _, hg, hc, hcm, hsz, ht⟩
  · injection hv with e1 e2 e3
    subst e1; subst e3
    have hl : l = [] := List.eq_nil_of_length_eq_zero h0
    subst hl
    refine ⟨Calls.mono (Proofs.Any2.slices_BinarySearch_string_empty L none 0 ⟨s.toArray⟩ w) (fun e w' q => ?_)⟩
    obtain ⟨rfl, rfl⟩ := q
    exact ⟨rfl, Kept.refl _ _⟩
  · injection hv with e1 e2 e3
    subst e1; subst e3
    rw [Nat.mul_one] at ht
    have hcell : ∀ j, j < l.length → w.cell? ⟨g, 0 + j, none⟩ = some (.string ⟨(l.getD j []).toArray⟩) := fun j hj => by
      refine cell_row (cap := cp) (n := l.length) (sz := 1) (xs := l.flatMap encS) hg (by rw [Nat.mul_one]; exact ht) ?_
      rw [flat_one, List.getElem?_map, List.getElem?_eq_getElem hj, List.getD_eq_getElem?_getD, List.getElem?_eq_getElem hj]; rfl
    obtain ⟨p1, p2, p3⟩ := pos_spec (s := s) hs
    have hless : (fun t => Op.bytesLess (⟨(l.getD t []).toArray⟩ : ByteArray).toList (⟨s.toArray⟩ : ByteArray).toList) = fun t => decide (l.getD t [] < s) := by
      funext t; rw [str_toList, str_toList, bytes_lt]
    have hb := Lib.bsGo_spec (fun t => decide (t < l.length) && decide (l.getD t [] < s)) (posE l s) (fun t ht2 => by
      have hlt : t < l.length := by omega
      have := p1 t _ ht2 (List.getElem?_eq_getElem hlt)
      rw [Bool.and_eq_true, decide_eq_true_eq, decide_eq_true_eq, List.getD_eq_getElem?_getD, List.getElem?_eq_getElem hlt]
      exact ⟨hlt, this⟩) (fun t ht2 => by
      rw [Bool.and_eq_false_iff, decide_eq_false_iff_not, decide_eq_false_iff_not]
      rcases Nat.lt_or_ge t l.length with hlt | hlt
      · right
        rw [List.getD_eq_getElem?_getD, List.getElem?_eq_getElem hlt]
        exact p2 t _ ht2 (List.getElem?_eq_getElem hlt)
      · left; omega) l.length 0 l.length (by omega) (by omega) p3
    have hcongr : ∀ (f lo hi : Nat), hi ≤ l.length → Lib.bsGo (fun t => decide (l.getD t [] < s)) f lo hi = Lib.bsGo (fun t => decide (t < l.length) && decide (l.getD t [] < s)) f lo hi := by
      intro f
      induction f with
      | zero => intro lo hi _; rfl
      | succ f ih =>
        intro lo hi hhi
        unfold Lib.bsGo
        by_cases h : lo < hi
        · rw [if_pos h, if_pos h, ih _ _ hhi, ih _ _ (by omega), decide_eq_true (show (lo + hi) / 2 < l.length by omega), Bool.true_and]
        · rw [if_neg h, if_neg h]
    have hres := Proofs.Any2.slices_BinarySearch_string L g 0 l.length cp (fun j => ⟨(l.getD j []).toArray⟩) ⟨s.toArray⟩ w (by omega) hcell
    rw [hless, hcongr _ _ _ (Nat.le_refl _), hb] at hres
    refine ⟨Calls.mono hres (fun e w' q => ?_)⟩
    obtain ⟨rfl, qq, rfl⟩ := q
    refine ⟨?_, Kept.drewN qq w⟩
    have hfd : decide (posE l s < l.length ∧ (⟨(l.getD (posE l s) []).toArray⟩ : ByteArray) = ⟨s.toArray⟩) = decide (s ∈ l) := by
      rw [decide_eq_decide, ← pos_found hs]
      constructor
      · rintro ⟨h1, h2⟩
        have h3 : l.getD (posE l s) [] = s := by
          have := congrArg ByteArray.toList h2
          rwa [str_toList, str_toList] at this
        rw [List.getElem?_eq_getElem h1]
        rw [List.getD_eq_getElem?_getD, List.getElem?_eq_getElem h1] at h3
        exact congrArg some h3
      · intro h
        obtain ⟨h1, h2⟩ := List.getElem?_eq_some_iff.1 h
        exact ⟨h1, by rw [List.getD_eq_getElem?_getD, h]; rfl⟩
    rw [hfd]
/-- one row, by itself, turns in a call: as 'w'' has it. -/
theorem Mem.turn2 {E : Ent} {I : Imm} {w w' : World} {h h' v : HItem} (hm : Mem E I [h, v] w) (k : Kept h.blk.toList w w') (ho : h'.ok w') (hb : h'.blk = h.blk ∨ ∃ g, h'.blk = some g ∧ w.heap.size ≤ g) : Mem E I [h'] w' :=
  (hm.turn (i := 0) rfl k ho hb).hd
theorem zc_len (n : Nat) : (Builtin.zeroCells (Value.string ⟨#[]⟩).cells n).toList.length = n := by simp [Builtin.zeroCells, Value.cells]
/-- slices.Insert of one text into an owned row of texts. -/
theorem m_insert (L : Proofs.Lays2.n22 P ρ) {I : Imm} {ty : TypeId} (hty : ρ.t 9 = ty) {n k vb cp : Nat} {a : Option Addr} {xs : List Value} (u : List UInt8) (hk : k ≤ n) (hn : n ≤ 1000000000000) (h1 : xs.all (·.oneCell') = true) :
    CalM P (ρ.f 22) #[.slice a n cp, .int .i64 k, .slice (some ⟨vb, 0, none⟩) 1 1] I [.row (.slice a n cp) ty 1 n xs, .row (.slice (some ⟨vb, 0, none⟩) 1 1) ty 1 1 [str u]]
      (fun v _ H' => ∃ a' cp', v = .slice a' (n + 1) cp' ∧ H' = [.row (.slice a' (n + 1) cp') ty 1 (n + 1) (xs.take k ++ str u :: xs.drop k)]) := by
  refine CalM.of fun w E hm => ?_
  have hV : w.ownsRow 0 ty 1 (.slice (some ⟨vb, 0, none⟩) 1 1) 1 [str u] := hm.ok _ (List.mem_cons_of_mem _ List.mem_cons_self)
  have hR : w.ownsRow 0 ty 1 (.slice a n cp) n xs := hm.ok _ List.mem_cons_self
  have hxl : xs.length = n := by have := hR.1; omega
  have h1' : ∀ v ∈ xs, v.oneCell' = true := fun v hv => List.all_eq_true.1 h1 v hv
  have hu : ∀ v ∈ [str u], v.oneCell' = true := fun v hv => by
    obtain rfl : v = str u := by simpa using hv
    rfl
  obtain ⟨curv, hvg, hvs, hvt⟩ : ∃ curv : Array Value, w.heap[vb]? = some (.cells curv ty (0, 0)) ∧ curv.size = 1 ∧ curv.toList.take (1 * 1) = [str u] := by
    rcases hV.2 with ⟨h, _⟩ | ⟨g, cap, cur, hv, _, hg, _, _, hs, ht⟩
    · cases h
    · injection hv with e1 _ e3
      injection e1 with e1
      injection e1 with e1
      subst e1; subst e3
      exact ⟨cur, hg, by rw [hs], ht⟩
  have hvc : ∀ (j : Nat) (v : Value), [str u][j]? = some v → w.cell? ⟨vb, 0 + j, none⟩ = some v := fun j v hj => cell_row (cap := 1) (n := 1) (sz := 1) hvg hvt hj
  have hbig : (n + 1) * 16 ≤ 140737488355328 := by omega
  have hml : n + 1 ≤ maxLen := by simp only [maxLen]; omega
  -- a new row
  have fresh : ∀ (w' : World) (cap : Nat) (cells : List Value), Kept [] w w' → w'.heap[w.heap.size]? = some (.cells cells.toArray ty (0, 0)) → cells.length = cap → n + 1 ≤ cap → cap ≤ maxLen → cells.take (n + 1) = xs.take k ++ str u :: xs.drop k →
      ∃ I' H', (∃ a' cp', Value.slice (some ⟨w.heap.size, 0, none⟩) (n + 1) cap = .slice a' (n + 1) cp' ∧ H' = [.row (.slice a' (n + 1) cp') ty 1 (n + 1) (xs.take k ++ str u :: xs.drop k)]) ∧ Mem E I' H' w' := fun w' cap cells hk' hh hcl hc1 hc2 ht =>
    ⟨I, _, ⟨_, _, rfl, rfl⟩, hm.turn2 (hk'.mono (fun _ h => by cases h)) ⟨by rw [List.length_append, List.length_cons, List.length_take, List.length_drop]; omega, .inr ⟨w.heap.size, cap, cells.toArray, rfl, Nat.zero_le _, hh, hc1, hc2, by simp [hcl], by simpa using ht⟩⟩ (.inr ⟨w.heap.size, rfl, Nat.le_refl _⟩)⟩
  rcases hR.2 with ⟨hv, h0⟩ | ⟨g, cap, cur, hv, _, hg, hc, hcm, hs, ht⟩
  · -- none
    injection hv with e1 e2 e3
    subst e1; subst e3
    obtain rfl : xs = [] := List.eq_nil_of_length_eq_zero (by omega)
    obtain rfl : k = 0 := by omega
    subst h0
    refine ⟨Calls.mono (Proofs.Any2.slices_Insert_string_end_grow L none 0 0 vb 0 1 1 [] [str u] w (by omega) (by omega) (by omega) (by omega) rfl rfl (fun _ => rfl) (fun _ h => by cases h) hvc hu) (fun e w' q => ?_)⟩
    obtain ⟨rfl, rfl⟩ := q
    rw [hty]
    have hge := grownCap_ge w (0 + 1) 0 ty
    exact fresh _ (grownCap w (0 + 1) 0 ty) ([str u] ++ (Builtin.zeroCells (Value.string ⟨#[]⟩).cells (grownCap w (0 + 1) 0 ty - (0 + 1))).toList) ((Kept.drew w).trans (Kept.alloc _ _)) (by rw [show w.heap.size = w.drew.heap.size from rfl, heap_alloc_new]; simp) (by rw [List.length_append, zc_len, List.length_singleton]; omega) hge (grownCap_le_maxLen w _ _ _ hml) (by simp)
  · injection hv with e1 e2 e3
    subst e1; subst e3
    obtain ⟨cL, rfl⟩ : ∃ cL : List Value, cur = cL.toArray := ⟨cur.toList, by simp⟩
    have hs' : cL.length = cp := by simpa using hs
    have ht' : cL.take n = xs := by simpa using ht
    have hcell : ∀ (j : Nat) (v : Value), xs[j]? = some v → w.cell? ⟨g, 0 + j, none⟩ = some v := fun j v hj => cell_row (cap := cp) (n := n) (sz := 1) hg ht hj
    have hsp : ∀ j, j < cp → (w.cell? ⟨g, 0 + j, none⟩).isSome = true := fun j hj => by
      rw [Nat.zero_add, cell_of (v := cL[j]'(by omega)) hg (by rw [List.getElem?_toArray, List.getElem?_eq_getElem])]; rfl
    have hfz : ∀ b o, (w.heap[b]? = some (.cells cL.toArray ty (0, 0)) ∨ w.heap[b]? = some (.cells curv ty (0, 0))) → w.frozen? ⟨b, o, none⟩ = false := fun b o h => by
      rcases h with h | h <;> simp [World.frozen?, h]
    have hne : vb ≠ g := fun e => by
      have := (List.pairwise_cons.1 hm.dist).1 _ (List.mem_cons_self) g rfl
      exact this (by rw [← e]; rfl)
    rcases Nat.lt_or_ge n cp with hroom | hroom
    · -- room
      have place : ∀ (w' : World) (cells : List Value), Kept [g] w w' → w'.heap[g]? = some (.cells cells.toArray ty (0, 0)) → cells.length = cp → cells.take (n + 1) = xs.take k ++ str u :: xs.drop k →
          ∃ I' H', (∃ a' cp', Value.slice (some ⟨g, 0, none⟩) (n + 1) cp = .slice a' (n + 1) cp' ∧ H' = [.row (.slice a' (n + 1) cp') ty 1 (n + 1) (xs.take k ++ str u :: xs.drop k)]) ∧ Mem E I' H' w' := fun w' cells hk' hh hcl ht =>
        ⟨I, _, ⟨_, _, rfl, rfl⟩, hm.turn2 (h := .row (.slice (some ⟨g, 0, none⟩) n cp) ty 1 n xs) hk' ⟨by rw [List.length_append, List.length_cons, List.length_take, List.length_drop]; omega, .inr ⟨g, cp, cells.toArray, rfl, Nat.zero_le _, hh, by omega, hcm, by simp [hcl], by simpa using ht⟩⟩ (.inl rfl)⟩
      rcases Nat.lt_or_ge k n with hkn | hkn
      · refine ⟨Calls.mono (Proofs.Any2.slices_Insert_string_shift L g 0 n cp k vb 0 1 1 xs [str u] w hkn (by omega) (by omega) (by simp only [maxLen] at hcm; omega) hne hxl rfl hcell (fun j hj => hsp j (by omega)) (fun j _ => hfz _ _ (.inl hg)) hvc h1' hu
          ty ty 1 cp (by simp [World.shape?, hvg, hvs]) (by simp [World.shape?, hg, hs']) (by omega) (hfz _ _ (.inr hvg)) (hfz _ _ (.inr hvg))) (fun e w' q => ?_)⟩
        obtain ⟨rfl, rfl⟩ := q
        have hdl : (xs.drop k).length = n - k := by rw [List.length_drop, hxl]
        have g1 := setCells_heap (xs.drop k) (0 + (k + 1)) w.drew cL hg (by rw [hdl]; omega)
        have g2 := setCells_heap [str u] (0 + k) _ _ g1 (by simp [hdl]; omega)
        refine place _ _ (((Kept.drew w).mono (fun _ h => by cases h)).trans ((setCells_kept g _ _ _).trans (setCells_kept g _ _ _))) g2 ?_ ?_
        · simp only [Nat.zero_add, List.length_append, List.length_take, List.length_drop, List.length_cons, List.length_nil]
          omega
        · have e1 : cL.take (0 + (k + 1)) = xs.take k ++ [cL[k]'(by omega)] := by
            have e0 : xs.take k = cL.take k := by rw [show xs = cL.take n from ht'.symm, List.take_take, Nat.min_eq_left (by omega)]
            rw [Nat.zero_add, List.take_succ_eq_append_getElem (by omega), e0]
          rw [e1, hdl]
          simp only [Nat.zero_add, List.length_singleton]
          have e2 : ((xs.take k ++ [cL[k]'(by omega)]) ++ (xs.drop k ++ cL.drop (k + 1 + (n - k)))).take k = xs.take k := by
            rw [List.append_assoc, List.take_append_of_le_length (by rw [List.length_take]; omega), List.take_take, Nat.min_self]
          have e3 : ((xs.take k ++ [cL[k]'(by omega)]) ++ (xs.drop k ++ cL.drop (k + 1 + (n - k)))).drop (k + 1) = xs.drop k ++ cL.drop (k + 1 + (n - k)) := by
            rw [List.drop_append_of_le_length (by rw [List.length_append, List.length_take]; simp; omega), List.drop_of_length_le (by rw [List.length_append, List.length_take]; simp; omega), List.nil_append]
          rw [e2, e3]
          rw [List.take_append, List.take_of_length_le (by rw [List.length_take]; omega), List.length_take, hxl, Nat.min_eq_left hk]
          congr 1
          rw [show n + 1 - k = (n - k) + 1 by omega, List.singleton_append, List.take_succ_cons, List.take_append_of_le_length (by rw [hdl]; omega), List.take_of_length_le (by rw [hdl]; omega)]
      · obtain rfl : k = n := by omega
        refine ⟨Calls.mono (Proofs.Any2.slices_Insert_string_end_room L g 0 k cp vb 0 1 1 [str u] w (by omega) (by omega) (by simp only [maxLen] at hcm; omega) rfl (fun j hj => by rw [Nat.add_assoc]; exact hsp _ (by omega)) (fun j _ => hfz _ _ (.inl hg)) hvc hu) (fun e w' q => ?_)⟩
        obtain ⟨rfl, rfl⟩ := q
        have g1 := setCells_heap [str u] (0 + k) w cL hg (by simp; omega)
        refine place _ _ (setCells_kept g _ _ _) g1 ?_ ?_
        · simp only [Nat.zero_add, List.length_append, List.length_take, List.length_drop, List.length_cons, List.length_nil]
          omega
        · simp only [Nat.zero_add, List.length_singleton]
          rw [ht', List.take_of_length_le (l := xs) (by omega), List.drop_of_length_le (l := xs) (by omega), ← List.append_assoc, List.take_append_of_le_length (by rw [List.length_append, hxl]; simp), List.take_of_length_le (by rw [List.length_append, hxl]; simp)]
    · -- none
      obtain rfl : n = cp := by omega
      rcases Nat.lt_or_ge k n with hkn | hkn
      · refine ⟨Calls.mono (Proofs.Any2.slices_Insert_string_grow L g 0 n n k vb 0 1 1 xs [str u] w hkn (by omega) (by omega) (by omega) (by omega) hxl rfl hcell hvc h1' hu) (fun e w' q => ?_)⟩
        obtain ⟨rfl, rfl⟩ := q
        rw [hty]
        have hge := grownCap_ge w (n + 1) n ty
        have hdl : (xs.drop k).length = n - k := by rw [List.length_drop, hxl]
        generalize hG : grownCap w (n + 1) n ty = G at hge ⊢
        have hGm : G ≤ maxLen := by rw [← hG]; exact grownCap_le_maxLen w _ _ _ hml
        obtain ⟨zs, hzs⟩ : ∃ zs : List Value, (Builtin.zeroCells (Value.string ⟨#[]⟩).cells (n + 1 - k) ++ Builtin.zeroCells (Value.string ⟨#[]⟩).cells (G - (n + 1))).toList = zs := ⟨_, rfl⟩
        have hzl : zs.length = G - k := by rw [← hzs, Array.toList_append, List.length_append, zc_len, zc_len]; omega
        have hcells : ((xs.take k).toArray ++ Builtin.zeroCells (Value.string ⟨#[]⟩).cells (n + 1 - k) ++ Builtin.zeroCells (Value.string ⟨#[]⟩).cells (G - (n + 1))) = (xs.take k ++ zs).toArray := by
          rw [← hzs]; simp
        rw [hcells]
        have hl0 : (xs.take k ++ zs).length = G := by rw [List.length_append, List.length_take, hzl]; omega
        have g0 := heap_alloc_new w (.cells (xs.take k ++ zs).toArray ty (0, 0))
        have g1 := setCells_heap [str u] k (w.alloc (.cells (xs.take k ++ zs).toArray ty (0, 0))).drew (xs.take k ++ zs) g0 (by simp [hl0]; omega)
        have g2 := setCells_heap (xs.drop k) (k + 1) (((w.alloc (.cells (xs.take k ++ zs).toArray ty (0, 0))).drew.setCells w.heap.size k [str u]).drew) _ g1 (by simp [hzl, hdl]; omega)
        have kk : Kept [] w ((((w.alloc (.cells (xs.take k ++ zs).toArray ty (0, 0))).drew.setCells w.heap.size k [str u]).drew).setCells w.heap.size (k + 1) (xs.drop k)) := by
          refine Kept.step (Y := [w.heap.size]) (Kept.alloc w (.cells (xs.take k ++ zs).toArray ty (0, 0))) ?_ (fun x hx => .inr (by simp at hx; omega))
          exact ((Kept.drew _).mono (fun _ h => by cases h)).trans ((setCells_kept _ _ _ _).trans (((Kept.drew _).mono (fun _ h => by cases h)).trans (setCells_kept _ _ _ _)))
        refine fresh _ G _ kk g2 ?_ hge hGm ?_
        · simp only [List.length_append, List.length_take, List.length_drop, List.length_cons, List.length_nil, hzl]
          omega
        · have e1 : (xs.take k ++ zs).take k = xs.take k := by
            rw [List.take_append_of_le_length (by rw [List.length_take]; omega), List.take_take, Nat.min_self]
          rw [e1]
          have e2 : (xs.take k ++ ([str u] ++ (xs.take k ++ zs).drop (k + [str u].length))).take (k + 1) = xs.take k ++ [str u] := by
            rw [← List.append_assoc, List.take_append_of_le_length (by rw [List.length_append, List.length_take]; simp; omega), List.take_of_length_le (by rw [List.length_append, List.length_take]; simp; omega)]
          rw [e2, ← List.append_assoc, List.take_append_of_le_length (by simp only [List.length_append, List.length_take, hdl, List.length_singleton]; omega), List.take_of_length_le (by simp only [List.length_append, List.length_take, hdl, List.length_singleton]; omega), List.append_assoc]; rfl
      · obtain rfl : k = n := by omega
        refine ⟨Calls.mono (Proofs.Any2.slices_Insert_string_end_grow L (some ⟨g, 0, none⟩) k k vb 0 1 1 xs [str u] w (by omega) (by omega) (by omega) (by omega) hxl rfl (fun h => by cases h) (fun ad had j v hj => by cases had; rw [Addr.add_lit]; exact hcell j v hj) hvc hu) (fun e w' q => ?_)⟩
        obtain ⟨rfl, rfl⟩ := q
        rw [hty]
        have hge := grownCap_ge w (k + 1) k ty
        exact fresh _ (grownCap w (k + 1) k ty) ((xs ++ [str u]) ++ (Builtin.zeroCells (Value.string ⟨#[]⟩).cells (grownCap w (k + 1) k ty - (k + 1))).toList) ((Kept.drew w).trans (Kept.alloc _ _)) (by rw [show w.heap.size = w.drew.heap.size from rfl, heap_alloc_new]; simp) (by rw [List.length_append, zc_len]; simp [hxl]; omega) hge (grownCap_le_maxLen w _ _ _ hml)
          (by rw [List.take_append_of_le_length (by simp [hxl]), List.take_of_length_le (by simp [hxl]), List.take_of_length_le (l := xs) (by omega), List.drop_of_length_le (l := xs) (by omega)])
end
end Go.Fw
end
section
namespace Go.Sp
structure FW where
  ds : List Dg
  hv : Option Nat
def FW.hit (s : FW) (at_ : Int) (f t n : Nat) : FW := if s.hv = none ∧ (f : Int) ≤ at_ ∧ at_ < t then { s with hv := some n } else s
/-! how much is told -/
/-! labels are labels -/
theorem findIt_lt {its : List Itm} {k : Int} {n : List UInt8} {j : Nat} (h : findIt its k n = some j) : j < its.length ∧ ((itNo its j).kind : Int) = k ∧ (itNo its j).name = n ∧ n ≠ [] ∧ itNo its j ∈ its := by
  obtain ⟨h1, h2, _⟩ := List.findIdx?_eq_some_iff_getElem.1 h
  have e : itNo its j = its[j] := by rw [itNo, List.getD_eq_getElem?_getD, List.getElem?_eq_getElem h1]; rfl
  rw [e]
  simp only [itIs, Bool.and_eq_true, decide_eq_true_eq] at h2
  exact ⟨h1, h2.1, h2.2.1, h2.2.2, List.getElem_mem h1⟩
end Go.Sp
end
section
namespace Go.Sp
mutual
/-- what is called. -/
def exE : Ex → List Nm → List Nm
  | .mk k nm _ args _ _, c => exsE args (if k = 4 then addE c nm else c)
def exsE : List Ex → List Nm → List Nm
  | [], c => c
  | e :: es, c => exsE es (exE e c)
 end
mutual
/-- to what is sent, what is called. -/
def stmE : Stm → List Nm × List Nm → List Nm × List Nm
  | .mk k nm _ _ _ e thn els _ _, q => stmsE els (stmsE thn (if k = 5 then addE q.1 nm else q.1, exE e q.2))
def stmsE : List Stm → List Nm × List Nm → List Nm × List Nm
  | [], q => q
  | x :: xs, q => stmsE xs (stmE x q)
 end
def ownE (it : Itm) : List Nm × List Nm := stmsE it.body ([], [])
theorem exE_eq (e : Ex) (c : List Nm) : exE e c = exsE e.args (if e.kind = 4 then addE c e.name else c) := by cases e; rw [exE]; rfl
theorem stmE_eq (x : Stm) (q : List Nm × List Nm) : stmE x q = stmsE x.els (stmsE x.thn (if x.kind = 5 then addE q.1 x.name else q.1, exE x.e q.2)) := by cases x; rw [stmE]; rfl
theorem exsE_app : ∀ (l r : List Ex) (c : List Nm), exsE (l ++ r) c = exsE r (exsE l c)
  | [], r, c => by rw [List.nil_append, exsE]
  | e :: l, r, c => by rw [List.cons_append, exsE, exsE, exsE_app l r]
theorem stmsE_app : ∀ (l r : List Stm) (q : List Nm × List Nm), stmsE (l ++ r) q = stmsE r (stmsE l q)
  | [], r, q => by rw [List.nil_append, stmsE]
  | e :: l, r, q => by rw [List.cons_append, stmsE, stmsE, stmsE_app l r]
theorem exsE_step {l : List Ex} {k : Nat} {e : Ex} (h : l[k]? = some e) (c : List Nm) : exsE (l.take (k + 1)) c = exE e (exsE (l.take k) c) := by
  rw [take_succ_get h, exsE_app, exsE, exsE]
theorem stmsE_step {l : List Stm} {k : Nat} {x : Stm} (h : l[k]? = some x) (q : List Nm × List Nm) : stmsE (l.take (k + 1)) q = stmE x (stmsE (l.take k) q) := by
  rw [take_succ_get h, stmsE_app, stmsE, stmsE]
mutual
theorem exE_srt : ∀ (e : Ex) {c : List Nm}, Srt c → Srt (exE e c)
  | .mk k nm n args f t, c, h => by
    rw [exE]
    refine exsE_srt args ?_
    split
    · exact addE_srt h nm
    · exact h
theorem exsE_srt : ∀ (l : List Ex) {c : List Nm}, Srt c → Srt (exsE l c)
  | [], c, h => by rw [exsE]; exact h
  | e :: l, c, h => by rw [exsE]; exact exsE_srt l (exE_srt e h)
 end
mutual
theorem stmE_srt : ∀ (x : Stm) {q : List Nm × List Nm}, Srt q.1 ∧ Srt q.2 → Srt (stmE x q).1 ∧ Srt (stmE x q).2
  | .mk k nm a lb o e thn els f t, q, h => by
    rw [stmE]
    refine stmsE_srt els (stmsE_srt thn ⟨?_, exE_srt e h.2⟩)
    dsimp only
    split
    · exact addE_srt h.1 nm
    · exact h.1
theorem stmsE_srt : ∀ (l : List Stm) {q : List Nm × List Nm}, Srt q.1 ∧ Srt q.2 → Srt (stmsE l q).1 ∧ Srt (stmsE l q).2
  | [], q, h => by rw [stmsE]; exact h
  | x :: l, q, h => by rw [stmsE]; exact stmsE_srt l (stmE_srt x h)
 end
/-! how many -/
mutual
theorem exE_n : ∀ (e : Ex) (c : List Nm), c.length ≤ (exE e c).length ∧ (exE e c).length ≤ c.length + e.cnt
  | .mk k nm n args f t, c => by
    rw [exE, Ex.cnt]
    have h1 := addE_len c nm
    have h2 := exsE_n args (if k = 4 then addE c nm else c)
    split at h2 <;> rename_i hk
    · rw [if_pos hk]; omega
    · rw [if_neg hk]; omega
theorem exsE_n : ∀ (l : List Ex) (c : List Nm), c.length ≤ (exsE l c).length ∧ (exsE l c).length ≤ c.length + exsCnt l
  | [], c => by rw [exsE, exsCnt]; omega
  | e :: l, c => by
    rw [exsE, exsCnt]
    have h1 := exE_n e c
    have h2 := exsE_n l (exE e c)
    omega
 end
mutual
theorem stmE_n : ∀ (x : Stm) (q : List Nm × List Nm), q.1.length + q.2.length ≤ (stmE x q).1.length + (stmE x q).2.length ∧ (stmE x q).1.length + (stmE x q).2.length ≤ q.1.length + q.2.length + x.cnt
  | .mk k nm a lb o e thn els f t, q => by
    rw [stmE, Stm.cnt]
    have h1 := addE_len q.1 nm
    have h2 := exE_n e q.2
    have h3 := stmsE_n thn (if k = 5 then addE q.1 nm else q.1, exE e q.2)
    have h4 := stmsE_n els (stmsE thn (if k = 5 then addE q.1 nm else q.1, exE e q.2))
    generalize stmsE els (stmsE thn (if k = 5 then addE q.1 nm else q.1, exE e q.2)) = r4 at h4 ⊢
    generalize stmsE thn (if k = 5 then addE q.1 nm else q.1, exE e q.2) = r3 at h3 h4
    split at h3
    · dsimp only at h3; omega
    · dsimp only at h3; omega
theorem stmsE_n : ∀ (l : List Stm) (q : List Nm × List Nm), q.1.length + q.2.length ≤ (stmsE l q).1.length + (stmsE l q).2.length ∧ (stmsE l q).1.length + (stmsE l q).2.length ≤ q.1.length + q.2.length + stmsCnt l
  | [], q => by rw [stmsE, stmsCnt]; omega
  | x :: l, q => by
    rw [stmsE, stmsCnt]
    have h1 := stmE_n x q
    have h2 := stmsE_n l (stmE x q)
    omega
 end
/-- to what an item itself sends; which items it calls. -/
def initE (its : List Itm) (i : Nat) : List Nm := if (itNo its i).kind = 2 then (ownE (itNo its i)).1 else []
def findsE (its : List Itm) (l : List Nm) : List Nat := l.filterMap (findIt its 2)
def callsE (its : List Itm) (i : Nat) : List Nat := if (itNo its i).kind = 2 then findsE its (ownE (itNo its i)).2 else []
def initsE (its : List Itm) : List (List Nm) := (List.range its.length).map (initE its)
def rowE (its : List Itm) (rows : List (List Nm)) (i : Nat) : List Nm := (callsE its i).foldl (fun a k => joinE a (rows.getD k [])) (rows.getD i [])
def stepE (its : List Itm) (rows : List (List Nm)) (i : Nat) : List (List Nm) := rows.set i (rowE its rows i)
def roundE (its : List Itm) (rows : List (List Nm)) : List (List Nm) := (List.range its.length).foldl (stepE its) rows
def iterE (its : List Itm) : Nat → List (List Nm) → List (List Nm)
  | 0, r => r
  | n + 1, r => if roundE its r = r then r else iterE its n (roundE its r)
def sumE (r : List (List Nm)) : Nat := (r.map List.length).sum
def namesE (its : List Itm) : List Nm := (initsE its).flatten
def allsE (its : List Itm) : List (List Nm) := iterE its (its.length * (namesE its).length + 1) (initsE its)
def allE (its : List Itm) (i : Nat) : List Nm := (allsE its).getD i []
/-- rows as they may be: as many as items; rising; of these names; no fewer than before. -/
structure RowsE (its : List Itm) (r : List (List Nm)) : Prop where
  len : r.length = its.length
  srt : ∀ a ∈ r, Srt a
  of : ∀ a ∈ r, ∀ x ∈ a, x ∈ namesE its
  ne : ∀ a ∈ r, [] ∉ a
def LeE (r s : List (List Nm)) : Prop := r.length = s.length ∧ ∀ i x, x ∈ r.getD i [] → x ∈ s.getD i []
theorem LeE.refl (r : List (List Nm)) : LeE r r := ⟨rfl, fun _ _ h => h⟩
theorem LeE.trans {r s t : List (List Nm)} (h : LeE r s) (k : LeE s t) : LeE r t := ⟨h.1.trans k.1, fun i x hx => k.2 i x (h.2 i x hx)⟩
theorem getD_mem {α : Type} {l : List α} {i : Nat} {d : α} (h : i < l.length) : l.getD i d ∈ l := by
  rw [List.getD_eq_getElem?_getD, List.getElem?_eq_getElem h]; exact List.getElem_mem h
theorem getD_out {α : Type} {l : List α} {i : Nat} {d : α} (h : l.length ≤ i) : l.getD i d = d := by
  rw [List.getD_eq_getElem?_getD, List.getElem?_eq_none h]; rfl
theorem getD_set_self {α : Type} {l : List α} {i : Nat} {d a : α} (h : i < l.length) : (l.set i a).getD i d = a := by
  rw [List.getD_eq_getElem?_getD, List.getElem?_set_self h]; rfl
theorem getD_set_ne {α : Type} {l : List α} {i j : Nat} {d a : α} (h : i ≠ j) : (l.set i a).getD j d = l.getD j d := by
  rw [List.getD_eq_getElem?_getD, List.getElem?_set_ne h, List.getD_eq_getElem?_getD]
mutual
theorem exE_ne : ∀ (e : Ex) {c : List Nm}, [] ∉ c → [] ∉ exE e c
  | .mk k nm n args f t, c, h => by
    rw [exE]
    refine exsE_ne args ?_
    split
    · rw [addE_mem]; rintro (h1 | ⟨h1, h2⟩)
      · exact h h1
      · exact h2 h1.symm
    · exact h
theorem exsE_ne : ∀ (l : List Ex) {c : List Nm}, [] ∉ c → [] ∉ exsE l c
  | [], c, h => by rw [exsE]; exact h
  | e :: l, c, h => by rw [exsE]; exact exsE_ne l (exE_ne e h)
 end
mutual
theorem stmE_ne : ∀ (x : Stm) {q : List Nm × List Nm}, [] ∉ q.1 ∧ [] ∉ q.2 → [] ∉ (stmE x q).1 ∧ [] ∉ (stmE x q).2
  | .mk k nm a lb o e thn els f t, q, h => by
    rw [stmE]
    refine stmsE_ne els (stmsE_ne thn ⟨?_, exE_ne e h.2⟩)
    dsimp only
    split
    · rw [addE_mem]; rintro (h1 | ⟨h1, h2⟩)
      · exact h.1 h1
      · exact h2 h1.symm
    · exact h.1
theorem stmsE_ne : ∀ (l : List Stm) {q : List Nm × List Nm}, [] ∉ q.1 ∧ [] ∉ q.2 → [] ∉ (stmsE l q).1 ∧ [] ∉ (stmsE l q).2
  | [], q, h => by rw [stmsE]; exact h
  | x :: l, q, h => by rw [stmsE]; exact stmsE_ne l (stmE_ne x h)
 end
theorem ownE_ne (it : Itm) : [] ∉ (ownE it).1 ∧ [] ∉ (ownE it).2 := stmsE_ne _ ⟨by simp, by simp⟩
theorem ownE_srt (it : Itm) : Srt (ownE it).1 ∧ Srt (ownE it).2 := stmsE_srt _ ⟨Srt.nil, Srt.nil⟩
theorem initsE_len (its : List Itm) : (initsE its).length = its.length := by rw [initsE, List.length_map, List.length_range]
theorem initsE_get (its : List Itm) {i : Nat} (h : i < its.length) : (initsE its).getD i [] = initE its i := by
  rw [initsE, List.getD_eq_getElem?_getD, List.getElem?_map, List.getElem?_range h]; rfl
theorem rowsE_init (its : List Itm) : RowsE its (initsE its) := by
  have key : ∀ a ∈ initsE its, ∃ i, a = initE its i := fun a ha => by
    obtain ⟨i, _, rfl⟩ := List.mem_map.1 ha
    exact ⟨i, rfl⟩
  refine ⟨initsE_len its, fun a ha => ?_, fun a ha x hx => List.mem_flatten.2 ⟨a, ha, hx⟩, fun a ha => ?_⟩
  · obtain ⟨i, rfl⟩ := key a ha
    rw [initE]
    split
    · exact (ownE_srt _).1
    · exact Srt.nil
  · obtain ⟨i, rfl⟩ := key a ha
    rw [initE]
    split
    · exact (ownE_ne _).1
    · simp
theorem rowE_fold (rows : List (List Nm)) : ∀ (l : List Nat) (a : List Nm), Srt a → (∀ x, x ∈ l.foldl (fun a k => joinE a (rows.getD k [])) a ↔ x ∈ a ∨ ∃ k ∈ l, x ∈ rows.getD k [] ∧ x ≠ []) ∧ Srt (l.foldl (fun a k => joinE a (rows.getD k [])) a)
  | [], a, h => ⟨fun x => by simp, h⟩
  | k :: l, a, h => by
    rw [List.foldl_cons]
    obtain ⟨h1, h2⟩ := rowE_fold rows l (joinE a (rows.getD k [])) (joinE_srt _ h)
    refine ⟨fun x => ?_, h2⟩
    rw [h1, joinE_mem]
    constructor
    · rintro ((h | h) | ⟨j, hj, h⟩)
      · exact .inl h
      · exact .inr ⟨k, List.mem_cons_self, h⟩
      · exact .inr ⟨j, List.mem_cons_of_mem _ hj, h⟩
    · rintro (h | ⟨j, hj, h⟩)
      · exact .inl (.inl h)
      · rcases List.mem_cons.1 hj with rfl | hj
        · exact .inl (.inr h)
        · exact .inr ⟨j, hj, h⟩
theorem RowsE.getD {its : List Itm} {r : List (List Nm)} (h : RowsE its r) (i : Nat) : Srt (r.getD i []) ∧ (∀ x ∈ r.getD i [], x ∈ namesE its) ∧ [] ∉ r.getD i [] := by
  rcases Nat.lt_or_ge i r.length with hi | hi
  · have := getD_mem (d := []) hi
    exact ⟨h.srt _ this, h.of _ this, h.ne _ this⟩
  · rw [getD_out hi]; exact ⟨Srt.nil, by simp, by simp⟩
theorem rowE_mem {its : List Itm} {r : List (List Nm)} (h : RowsE its r) (i : Nat) (x : Nm) : x ∈ rowE its r i ↔ x ∈ r.getD i [] ∨ ∃ k ∈ callsE its i, x ∈ r.getD k [] := by
  rw [rowE, (rowE_fold r (callsE its i) (r.getD i []) (h.getD i).1).1]
  constructor
  · rintro (h1 | ⟨k, hk, h1, _⟩)
    · exact .inl h1
    · exact .inr ⟨k, hk, h1⟩
  · rintro (h1 | ⟨k, hk, h1⟩)
    · exact .inl h1
    · exact .inr ⟨k, hk, h1, fun e => (h.getD k).2.2 (by rw [← e]; exact h1)⟩
theorem RowsE.step {its : List Itm} {r : List (List Nm)} (h : RowsE its r) (i : Nat) : RowsE its (stepE its r i) ∧ LeE r (stepE its r i) := by
  have hs : Srt (rowE its r i) := (rowE_fold r (callsE its i) (r.getD i []) (h.getD i).1).2
  have hm : ∀ a ∈ stepE its r i, a ∈ r ∨ a = rowE its r i := fun a ha => List.mem_or_eq_of_mem_set ha
  refine ⟨⟨by rw [stepE, List.length_set, h.len], fun a ha => ?_, fun a ha x hx => ?_, fun a ha hx => ?_⟩, ⟨by rw [stepE, List.length_set], fun j x hx => ?_⟩⟩
  · rcases hm a ha with h1 | rfl
    · exact h.srt a h1
    · exact hs
  · rcases hm a ha with h1 | rfl
    · exact h.of a h1 x hx
    · rcases (rowE_mem h i x).1 hx with h1 | ⟨k, _, h1⟩
      · exact (h.getD i).2.1 x h1
      · exact (h.getD k).2.1 x h1
  · rcases hm a ha with h1 | rfl
    · exact h.ne a h1 hx
    · rcases (rowE_mem h i []).1 hx with h1 | ⟨k, _, h1⟩
      · exact (h.getD i).2.2 h1
      · exact (h.getD k).2.2 h1
  · by_cases e : i = j
    · subst e
      rcases Nat.lt_or_ge i r.length with hi | hi
      · rw [stepE, getD_set_self hi]; exact (rowE_mem h i x).2 (.inl hx)
      · rw [getD_out hi] at hx; cases hx
    · rw [stepE, getD_set_ne e]; exact hx
theorem RowsE.folds {its : List Itm} : ∀ (l : List Nat) {r : List (List Nm)}, RowsE its r → RowsE its (l.foldl (stepE its) r) ∧ LeE r (l.foldl (stepE its) r)
  | [], r, h => ⟨h, LeE.refl r⟩
  | i :: l, r, h => by
    obtain ⟨h1, h2⟩ := h.step i
    obtain ⟨h3, h4⟩ := RowsE.folds l h1
    exact ⟨h3, h2.trans h4⟩
theorem RowsE.round {its : List Itm} {r : List (List Nm)} (h : RowsE its r) : RowsE its (roundE its r) ∧ LeE r (roundE its r) := h.folds _
theorem leE_same {its : List Itm} {r s : List (List Nm)} (hr : RowsE its r) (hs : RowsE its s) (h : LeE r s) (k : LeE s r) : r = s := by
  refine List.ext_getElem? (fun i => ?_)
  rcases Nat.lt_or_ge i r.length with hi | hi
  · have h1 := srt_ext (hr.getD i).1 (hs.getD i).1 (fun x => ⟨h.2 i x, k.2 i x⟩)
    rw [List.getElem?_eq_getElem hi, List.getElem?_eq_getElem (by rw [← h.1]; exact hi)]
    rw [List.getD_eq_getElem?_getD, List.getElem?_eq_getElem hi, List.getD_eq_getElem?_getD, List.getElem?_eq_getElem (by rw [← h.1]; exact hi)] at h1
    exact congrArg some h1
  · rw [List.getElem?_eq_none hi, List.getElem?_eq_none (by rw [← h.1]; exact hi)]
/-- all of a round leaves what is as it was where none of its steps adds. -/
theorem folds_fix {its : List Itm} : ∀ (l : List Nat) {r : List (List Nm)}, RowsE its r → l.foldl (stepE its) r = r → ∀ i ∈ l, stepE its r i = r
  | [], _, _, _, i, hi => by cases hi
  | j :: l, r, h, e, i, hi => by
    rw [List.foldl_cons] at e
    obtain ⟨h1, h2⟩ := h.step j
    obtain ⟨h3, h4⟩ := RowsE.folds l h1
    rw [e] at h4
    have hj : stepE its r j = r := (leE_same h h1 h2 h4).symm
    rcases List.mem_cons.1 hi with rfl | hi
    · exact hj
    · rw [hj] at e; exact folds_fix l h e i hi
end Go.Sp
end
