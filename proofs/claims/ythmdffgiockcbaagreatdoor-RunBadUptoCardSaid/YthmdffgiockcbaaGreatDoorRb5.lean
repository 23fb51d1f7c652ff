/- Own work: texts FwM, FwV, one behind the other. -/
import Derived.Test.YthmdffgiockcbaaGreatDoorRb4
section
namespace Go.Fw
open Go
theorem setn {α : Type} : (∀ (x a : α) (l : List α), (x :: l).set 0 a = a :: l) ∧ (∀ (x a : α) (l : List α) (n : Nat), (x :: l).set (n + 1) a = x :: l.set n a) ∧ (∀ (x : α) (l : List α) (n : Nat), (x :: l).take (n + 1) = x :: l.take n) ∧
    (∀ l : List α, l.take 0 = []) ∧ (∀ (x : α) (l : List α) (n : Nat), (x :: l).drop (n + 1) = l.drop n) ∧ (∀ l : List α, l.drop 0 = l) ∧ (∀ (x : α) (l r : List α), (x :: l) ++ r = x :: (l ++ r)) ∧ (∀ l : List α, [] ++ l = l) :=
  ⟨fun _ _ _ => rfl, fun _ _ _ _ => rfl, fun _ _ _ => rfl, fun _ => rfl, fun _ _ _ => rfl, fun _ => rfl, fun _ _ _ => rfl, fun _ => rfl⟩

inductive HItem where
  | obj (b : Nat) (o : Obj)
  | row (v : Value) (ty : TypeId) (sz n : Nat) (xs : List Value)
abbrev HItem.cell (b : Nat) (c : List Value) (ty : TypeId) : HItem := .obj b (.cells c.toArray ty (0, 0))
def HItem.ok (w : World) : HItem → Prop
  | .obj b o => w.heap[b]? = some o
  | .row v ty sz n xs => w.ownsRow 0 ty sz v n xs
def HItem.blk : HItem → Option Nat
  | .obj b _ => some b
  | .row v _ _ _ _ => v.ownBlock
def blks (H : List HItem) : List Nat := H.filterMap HItem.blk
structure Ent where
  w0 : World
  X : List Nat
  I0 : Imm
structure Mem (E : Ent) (I : Imm) (H : List HItem) (w : World) : Prop where
  kept : Kept E.X E.w0 w
  le : Le E.I0 I
  inv : Inv I w
  ok : ∀ h ∈ H, h.ok w
  free : ∀ h ∈ H, ∀ b, h.blk = some b → I b = none
  born : ∀ h ∈ H, ∀ b, h.blk = some b → b ∈ E.X ∨ E.w0.heap.size ≤ b
  dist : H.Pairwise (fun h k => ∀ b, h.blk = some b → k.blk ≠ some b)
  grow : ∀ b o, I b = some o → E.I0 b = some o ∨ b ∈ E.X ∨ E.w0.heap.size ≤ b

theorem own_has {w : World} {base ty sz n g : Nat} {v : Value} {xs : List Value} (h : w.ownsRow base ty sz v n xs) (hg : v.ownBlock = some g) : ∃ c, w.heap[g]? = some (.cells c ty (0, 0)) := by
  rcases h.2 with ⟨rfl, _⟩ | ⟨g', cap, cur, rfl, hb, hh, _⟩
  · cases hg
  · simp only [Value.ownBlock, Option.some.injEq] at hg
    subst hg; exact ⟨cur, hh⟩
theorem HItem.ok.lt {w : World} {h : HItem} (ho : h.ok w) {b : Nat} (hb : h.blk = some b) : b < w.heap.size := by
  cases h with
  | obj b' o =>
    simp only [HItem.blk, Option.some.injEq] at hb
    subst hb; exact lt_of_heap ho
  | row v ty sz n xs =>
    obtain ⟨c, hc⟩ := own_has ho hb
    exact lt_of_heap hc
theorem HItem.ok.kept {w w' : World} {X : List Nat} {h : HItem} (ho : h.ok w) (k : Kept X w w') (hx : ∀ b, h.blk = some b → b ∉ X) : h.ok w' := by
  cases h with
  | obj b o => exact k.get ho (hx b rfl)
  | row v ty sz n xs => exact k.own ho hx
theorem mem_blks {H : List HItem} {b : Nat} (h : b ∈ blks H) : ∃ x ∈ H, x.blk = some b := by
  simpa [blks, List.mem_filterMap] using h

section
variable {E : Ent} {I I' : Imm} {H H' R : List HItem} {w w' : World}
theorem Mem.start (hI : Inv I w) : Mem ⟨w, [], I⟩ I [] w :=
  ⟨Kept.refl _ _, Le.refl _, hI, fun _ h => (by cases h), fun _ h => (by cases h), fun _ h => (by cases h), .nil, fun _ _ h => .inl h⟩
theorem Mem.dist' (hm : Mem E I H w) {i j : Nat} {h k : HItem} (hi : H[i]? = some h) (hj : H[j]? = some k) {b : Nat} (hb : h.blk = some b) (hk : k.blk = some b) : i = j := by
  obtain ⟨hi1, hi2⟩ := List.getElem?_eq_some_iff.1 hi
  obtain ⟨hj1, hj2⟩ := List.getElem?_eq_some_iff.1 hj
  rcases Nat.lt_trichotomy i j with h1 | h1 | h1
  · have := List.pairwise_iff_getElem.1 hm.dist i j hi1 hj1 h1 b (by rw [hi2]; exact hb)
    rw [hj2] at this; exact absurd hk this
  · exact h1
  · have := List.pairwise_iff_getElem.1 hm.dist j i hj1 hi1 h1 b (by rw [hj2]; exact hk)
    rw [hi2] at this; exact absurd hb this
theorem Mem.keptX (hm : Mem E I H w) {X : List Nat} (k : Kept X w w') (hX : ∀ x ∈ X, x ∈ E.X ∨ E.w0.heap.size ≤ x) (hI : ∀ x ∈ X, I x = none) (hH : ∀ h ∈ H, ∀ b, h.blk = some b → b ∉ X) : Mem E I H w' :=
  ⟨hm.kept.step k hX, hm.le, hm.inv.kept k hI, fun h hh => (hm.ok h hh).kept k (hH h hh), hm.free, hm.born, hm.dist, hm.grow⟩
theorem Mem.kept0 (hm : Mem E I H w) (k : Kept [] w w') : Mem E I H w' :=
  hm.keptX k (fun _ h => by cases h) (fun _ h => by cases h) (fun _ _ _ _ h => by cases h)
theorem Mem.get (hm : Mem E I H w) {i b : Nat} {o : Obj} (h : H[i]? = some (.obj b o)) : w.heap[b]? = some o := hm.ok _ (List.mem_of_getElem? h)
theorem Mem.getRow (hm : Mem E I H w) {i ty sz n : Nat} {v : Value} {xs : List Value} (h : H[i]? = some (.row v ty sz n xs)) : w.ownsRow 0 ty sz v n xs := hm.ok _ (List.mem_of_getElem? h)
theorem Mem.add (hm : Mem E I H w) {x : HItem} (k : Kept [] w w') (ho : x.ok w') (hf : ∀ b, x.blk = some b → w.heap.size ≤ b) : Mem E I (x :: H) w' := by
  have hs := hm.kept.size
  refine ⟨hm.kept.step0 k, hm.le, hm.inv.kept0 k, fun h hh => ?_, fun h hh b hb => ?_, fun h hh b hb => ?_, .cons (fun h hh b hb hc => ?_) hm.dist, hm.grow⟩
  · rcases List.mem_cons.1 hh with rfl | hh
    · exact ho
    · exact (hm.ok h hh).kept k (by simp)
  · rcases List.mem_cons.1 hh with rfl | hh
    · exact hm.inv.fresh (hf b hb)
    · exact hm.free h hh b hb
  · rcases List.mem_cons.1 hh with rfl | hh
    · exact .inr (Nat.le_trans hs (hf b hb))
    · exact hm.born h hh b hb
  · have h1 := hf b hb
    have h2 := (hm.ok h hh).lt hc
    omega
theorem Mem.nil (hm : Mem E I H w) (ty : TypeId) (sz : Nat) : Mem E I (.row (.slice none 0 0) ty sz 0 [] :: H) w :=
  hm.add (Kept.refl _ _) (World.ownsRow_nil w _ _ _) (fun _ h => by cases h)
theorem Mem.perm (hm : Mem E I H w) (h : H.Perm H') : Mem E I H' w :=
  ⟨hm.kept, hm.le, hm.inv, fun x hx => hm.ok x (h.mem_iff.2 hx), fun x hx => hm.free x (h.mem_iff.2 hx), fun x hx => hm.born x (h.mem_iff.2 hx),
    (h.pairwise_iff (fun {_ _} hxy b hb hc => hxy b hc hb)).1 hm.dist, hm.grow⟩
theorem Mem.right (hm : Mem E I (H ++ R) w) : Mem E I R w :=
  ⟨hm.kept, hm.le, hm.inv, fun x hx => hm.ok x (List.mem_append_right _ hx), fun x hx => hm.free x (List.mem_append_right _ hx), fun x hx => hm.born x (List.mem_append_right _ hx),
    (List.pairwise_append.1 hm.dist).2.1, hm.grow⟩
theorem Mem.left (hm : Mem E I (H ++ R) w) : Mem E I H w :=
  ⟨hm.kept, hm.le, hm.inv, fun x hx => hm.ok x (List.mem_append_left _ hx), fun x hx => hm.free x (List.mem_append_left _ hx), fun x hx => hm.born x (List.mem_append_left _ hx),
    (List.pairwise_append.1 hm.dist).1, hm.grow⟩
theorem Mem.tl {x : HItem} (hm : Mem E I (x :: H) w) : Mem E I H w := Mem.right (H := [x]) hm
theorem Mem.hd {x : HItem} (hm : Mem E I (x :: H) w) : Mem E I [x] w := Mem.left (H := [x]) (R := H) hm
theorem Mem.snd {x y : HItem} (hm : Mem E I (x :: y :: H) w) : Mem E I (x :: H) w := (hm.perm (.swap _ _ _)).tl
theorem Mem.swap {x y : HItem} (hm : Mem E I (x :: y :: H) w) : Mem E I (y :: x :: H) w := hm.perm (.swap _ _ _)

theorem Mem.turn (hm : Mem E I H w) {i : Nat} {h h' : HItem} (hi : H[i]? = some h) (k : Kept h.blk.toList w w') (ho : h'.ok w')
    (hb : h'.blk = h.blk ∨ ∃ g, h'.blk = some g ∧ w.heap.size ≤ g) : Mem E I (H.set i h') w' := by
  have hs := hm.kept.size
  have hmem : h ∈ H := List.mem_of_getElem? hi
  have hX : ∀ x ∈ h.blk.toList, h.blk = some x := fun x hx => by simpa [Option.mem_toList] using hx
  have hset : ∀ x ∈ H.set i h', x = h' ∨ ∃ j, j ≠ i ∧ H[j]? = some x := fun x hx => by
    obtain ⟨j, hj⟩ := List.mem_iff_getElem?.1 hx
    rw [List.getElem?_set] at hj
    by_cases e : i = j
    · rw [if_pos e] at hj
      split at hj
      · simp only [Option.some.injEq] at hj; exact .inl hj.symm
      · cases hj
    · rw [if_neg e] at hj; exact .inr ⟨j, fun e' => e e'.symm, hj⟩
  have hother : ∀ j x, j ≠ i → H[j]? = some x → ∀ b, x.blk = some b → b ∉ h.blk.toList := fun j x hj hx b hb hm' => hj (hm.dist' hx hi hb (hX b hm'))
  refine ⟨hm.kept.step k (fun x hx => hm.born h hmem x (hX x hx)), hm.le, hm.inv.kept k (fun x hx => hm.free h hmem x (hX x hx)), fun x hx => ?_, fun x hx b hb' => ?_, fun x hx b hb' => ?_, ?_, hm.grow⟩
  · rcases hset x hx with rfl | ⟨j, hj, hx⟩
    · exact ho
    · exact (hm.ok x (List.mem_of_getElem? hx)).kept k (hother j x hj hx)
  · rcases hset x hx with rfl | ⟨j, hj, hx⟩
    · rcases hb with hb | ⟨g, hg, hge⟩
      · exact hm.free h hmem b (hb ▸ hb')
      · rw [hg] at hb'; injection hb' with hb'; subst hb'; exact hm.inv.fresh hge
    · exact hm.free x (List.mem_of_getElem? hx) b hb'
  · rcases hset x hx with rfl | ⟨j, hj, hx⟩
    · rcases hb with hb | ⟨g, hg, hge⟩
      · exact hm.born h hmem b (hb ▸ hb')
      · rw [hg] at hb'; injection hb' with hb'; subst hb'; exact .inr (Nat.le_trans hs hge)
    · exact hm.born x (List.mem_of_getElem? hx) b hb'
  · refine List.pairwise_iff_getElem.2 (fun j k hj hk hjk b h1 h2 => ?_)
    have g1 : (H.set i h')[j]? = some (H.set i h')[j] := List.getElem?_eq_getElem hj
    have g2 : (H.set i h')[k]? = some (H.set i h')[k] := List.getElem?_eq_getElem hk
    generalize (H.set i h')[j] = x at g1 h1
    generalize (H.set i h')[k] = y at g2 h2
    have hil : i < H.length := (List.getElem?_eq_some_iff.1 hi).1
    rw [List.getElem?_set] at g1 g2
    have key : ∀ m z, m ≠ i → H[m]? = some z → z.blk = some b → h'.blk = some b → False := fun m z hmi hz hzb hb' => by
      rcases hb with hb | ⟨g, hg, hge⟩
      · exact hmi (hm.dist' hz hi hzb (hb ▸ hb'))
      · rw [hg] at hb'; injection hb' with hb'; subst hb'
        have := (hm.ok z (List.mem_of_getElem? hz)).lt hzb
        omega
    by_cases e1 : i = j
    · rw [if_pos e1, if_pos hil] at g1
      rw [if_neg (by omega)] at g2
      injection g1 with g1; subst g1
      exact key k y (by omega) g2 h2 h1
    · rw [if_neg e1] at g1
      by_cases e2 : i = k
      · rw [if_pos e2, if_pos hil] at g2
        injection g2 with g2; subst g2
        exact key j x (by omega) g1 h1 h2
      · rw [if_neg e2] at g2
        have := hm.dist' g1 g2 h1 h2
        omega

structure RowI (I : Imm) (ty : TypeId) (sz : Nat) (v : Value) (n : Nat) (xs : List Value) : Prop where
  len : xs.length = n * sz
  out : ∃ a cap, v = .slice a n cap ∧ n ≤ cap ∧ (0 < n → ∃ b off c, ∃ fr : TypeId × (Nat × Nat), a = some ⟨b, off, none⟩ ∧ I b = some (.cells c fr.1 fr.2) ∧ ∀ (j : Nat) (u : Value), xs[j]? = some u → c[off + j]? = some u)
structure PtrI (I : Imm) (b off : Nat) (ty : TypeId) (cs : List Value) : Prop where
  out : ∃ c, ∃ fr : TypeId × (Nat × Nat), I b = some (.cells c fr.1 fr.2) ∧ ∀ (j : Nat) (u : Value), cs[j]? = some u → c[off + j]? = some u
theorem RowI.le {ty sz n : Nat} {v : Value} {xs : List Value} (h : RowI I ty sz v n xs) (hl : Le I I') : RowI I' ty sz v n xs := by
  obtain ⟨h0, a, cap, h1, h2, h3⟩ := h
  exact ⟨h0, a, cap, h1, h2, fun hn => let ⟨b, off, c, fr, e1, e2, e3⟩ := h3 hn; ⟨b, off, c, fr, e1, hl _ _ e2, e3⟩⟩
theorem PtrI.le {b off ty : Nat} {cs : List Value} (h : PtrI I b off ty cs) (hl : Le I I') : PtrI I' b off ty cs := by
  obtain ⟨c, fr, h1, h2⟩ := h
  exact ⟨c, fr, hl _ _ h1, h2⟩
theorem RowI.val {ty sz n : Nat} {v : Value} {xs : List Value} (h : RowI I ty sz v n xs) : ∃ a cap, v = .slice a n cap := let ⟨_, a, cap, h1, _⟩ := h; ⟨a, cap, h1⟩
theorem rowI_nil (I : Imm) (ty : TypeId) (sz cap : Nat) (a : Option Addr) : RowI I ty sz (.slice a 0 cap) 0 [] := ⟨by simp, a, cap, rfl, Nat.zero_le _, fun h => by omega⟩
theorem RowI.reads {ty sz n : Nat} {v : Value} {xs : List Value} (h : RowI I ty sz v n xs) (hI : Inv I w) : Reads w sz v n xs := by
  obtain ⟨h0, a, cap, h1, h2, h3⟩ := h
  exact ⟨h0, a, cap, h1, h2, fun hn => let ⟨b, off, c, fr, e1, e2, e3⟩ := h3 hn; ⟨b, off, c, fr.1, fr.2, e1, hI _ _ e2, e3⟩⟩
theorem RowI.at_ {ty sz n cap : Nat} {a : Option Addr} {xs : List Value} (h : RowI I ty sz (.slice a n cap) n xs) (i : Nat) (hi : i < n) :
    ∃ b off, a = some ⟨b, off, none⟩ ∧ PtrI I b (off + i * sz) ty ((xs.drop (i * sz)).take sz) := by
  obtain ⟨h0, a', cap', h1, h2, h3⟩ := h
  injection h1 with e1 _ e3
  subst e1; subst e3
  obtain ⟨b, off, c, fr, e1, e2, e3⟩ := h3 (by omega)
  refine ⟨b, off, e1, c, fr, e2, fun j u hj => ?_⟩
  rw [List.getElem?_take] at hj
  split at hj
  · rw [List.getElem?_drop] at hj
    rw [Nat.add_assoc]; exact e3 _ _ hj
  · cases hj
theorem flat_drop {α : Type} (enc : α → List Value) (sz : Nat) (he : ∀ a, (enc a).length = sz) : ∀ (l : List α) (i : Nat) (a : α), l[i]? = some a → (((l.flatMap enc).drop (i * sz)).take sz) = enc a
  | [], i, a, h => by simp at h
  | x :: l, 0, a, h => by
    simp only [List.getElem?_cons_zero, Option.some.injEq] at h
    subst h
    rw [List.flatMap_cons, Nat.zero_mul, List.drop_zero, List.take_append_of_le_length (by rw [he]; omega), List.take_of_length_le (by rw [he]; omega)]
  | x :: l, i + 1, a, h => by
    rw [List.getElem?_cons_succ] at h
    rw [List.flatMap_cons, List.drop_append, List.drop_of_length_le (by rw [he, Nat.add_mul]; omega), List.nil_append, he, show (i + 1) * sz - sz = i * sz by rw [Nat.add_mul]; omega]
    exact flat_drop enc sz he l i a h
theorem RowI.flat {α : Type} {enc : α → List Value} {ty sz n cap : Nat} {a : Option Addr} {l : List α} (h : RowI I ty sz (.slice a n cap) n (l.flatMap enc)) (he : ∀ a, (enc a).length = sz) {i : Nat} {x : α} (hi : l[i]? = some x) (hn : i < n) :
    ∃ b off, a = some ⟨b, off, none⟩ ∧ PtrI I b (off + i * sz) ty (enc x) := by
  have := h.at_ i hn
  rwa [flat_drop enc sz he l i x hi] at this
theorem rowI_of_own {base ty sz n : Nat} {v : Value} {xs : List Value} (h : w.ownsRow base ty sz v n xs) (hG : ∀ g o, v.ownBlock = some g → w.heap[g]? = some o → I g = some o) : RowI I ty sz v n xs := by
  refine ⟨h.1, ?_⟩
  rcases h.2 with ⟨rfl, h0⟩ | ⟨g, cap, cur, rfl, hb, hg, hc, _, hs, ht⟩
  · exact ⟨none, 0, by rw [h0], by omega, fun h => by omega⟩
  · refine ⟨_, cap, rfl, hc, fun _ => ⟨g, 0, cur, (ty, (0, 0)), rfl, hG g _ rfl hg, fun j u hj => ?_⟩⟩
    rw [← ht, List.getElem?_take] at hj
    split at hj
    · rw [Nat.zero_add]; simpa using hj
    · cases hj
theorem Mem.freezeB (hm : Mem E I H w) {b : Nat} {o : Obj} (hb : w.heap[b]? = some o) (hf : I b = none) (hn : b ∈ E.X ∨ E.w0.heap.size ≤ b) (hd : ∀ h ∈ H, h.blk ≠ some b) : Mem E (I.add b o) H w :=
  ⟨hm.kept, hm.le.trans (Le.add hf), hm.inv.add hb, hm.ok, fun h hh k hk => (by
    have hne : k ≠ b := fun e => hd h hh (by rw [← e]; exact hk)
    unfold Imm.add
    rw [if_neg hne]; exact hm.free h hh k hk), hm.born, hm.dist, fun k u hk => (by
    unfold Imm.add at hk
    split at hk
    · rename_i e; subst e; exact .inr hn
    · exact hm.grow k u hk)⟩
theorem Mem.freeze {ty sz n : Nat} {v : Value} {xs : List Value} (hm : Mem E I (.row v ty sz n xs :: H) w) : ∃ I', Le I I' ∧ Mem E I' H w ∧ RowI I' ty sz v n xs := by
  have ho := hm.ok _ List.mem_cons_self
  cases hv : v.ownBlock with
  | none => exact ⟨I, Le.refl _, hm.tl, rowI_of_own ho (fun g o h => by rw [hv] at h; cases h)⟩
  | some g =>
    obtain ⟨c, hc⟩ := own_has ho hv
    have hf := hm.free _ List.mem_cons_self g hv
    refine ⟨I.add g (.cells c ty (0, 0)), Le.add hf, hm.tl.freezeB hc hf (hm.born _ List.mem_cons_self g hv) (fun h hh e => (List.pairwise_cons.1 hm.dist).1 h hh g hv e), rowI_of_own ho (fun g' o h h' => ?_)⟩
    rw [hv] at h; injection h with h; subst h
    rw [hc] at h'; injection h' with h'; subst h'
    exact Imm.add_self _ _ _
theorem Mem.freezeO {b ty : Nat} {c : Array Value} {fr : Nat × Nat} (hm : Mem E I (.obj b (.cells c ty fr) :: H) w) : ∃ I', Le I I' ∧ Mem E I' H w ∧ PtrI I' b 0 ty c.toList := by
  have hf := hm.free _ List.mem_cons_self b rfl
  refine ⟨I.add b (.cells c ty fr), Le.add hf, hm.tl.freezeB (hm.ok _ List.mem_cons_self) hf (hm.born _ List.mem_cons_self b rfl) (fun h hh e => (List.pairwise_cons.1 hm.dist).1 h hh b rfl e), c, (ty, fr), Imm.add_self _ _ _, fun j u hj => ?_⟩
  rw [Nat.zero_add]; simpa using hj
theorem Mem.openRow {ty sz n : Nat} {v : Value} {xs : List Value} (hm : Mem E I (.row v ty sz n xs :: H) w) (hn : 0 < n) :
    ∃ g cap cur, v = .slice (some ⟨g, 0, none⟩) n cap ∧ Mem E I (.obj g (.cells cur ty (0, 0)) :: H) w ∧ n ≤ cap ∧ cap ≤ maxLen ∧ cur.size = cap * sz ∧ cur.toList.take (n * sz) = xs := by
  have ho := hm.ok _ List.mem_cons_self
  rcases ho.2 with ⟨_, h0⟩ | ⟨g, cap, cur, rfl, _, hg, hc, hcm, hs, ht⟩
  · omega
  · refine ⟨g, cap, cur, rfl, ?_, hc, hcm, hs, ht⟩
    exact ⟨hm.kept, hm.le, hm.inv, fun h hh => by
        rcases List.mem_cons.1 hh with rfl | hh
        · exact hg
        · exact hm.tl.ok h hh, fun h hh b hb => by
        rcases List.mem_cons.1 hh with rfl | hh
        · exact hm.free _ List.mem_cons_self b hb
        · exact hm.tl.free h hh b hb, fun h hh b hb => by
        rcases List.mem_cons.1 hh with rfl | hh
        · exact hm.born _ List.mem_cons_self b hb
        · exact hm.tl.born h hh b hb, .cons (fun h hh b hb => (List.pairwise_cons.1 hm.dist).1 h hh b hb) hm.tl.dist, hm.grow⟩
theorem Mem.shutRow {ty sz n g cap : Nat} {cur : Array Value} {xs : List Value} (hm : Mem E I (.obj g (.cells cur ty (0, 0)) :: H) w) (hc : n ≤ cap) (hcm : cap ≤ maxLen) (hs : cur.size = cap * sz) (ht : cur.toList.take (n * sz) = xs) :
    Mem E I (.row (.slice (some ⟨g, 0, none⟩) n cap) ty sz n xs :: H) w :=
  ⟨hm.kept, hm.le, hm.inv, fun h hh => by
        rcases List.mem_cons.1 hh with rfl | hh
        · refine ⟨?_, .inr ⟨g, cap, cur, rfl, Nat.zero_le _, hm.ok _ List.mem_cons_self, hc, hcm, hs, ht⟩⟩
          rw [← ht, List.length_take, Array.length_toList, hs]
          exact Nat.min_eq_left (Nat.mul_le_mul_right _ hc)
        · exact hm.tl.ok h hh, fun h hh b hb => by
        rcases List.mem_cons.1 hh with rfl | hh
        · exact hm.free _ List.mem_cons_self b hb
        · exact hm.tl.free h hh b hb, fun h hh b hb => by
        rcases List.mem_cons.1 hh with rfl | hh
        · exact hm.born _ List.mem_cons_self b hb
        · exact hm.tl.born h hh b hb, .cons (fun h hh b hb => (List.pairwise_cons.1 hm.dist).1 h hh b hb) hm.tl.dist, hm.grow⟩
end

structure CalM (P : Program) (f : FuncId) (args : Array Value) (I : Imm) (H : List HItem) (Post : Value → Imm → List HItem → Prop) : Prop where
  run : ∀ w, Mem ⟨w, blks H, I⟩ I H w → Cal P f args w (fun v w' => ∃ I' H', Post v I' H' ∧ Mem ⟨w, blks H, I⟩ I' H' w')
theorem CalM.mono {P : Program} {f : FuncId} {args : Array Value} {I : Imm} {H : List HItem} {Post Post' : Value → Imm → List HItem → Prop} (h : CalM P f args I H Post) (hp : ∀ v I' H', Le I I' → Post v I' H' → Post' v I' H') : CalM P f args I H Post' :=
  ⟨fun w hm => (h.run w hm).mono (fun _ _ ⟨I', H', h1, h2⟩ => ⟨I', H', hp _ _ _ h2.le h1, h2⟩)⟩

section
variable {P : Program} {N : Nat} {ds : List Deferred} {Q : Exit → Act → World → Prop} {l l' : Log} {w w' : World} {ops : Array Oper} {os : List Oper} {o : Oper}
variable {d : Nat} {ty : TypeId} {pos : String} {af : Array Edge} {g : Option (Nat × Bool)} {t t' : TypeId} {x y : Operand}
variable {E : Ent} {I I' : Imm} {H H' R : List HItem}

theorem Mem.back (hm : Mem E I (H ++ R) w) (hc : Mem ⟨w, blks H, I⟩ I' H' w') : Mem E I' (H' ++ R) w' := by
  have hs := hm.kept.size
  have hbl : ∀ x ∈ blks H, x ∈ E.X ∨ E.w0.heap.size ≤ x := fun x hx => by
    obtain ⟨h, hh, hb⟩ := mem_blks hx
    exact hm.born h (List.mem_append_left _ hh) x hb
  have hR : ∀ h ∈ R, ∀ b, h.blk = some b → b ∉ blks H := fun h hh b hb hx => by
    obtain ⟨k, hk, hkb⟩ := mem_blks hx
    exact (List.pairwise_append.1 hm.dist).2.2 k hk h hh b hkb hb
  have hRl : ∀ h ∈ R, ∀ b, h.blk = some b → b < w.heap.size := fun h hh b hb => (hm.ok h (List.mem_append_right _ hh)).lt hb
  refine ⟨hm.kept.step hc.kept hbl, hm.le.trans hc.le, hc.inv, fun h hh => ?_, fun h hh b hb => ?_, fun h hh b hb => ?_, List.pairwise_append.2 ⟨hc.dist, (List.pairwise_append.1 hm.dist).2.1, fun h hh k hk b hb hkb => ?_⟩, fun b o hb => ?_⟩
  · rcases List.mem_append.1 hh with hh | hh
    · exact hc.ok h hh
    · exact (hm.ok h (List.mem_append_right _ hh)).kept hc.kept (hR h hh)
  · rcases List.mem_append.1 hh with hh | hh
    · exact hc.free h hh b hb
    · cases hi : I' b with
      | none => rfl
      | some o =>
        have h1 := hR h hh b hb
        have h2 := hRl h hh b hb
        have h3 := hm.free h (List.mem_append_right _ hh) b hb
        rcases hc.grow b o hi with h4 | h4 | h4
        · dsimp only at h4; rw [h3] at h4; cases h4
        · exact absurd h4 h1
        · dsimp only at h4; omega
  · rcases List.mem_append.1 hh with hh | hh
    · rcases hc.born h hh b hb with h1 | h1
      · exact hbl b h1
      · exact .inr (Nat.le_trans hs h1)
    · exact hm.born h (List.mem_append_right _ hh) b hb
  · rcases hc.born h hh b hb with h1 | h1
    · exact hR k hk b hkb h1
    · have := hRl k hk b hkb
      dsimp only at h1; omega
  · rcases hc.grow b o hb with h1 | h1 | h1
    · exact hm.grow b o h1
    · exact .inr (hbl b h1)
    · exact .inr (.inr (Nat.le_trans hs h1))
theorem Mem.sub (hm : Mem E I (H ++ R) w) : Mem ⟨w, blks H, I⟩ I H w :=
  ⟨Kept.refl _ _, Le.refl _, hm.inv, hm.left.ok, hm.left.free, fun h hh b hb => .inl (by simp only [blks, List.mem_filterMap]; exact ⟨h, hh, hb⟩), hm.left.dist, fun _ _ h => .inl h⟩

theorem m_call {f : FuncId} [Own P f] {xs : List Operand} {tys : Array TypeId} {vs : List Value} {G : List HItem} {Post : Value → Imm → List HItem → Prop} (hm : Mem E I G w)
    (hw : want ops l ⟨some d, .call ⟨.value (.func f), xs.toArray, tys⟩, ty, pos, af, g⟩ = some true := by rfl) (hN : Nat.blt d N = true := by rfl)
    (hx : evs l xs = some vs := by rfl) (hp : G.Perm (H ++ R) := by first | exact pm0 | exact pm1_0 | exact pm1_1 | exact pm1_2 | exact pm1_3 | exact pm2_0 | exact pm2_1 | exact pm2_2 | exact pm2_3 | exact pm2_4 | exact pm3_0 | exact pm3_1 | exact pm3_2) (hc : CalM P f vs.toArray I H Post)
    (k : ∀ v I' H' w', Post v I' H' → Le I I' → Mem E I' (H' ++ R) w' → WL P N ds ops Q os ((d, v) :: l) w') :
    WL P N ds ops Q (⟨some d, .call ⟨.value (.func f), xs.toArray, tys⟩, ty, pos, af, g⟩ :: os) l w :=
  op_call hw hN hx (hc.run w (hm.perm hp).sub) (fun v w' ⟨I', H', h1, h2⟩ => k v I' H' w' h1 h2.le ((hm.perm hp).back h2))
theorem m_load1 [TyOne P t] {i b off : Nat} {c : List Value} {e : TypeId} {fr : Nat × Nat} {v : Value} (hm : Mem E I H w) (hw : want ops l ⟨some d, .load t x, ty, pos, af, g⟩ = some true := by rfl) (hN : Nat.blt d N = true := by rfl)
    (hx : ev l x = some (.pointer (some ⟨b, off, none⟩)) := by rfl) (hb : H[i]? = some (.obj b (.cells c.toArray e fr)) := by first | exact gt0 | exact gt1 | exact gt2 | exact gt3 | exact gt4 | exact gt5 | exact gt6) (hc : c[off]? = some v := by rfl)
    (k : WL P N ds ops Q os ((d, v) :: l) w) : WL P N ds ops Q (⟨some d, .load t x, ty, pos, af, g⟩ :: os) l w :=
  op_load1 hw hN hx (hm.get hb) (by simpa using hc) k
theorem m_loadN {n : Nat} [TyAgg P t n] {i b off : Nat} {c : Array Value} {e : TypeId} {fr : Nat × Nat} {vs : List Value} (hm : Mem E I H w) (hw : want ops l ⟨some d, .load t x, ty, pos, af, g⟩ = some true) (hN : Nat.blt d N = true)
    (hx : ev l x = some (.pointer (some ⟨b, off, none⟩))) (hb : H[i]? = some (.obj b (.cells c e fr))) (hc : (c.toList.drop off).take n = vs) (hl : vs.length = n)
    (k : WL P N ds ops Q os ((d, .agg vs.toArray) :: l) w) : WL P N ds ops Q (⟨some d, .load t x, ty, pos, af, g⟩ :: os) l w :=
  op_loadN hw hN hx (hm.get hb) hl (fun j v hv => by
    rw [← hc, List.getElem?_take] at hv
    split at hv
    · rw [List.getElem?_drop] at hv; simpa using hv
    · cases hv) k
theorem i_load1 [TyOne P t] {b off j tc : Nat} {cs : List Value} {v : Value} (hm : Mem E I H w) (hw : want ops l ⟨some d, .load t x, ty, pos, af, g⟩ = some true := by rfl) (hN : Nat.blt d N = true := by rfl)
    (hx : ev l x = some (.pointer (some ⟨b, off + j, none⟩)) := by rfl) (hp : PtrI I b off tc cs := by assumption) (hc : cs[j]? = some v := by rfl)
    (k : WL P N ds ops Q os ((d, v) :: l) w) : WL P N ds ops Q (⟨some d, .load t x, ty, pos, af, g⟩ :: os) l w := by
  obtain ⟨c, fr, h1, h2⟩ := hp
  exact op_load1 hw hN hx (hm.inv _ _ h1) (h2 j v hc) k
theorem i_loadN {n : Nat} [TyAgg P t n] {b off tc : Nat} {cs : List Value} (hm : Mem E I H w) (hw : want ops l ⟨some d, .load t x, ty, pos, af, g⟩ = some true := by rfl) (hN : Nat.blt d N = true := by rfl)
    (hx : ev l x = some (.pointer (some ⟨b, off, none⟩)) := by rfl) (hp : PtrI I b off tc cs := by assumption) (hc : cs.length = n := by rfl)
    (k : WL P N ds ops Q os ((d, .agg cs.toArray) :: l) w) : WL P N ds ops Q (⟨some d, .load t x, ty, pos, af, g⟩ :: os) l w := by
  obtain ⟨c, fr, h1, h2⟩ := hp
  exact op_loadN hw hN hx (hm.inv _ _ h1) hc h2 k
theorem m_store {i b off n by_ : Nat} [Elem P t n by_] {c : List Value} {e : TypeId} {v : Value} {dst : Option Nat} (hm : Mem E I H w) (hd : dst = none) (hw : want ops l ⟨dst, .store t x y, ty, pos, af, g⟩ = some true)
    (hx : ev l x = some (.pointer (some ⟨b, off, none⟩))) (hy : ev l y = some v) (hb : H[i]? = some (.obj b (.cells c.toArray e (0, 0)))) (hn : v.cells.toList.length = n) (ho : Nat.ble (off + n) c.length = true)
    (h1 : v.cells.toList.all (·.oneCell') = true)
    (k : ∀ w', Mem E I (H.set i (.obj b (.cells (c.take off ++ (v.cells.toList ++ c.drop (off + n))).toArray e (0, 0)))) w' → WL P N ds ops Q os l w') :
    WL P N ds ops Q (⟨dst, .store t x y, ty, pos, af, g⟩ :: os) l w :=
  op_store hd hw hx hy (hm.get hb) (by simpa using hn) (by simpa using Nat.le_of_ble_eq_true ho) h1 (fun w' hb' hk => k w' (hm.turn hb (by simpa [HItem.blk] using hk) (by
    show w'.heap[b]? = _
    rw [hb']; simp) (.inl rfl)))
theorem m_var {n by_ : Nat} [Elem P t n by_] {v : Value} {ty' : TypeId} {pos' : String} {af' : Array Edge} (hm : Mem E I H w) (hN : Nat.blt d N = true)
    (hy : ev l y = some v) (hne : neTmp y d = true) (hn : v.cells.toList.length = n) (h1 : v.cells.toList.all (·.oneCell') = true)
    (k : ∀ b w', Mem E I (.obj b (.cells v.cells.toList.toArray t (0, 0)) :: H) w' → WL P N ds ops Q os ((d, .pointer (some ⟨b, 0, none⟩)) :: l) w') :
    WL P N ds ops Q (⟨some d, .alloc t, ty, pos, af, none⟩ :: ⟨none, .store t (.tmp d) y, ty', pos', af', none⟩ :: os) l w :=
  op_var hN hy hne (by simpa using hn) h1 (fun b w' hb hh hk => k b w' (hm.add hk (by simpa [HItem.ok] using hh) (fun b' hb' => by simp only [HItem.blk, Option.some.injEq] at hb'; omega)))
theorem m_alloc {n by_ : Nat} [Elem P t n by_] (hm : Mem E I H w) (hw : want ops l ⟨some d, .alloc t, ty, pos, af, g⟩ = some true) (hN : Nat.blt d N = true) {z : List Value} (hz : (P.info? t).bind (·.zero) = some (.agg z.toArray))
    (k : ∀ b w', Mem E I (.obj b (.cells z.toArray t (0, 0)) :: H) w' → WL P N ds ops Q os ((d, .pointer (some ⟨b, 0, none⟩)) :: l) w') :
    WL P N ds ops Q (⟨some d, .alloc t, ty, pos, af, g⟩ :: os) l w := by
  cases hi : P.info? t with
  | none => simp [hi] at hz
  | some i =>
    simp only [hi, Option.bind_some] at hz
    have hk := Kept.alloc w (.cells z.toArray t (0, 0))
    refine wl_value (w' := w.alloc (.cells z.toArray t (0, 0))) (v := .pointer (some ⟨w.heap.size, 0, none⟩)) rfl hw hN (fun a ha => ?_) (k _ _ (hm.add hk (heap_alloc_new w _) (fun b hb => by simp only [HItem.blk, Option.some.injEq] at hb; omega)))
    simp [execOp, Instr.alloc, newVar, newRow, newObj, zeroValue, typeInfo, hi, hz, Value.cells]; rfl
theorem m_append1 {e : TypeId} {sz by_ : Nat} [TySlice P t e] [Elem P e sz by_] {d1 i : Nat} {s : Operand} {v u : Value} {n : Nat} {xs : List Value}
    {ty' : TypeId} {pos' : String} {af' : Array Edge} (hm : Mem E I H w) (hN1 : Nat.blt d1 N = true) (hN : Nat.blt d N = true)
    (hs : ev l s = some v) (hne : neTmp s d1 = true) (hx : ev l x = some u) (hi : H[i]? = some (.row v e sz n xs)) (hu : u.cells.toList.length = sz) (h1 : u.cells.toList.all (·.oneCell') = true)
    (hsz : Nat.ble sz 1024 = true) (hlen : (n + 1) * by_ ≤ 140737488355328) (hl' : n + 1 ≤ 9223372036854775807)
    (k : ∀ v' b1 w', Mem E I (H.set i (.row v' e sz (n + 1) (xs ++ u.cells.toList))) w' → WL P N ds ops Q os ((d, v') :: (d1, .slice (some ⟨b1, 0, none⟩) 1 1) :: l) w') :
    WL P N ds ops Q (⟨some d1, .buildSlice t 1 #[(0, x)], ty, pos, af, none⟩ :: ⟨some d, .call ⟨.builtin .append, #[s, .tmp d1], #[t, t]⟩, ty', pos', af', none⟩ :: os) l w :=
  op_append1 hN1 hN hs hne hx (hm.getRow hi) (by simpa using hu) h1 (Nat.le_of_ble_eq_true hsz) hlen hl' (Nat.zero_le _) (fun v' w' ho hk hb => k v' _ w' (hm.turn hi hk ho (hb.imp_right fun ⟨g, h1, h2⟩ => ⟨g, h1, h2⟩)))
theorem i_indexAddr {e : TypeId} {sz by_ : Nat} [TySlice P t e] [Elem P e sz by_] {a : Option Addr} {n cp : Nat} {i : Int} {xs : List Value} (hw : want ops l ⟨some d, .indexAddr t x y, ty, pos, af, g⟩ = some true := by rfl) (hN : Nat.blt d N = true := by rfl)
    (hx : ev l x = some (.slice a n cp) := by rfl) (hy : ev l y = some (.int .i64 i) := by rfl) (hr : RowI I e sz (.slice a n cp) n xs) (h0 : 0 ≤ i := by omega) (h1 : i < n := by omega)
    (k : ∀ b off, PtrI I b off e ((xs.drop (i.toNat * sz)).take sz) → WL P N ds ops Q os ((d, .pointer (some ⟨b, off, none⟩)) :: l) w) :
    WL P N ds ops Q (⟨some d, .indexAddr t x y, ty, pos, af, g⟩ :: os) l w := by
  obtain ⟨b, off, rfl, hp⟩ := hr.at_ i.toNat (by omega)
  exact op_indexAddr hw hN hx hy h0 h1 (k b _ hp)
theorem i_indexFlat {α : Type} {enc : α → List Value} {e : TypeId} {sz by_ : Nat} [TySlice P t e] [Elem P e sz by_] {a : Option Addr} {n cp : Nat} {i : Int} {xs : List α} {z : α} (hw : want ops l ⟨some d, .indexAddr t x y, ty, pos, af, g⟩ = some true := by rfl) (hN : Nat.blt d N = true := by rfl)
    (hx : ev l x = some (.slice a n cp) := by rfl) (hy : ev l y = some (.int .i64 i) := by rfl) (hr : RowI I e sz (.slice a n cp) n (xs.flatMap enc)) (he : ∀ a, (enc a).length = sz) (h0 : 0 ≤ i := by omega) (h1 : i < n := by omega) (hz : xs[i.toNat]? = some z)
    (k : ∀ b off, PtrI I b off e (enc z) → WL P N ds ops Q os ((d, .pointer (some ⟨b, off, none⟩)) :: l) w) :
    WL P N ds ops Q (⟨some d, .indexAddr t x y, ty, pos, af, g⟩ :: os) l w := by
  obtain ⟨b, off, rfl, hp⟩ := hr.flat he hz (by omega)
  exact op_indexAddr hw hN hx hy h0 h1 (k b _ hp)
end
end Go.Fw
end
section
namespace Go.Fw
open Go
section
variable {P : Program} {N : Nat} {ds : List Deferred} {K : Act → Prop} {X : List Nat} {l l' : Log} {w w' : World} {ops : Array Oper} {os : List Oper} {o : Oper}
variable {d : Nat} {ty : TypeId} {pos : String} {af : Array Edge} {g : Option (Nat × Bool)} {t t' : TypeId} {x y : Operand} {ik : IntKind}

theorem v_move {x : Operand} {v : Value} (hw : want ops l ⟨some d, .move x, ty, pos, af, g⟩ = some true := by rfl) (hN : Nat.blt d N = true := by rfl) (hx : ev l x = some v := by rfl)
    (k : WV P N ds ops X w K os ((d, v) :: l)) : WV P N ds ops X w K (⟨some d, .move x, ty, pos, af, g⟩ :: os) l :=
  wv_value rfl hw hN (fun w' hkq a ha => by simp [execOp, ha.ev hx]) k
theorem v_pick_true {c x y : Operand} {v : Value} (hw : want ops l ⟨some d, .pick c x y, ty, pos, af, g⟩ = some true := by rfl) (hN : Nat.blt d N = true := by rfl)
    (hc : ev l c = some (.bool true) := by rfl) (hx : ev l x = some v := by rfl) (k : WV P N ds ops X w K os ((d, v) :: l)) : WV P N ds ops X w K (⟨some d, .pick c x y, ty, pos, af, g⟩ :: os) l :=
  wv_value rfl hw hN (fun w' hkq a ha => by simp [execOp, ha.ev hc, ha.ev hx, asBool]) k
theorem v_pick_false {c x y : Operand} {v : Value} (hw : want ops l ⟨some d, .pick c x y, ty, pos, af, g⟩ = some true := by rfl) (hN : Nat.blt d N = true := by rfl)
    (hc : ev l c = some (.bool false) := by rfl) (hy : ev l y = some v := by rfl) (k : WV P N ds ops X w K os ((d, v) :: l)) : WV P N ds ops X w K (⟨some d, .pick c x y, ty, pos, af, g⟩ :: os) l :=
  wv_value rfl hw hN (fun w' hkq a ha => by simp [execOp, ha.ev hc, ha.ev hy, asBool]) k
theorem v_leq {a b : Int} (hw : want ops l ⟨some d, .binOp .leq t x y t', ty, pos, af, g⟩ = some true := by rfl) (hN : Nat.blt d N = true := by rfl) (hx : ev l x = some (.int ik a) := by rfl) (hy : ev l y = some (.int ik b) := by rfl)
    (k : WV P N ds ops X w K os ((d, .bool (decide (a ≤ b))) :: l)) : WV P N ds ops X w K (⟨some d, .binOp .leq t x y t', ty, pos, af, g⟩ :: os) l :=
  wv_value rfl hw hN (fun w' hkq c hc => by simp [execOp, hc.ev hx, hc.ev hy, eqGuard, binOp, Op.intCmp]) k
theorem v_len_str [TyStr P t] {s : List UInt8} (hw : want ops l ⟨some d, .call ⟨.builtin .len, #[x], #[t]⟩, ty, pos, af, g⟩ = some true := by rfl) (hN : Nat.blt d N = true := by rfl)
    (hx : ev l x = some (str s) := by rfl) (k : WV P N ds ops X w K os ((d, .int .i64 (s.length : Int)) :: l)) :
    WV P N ds ops X w K (⟨some d, .call ⟨.builtin .len, #[x], #[t]⟩, ty, pos, af, g⟩ :: os) l :=
  wv_value rfl hw hN (fun w' hkq a ha => by
    have h1 := run_underlying (P := P) (w := w') (TyStr.out (P := P) (t := t))
    simp [execOp, resolve, invoke, builtin, Builtin.len_, ha.ev hx, h1, goInt, str_size]) k
theorem v_len_slice {e : TypeId} [TySlice P t e] {b : Option Addr} {n c : Nat} (hw : want ops l ⟨some d, .call ⟨.builtin .len, #[x], #[t]⟩, ty, pos, af, g⟩ = some true := by rfl) (hN : Nat.blt d N = true := by rfl)
    (hx : ev l x = some (.slice b n c) := by rfl) (k : WV P N ds ops X w K os ((d, .int .i64 (n : Int)) :: l)) :
    WV P N ds ops X w K (⟨some d, .call ⟨.builtin .len, #[x], #[t]⟩, ty, pos, af, g⟩ :: os) l :=
  wv_value rfl hw hN (fun w' hkq a ha => by
    have h1 := run_underlying (P := P) (w := w') (TySlice.out (P := P) (t := t))
    simp [execOp, resolve, invoke, builtin, Builtin.len_, ha.ev hx, h1, goInt]) k
theorem v_add {a b : Int} (hw : want ops l ⟨some d, .binOp .add t x y t', ty, pos, af, g⟩ = some true := by rfl) (hN : Nat.blt d N = true := by rfl)
    (hx : ev l x = some (.int .i64 a) := by rfl) (hy : ev l y = some (.int .i64 b) := by rfl) (h : -9223372036854775808 ≤ a + b ∧ a + b ≤ 9223372036854775807 := by omega)
    (k : WV P N ds ops X w K os ((d, .int .i64 (a + b)) :: l)) : WV P N ds ops X w K (⟨some d, .binOp .add t x y t', ty, pos, af, g⟩ :: os) l :=
  wv_value rfl hw hN (fun w' hkq c hc => by simp [execOp, hc.ev hx, hc.ev hy, eqGuard, binOp, Op.intArith, IntWalk.i64_in _ h]) k
theorem v_sub {a b : Int} (hw : want ops l ⟨some d, .binOp .sub t x y t', ty, pos, af, g⟩ = some true := by rfl) (hN : Nat.blt d N = true := by rfl)
    (hx : ev l x = some (.int .i64 a) := by rfl) (hy : ev l y = some (.int .i64 b) := by rfl) (h : -9223372036854775808 ≤ a - b ∧ a - b ≤ 9223372036854775807 := by omega)
    (k : WV P N ds ops X w K os ((d, .int .i64 (a - b)) :: l)) : WV P N ds ops X w K (⟨some d, .binOp .sub t x y t', ty, pos, af, g⟩ :: os) l :=
  wv_value rfl hw hN (fun w' hkq c hc => by simp [execOp, hc.ev hx, hc.ev hy, eqGuard, binOp, Op.intArith, IntWalk.i64_in _ h]) k
theorem v_load1 [TyOne P t] {b off : Nat} {c : Array Value} {e : TypeId} {fr : Nat × Nat} {v : Value} (hw : want ops l ⟨some d, .load t x, ty, pos, af, g⟩ = some true) (hN : Nat.blt d N = true)
    (hx : ev l x = some (.pointer (some ⟨b, off, none⟩))) (hb : w.heap[b]? = some (.cells c e fr)) (hxb : b ∉ X) (hc : c[off]? = some v)
    (k : WV P N ds ops X w K os ((d, v) :: l)) : WV P N ds ops X w K (⟨some d, .load t x, ty, pos, af, g⟩ :: os) l :=
  wv_value rfl hw hN (fun w' hkq a ha => by
    obtain ⟨dd, h1, h2⟩ := TyOne.out (P := P) (t := t)
    have h4 := cell_of (hkq.get hb hxb) hc
    simp [execOp, Instr.loadAt, Instr.sureAddr, loadVar, run_isAgg h1, h2, ha.ev hx, load, Sem.run, h4]) k
theorem v_fieldAddr {i off : Nat} [Fld P t i off] {b o' : Nat} (hw : want ops l ⟨some d, .fieldAddr t x i, ty, pos, af, g⟩ = some true := by rfl) (hN : Nat.blt d N = true := by rfl)
    (hx : ev l x = some (.pointer (some ⟨b, o', none⟩)) := by rfl) (k : WV P N ds ops X w K os ((d, .pointer (some ⟨b, o' + off, none⟩)) :: l)) :
    WV P N ds ops X w K (⟨some d, .fieldAddr t x i, ty, pos, af, g⟩ :: os) l :=
  wv_value rfl hw hN (fun w' hkq a ha => by
    obtain ⟨fs, f, inf, h1, h2, h3, h4, h5⟩ := Fld.out (P := P) (t := t) (i := i)
    have h6 := run_underlying (P := P) (w := w') h1
    simp [execOp, Instr.fieldAt, Instr.sureAddr, ha.ev hx, h6, h2, fieldPlace, sizeOf, typeInfo, h4, h5, h3, Addr.add_lit]) k
theorem v_indexAddr {e : TypeId} {sz by_ : Nat} [TySlice P t e] [Elem P e sz by_] {b o' n cp : Nat} {i : Int} (hw : want ops l ⟨some d, .indexAddr t x y, ty, pos, af, g⟩ = some true := by rfl) (hN : Nat.blt d N = true := by rfl)
    (hx : ev l x = some (.slice (some ⟨b, o', none⟩) n cp) := by rfl) (hy : ev l y = some (.int .i64 i) := by rfl) (h0 : 0 ≤ i := by omega) (h1 : i < n := by omega)
    (k : WV P N ds ops X w K os ((d, .pointer (some ⟨b, o' + i.toNat * sz, none⟩)) :: l)) :
    WV P N ds ops X w K (⟨some d, .indexAddr t x y, ty, pos, af, g⟩ :: os) l :=
  wv_value rfl hw hN (fun w' hkq a ha => by
    obtain ⟨inf, z, hi, _, hs, _, _, _⟩ := Elem.out (P := P) (e := e)
    have h6 := run_underlying (P := P) (w := w') (TySlice.out (P := P) (t := t))
    simp [execOp, Instr.indexAt, asIntOf, ha.ev hx, ha.ev hy, h6, h0, h1, sizeOf, typeInfo, hi, hs, Addr.add_lit]) k
theorem v_loadN {n : Nat} [TyAgg P t n] {b off : Nat} {c : Array Value} {e : TypeId} {fr : Nat × Nat} {vs : List Value} (hw : want ops l ⟨some d, .load t x, ty, pos, af, g⟩ = some true) (hN : Nat.blt d N = true)
    (hx : ev l x = some (.pointer (some ⟨b, off, none⟩))) (hb : w.heap[b]? = some (.cells c e fr)) (hxb : b ∉ X) (hl : vs.length = n) (hc : ∀ j v, vs[j]? = some v → c[off + j]? = some v)
    (k : WV P N ds ops X w K os ((d, .agg vs.toArray) :: l)) : WV P N ds ops X w K (⟨some d, .load t x, ty, pos, af, g⟩ :: os) l :=
  wv_value rfl hw hN (fun w' hkq a ha => by
    obtain ⟨dd, i, h1, h2, h3, h4⟩ := TyAgg.out (P := P) (t := t)
    have h5 := run_loadCells_list (P := P) w' ⟨b, off, none⟩ vs (fun j v hv => by rw [Addr.add_lit]; exact cell_of (hkq.get hb hxb) (hc j v hv))
    rw [hl] at h5
    simp [execOp, Instr.loadAt, Instr.sureAddr, loadVar, run_isAgg h1, h2, ha.ev hx, sizeOf, typeInfo, h3, h4, h5]) k
theorem v_struct {places : List (Nat × Nat)} {zero : List Value} [StructT P t places zero] {ps : List (Nat × Operand)} {vs : List (Nat × Value)} {r : List Value}
    (hw : want ops l ⟨some d, .build t ps.toArray, ty, pos, af, g⟩ = some true := by rfl) (hN : Nat.blt d N = true := by rfl)
    (hx : evp l ps = some vs := by rfl) (hr : bld places zero vs = some r := by rfl) (k : WV P N ds ops X w K os ((d, .agg r.toArray) :: l)) :
    WV P N ds ops X w K (⟨some d, .build t ps.toArray, ty, pos, af, g⟩ :: os) l :=
  wv_value rfl hw hN (fun w' hkq a ha => by
    have e1 := ha.evp hx
    obtain ⟨fs, h1, h2, h3⟩ := StructT.out (P := P) (t := t)
    have h4 := run_underlying (P := P) (w := w') h1
    have h5 := run_places (P := P) w' _ _ h2
    have h6 := fill_bld places vs zero r hr
    simp only [bind_pure_comp] at h5
    simp only [List.getElem?_toArray] at h6
    cases hi : P.info? t with
    | none => simp [hi] at h3
    | some i =>
      simp only [hi, Option.bind_some] at h3
      simp [execOp, Instr.build, e1, zeroValue, typeInfo, hi, h3, h4, Array.mapM_eq_mapM_toList, h5, Value.cells, h6]) k
theorem v_nilCheck {p : Addr} (hw : want ops l ⟨some d, .nilCheck x, ty, pos, af, g⟩ = some true := by rfl) (hN : Nat.blt d N = true := by rfl)
    (hx : ev l x = some (.pointer (some p)) := by rfl) (k : WV P N ds ops X w K os ((d, .pointer (some p)) :: l)) : WV P N ds ops X w K (⟨some d, .nilCheck x, ty, pos, af, g⟩ :: os) l :=
  wv_value rfl hw hN (fun w' hkq c hc => by simp [execOp, hc.ev hx]) k
end
end Go.Fw
end
