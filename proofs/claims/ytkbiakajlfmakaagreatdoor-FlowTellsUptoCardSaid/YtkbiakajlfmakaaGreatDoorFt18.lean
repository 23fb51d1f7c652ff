/- Own work: texts SpecAll, SpecRuns, SpecChange, SpecNames, NmA, SpecFlow, one behind the other. -/
import Derived.Test.YtkbiakajlfmakaaGreatDoorFt17
section
namespace Go.Sp
abbrev PE := Nat → List UInt8 → Nat → Nat → Nat → Nat → Prop
abbrev PS := Nat → List UInt8 → Nat → Nat → Bool → Nat → Nat → Prop
mutual
def Ex.all (p : PE) : Ex → Prop
  | .mk k nm n args f t => p k nm n args.length f t ∧ exsAll p args
def exsAll (p : PE) : List Ex → Prop
  | [] => True
  | e :: es => e.all p ∧ exsAll p es
 end
mutual
def Stm.all (p : PE) (q : PS) : Stm → Prop
  | .mk k nm a lb o e thn els f t => q k nm a lb o f t ∧ e.all p ∧ stmsAll p q thn ∧ stmsAll p q els
def stmsAll (p : PE) (q : PS) : List Stm → Prop
  | [] => True
  | x :: xs => x.all p q ∧ stmsAll p q xs
 end
theorem exsAll_app {p : PE} : ∀ {l r : List Ex}, exsAll p l → exsAll p r → exsAll p (l ++ r)
  | [], r, _, h => h
  | e :: l, r, h, g => by
    rw [exsAll] at h
    rw [List.cons_append, exsAll]
    exact ⟨h.1, exsAll_app h.2 g⟩
theorem exsAll_one {p : PE} {e : Ex} (h : e.all p) : exsAll p [e] := by rw [exsAll, exsAll]; exact ⟨h, trivial⟩
theorem exsAll_nil {p : PE} : exsAll p [] := by rw [exsAll]; trivial
theorem stmsAll_nil {p : PE} {q : PS} : stmsAll p q [] := by rw [stmsAll]; trivial
theorem stmsAll_app {p : PE} {q : PS} : ∀ {l r : List Stm}, stmsAll p q l → stmsAll p q r → stmsAll p q (l ++ r)
  | [], r, _, h => h
  | e :: l, r, h, g => by
    rw [stmsAll] at h
    rw [List.cons_append, stmsAll]
    exact ⟨h.1, stmsAll_app h.2 g⟩
theorem stmsAll_one {p : PE} {q : PS} {e : Stm} (h : e.all p q) : stmsAll p q [e] := by rw [stmsAll, stmsAll]; exact ⟨h, trivial⟩
theorem exsAll_get {p : PE} : ∀ {l : List Ex} {i : Nat} {e : Ex}, exsAll p l → l[i]? = some e → e.all p
  | [], _, _, _, h => by simp at h
  | a :: l, 0, e, h, hg => by
    rw [exsAll] at h
    simp only [List.getElem?_cons_zero, Option.some.injEq] at hg
    subst hg; exact h.1
  | a :: l, i + 1, e, h, hg => by
    rw [exsAll] at h
    rw [List.getElem?_cons_succ] at hg
    exact exsAll_get h.2 hg
theorem stmsAll_get {p : PE} {q : PS} : ∀ {l : List Stm} {i : Nat} {e : Stm}, stmsAll p q l → l[i]? = some e → e.all p q
  | [], _, _, _, h => by simp at h
  | a :: l, 0, e, h, hg => by
    rw [stmsAll] at h
    simp only [List.getElem?_cons_zero, Option.some.injEq] at hg
    subst hg; exact h.1
  | a :: l, i + 1, e, h, hg => by
    rw [stmsAll] at h
    rw [List.getElem?_cons_succ] at hg
    exact stmsAll_get h.2 hg
theorem all_leaf {p : PE} {k n f t : Nat} {nm : List UInt8} (h : p k nm n 0 f t) : (Ex.mk k nm n [] f t).all p := by rw [Ex.all]; exact ⟨h, exsAll_nil⟩
theorem Ex.all_node {p : PE} {e : Ex} (h : e.all p) : p e.kind e.name e.n e.args.length e.fr e.to ∧ exsAll p e.args := by
  cases e; rw [Ex.all] at h; exact h
theorem Stm.all_node {p : PE} {q : PS} {e : Stm} (h : e.all p q) : q e.kind e.name e.at_ e.label e.opn e.fr e.to ∧ e.e.all p ∧ stmsAll p q e.thn ∧ stmsAll p q e.els := by
  cases e; rw [Stm.all] at h; exact h
mutual
theorem Ex.all_mono {p q : PE} (h : ∀ k nm n m f t, p k nm n m f t → q k nm n m f t) : ∀ (e : Ex), e.all p → e.all q
  | .mk k nm n args f t, ha => by rw [Ex.all] at ha ⊢; exact ⟨h _ _ _ _ _ _ ha.1, exsAll_mono h args ha.2⟩
theorem exsAll_mono {p q : PE} (h : ∀ k nm n m f t, p k nm n m f t → q k nm n m f t) : ∀ (l : List Ex), exsAll p l → exsAll q l
  | [], _ => exsAll_nil
  | e :: l, ha => by rw [exsAll] at ha ⊢; exact ⟨Ex.all_mono h e ha.1, exsAll_mono h l ha.2⟩
 end
mutual
theorem Stm.all_mono {p q : PE} {r s : PS} (h : ∀ k nm n m f t, p k nm n m f t → q k nm n m f t) (g : ∀ k nm a l o f t, r k nm a l o f t → s k nm a l o f t) : ∀ (e : Stm), e.all p r → e.all q s
  | .mk k nm a lb o e thn els f t, ha => by rw [Stm.all] at ha ⊢; exact ⟨g _ _ _ _ _ _ _ ha.1, Ex.all_mono h e ha.2.1, stmsAll_mono h g thn ha.2.2.1, stmsAll_mono h g els ha.2.2.2⟩
theorem stmsAll_mono {p q : PE} {r s : PS} (h : ∀ k nm n m f t, p k nm n m f t → q k nm n m f t) (g : ∀ k nm a l o f t, r k nm a l o f t → s k nm a l o f t) : ∀ (l : List Stm), stmsAll p r l → stmsAll q s l
  | [], _ => stmsAll_nil
  | e :: l, ha => by rw [stmsAll] at ha ⊢; exact ⟨Stm.all_mono h g e ha.1, stmsAll_mono h g l ha.2⟩
 end
/-- what is asked of expressions that are read. -/
structure AtE (T : Src) (p : PE) : Prop where
  zero : p 0 [] 0 0 0 0
  bad : ∀ i, p 5 [] 0 0 (T.tok i).pos (T.tok i).pos
  num : ∀ i n, n ≤ 1000000000 → (T.tok i).kind = 2 → p 1 [] n 0 (T.tok i).pos ((T.tok i).pos + (T.tok i).text.length)
  var : ∀ i, name (T.tok i).text = true → p 2 (T.tok i).text 0 0 (T.tok i).pos ((T.tok i).pos + (T.tok i).text.length)
  call : ∀ i j m, name (T.tok i).text = true → m ≤ 5 → p 4 (T.tok i).text 0 m (T.tok i).pos (T.endOf j)
  op : ∀ i k1 n1 v1 m1 f1 t1 k2 n2 v2 m2 f2 t2, tight (T.tok i).text ≠ 0 → p k1 n1 v1 m1 f1 t1 → p k2 n2 v2 m2 f2 t2 → p 3 (T.tok i).text 0 2 f1 (max t2 t1)
theorem all_expr {T : Src} {p : PE} (h : AtE T p) : ∀ f, (∀ d s, (atom T f d s).1.all p) ∧ (∀ d l s, l.length ≤ 5 → exsAll p l → (argL T f d l s).1.length ≤ 5 ∧ exsAll p (argL T f d l s).1) ∧
    (∀ d m s, (expr T f d m s).1.all p) ∧ (∀ d m e s, e.all p → (opL T f d m e s).1.all p)
  | 0 => ⟨fun _ _ => by rw [atom]; exact all_leaf h.zero, fun _ _ _ h1 h2 => by rw [argL]; exact ⟨h1, h2⟩, fun _ _ _ => by rw [expr]; exact all_leaf h.zero, fun _ _ _ _ h1 => by rw [opL]; exact h1⟩
  | f + 1 => by
    obtain ⟨hA, hL, hE, hO⟩ := all_expr h f
    refine ⟨fun d s => ?_, fun d l s h1 h2 => ?_, fun d m s => ?_, fun d m e s h1 => ?_⟩
    · rw [atom]
      dsimp only
      split
      · exact all_leaf (h.bad _)
      · split
        · exact all_leaf (h.bad _)
        · split
          · rename_i hk
            split
            · exact all_leaf (h.num _ 0 (by omega) hk)
            · exact all_leaf (h.num _ _ (by omega) hk)
          · split
            · exact hE _ _ _
            · split
              · exact all_leaf (h.bad _)
              · rename_i hn
                have hn' : name (T.tok s.i).text = true := by simpa using hn
                split
                · exact all_leaf (h.var _ hn')
                · obtain ⟨h1, h2⟩ := hL (d + 1) [] s.next.next (by simp) exsAll_nil
                  dsimp only
                  rw [Ex.all]
                  exact ⟨h.call _ _ _ hn' h1, h2⟩
    · rw [argL]
      split
      · exact ⟨h1, h2⟩
      · split
        · exact ⟨h1, h2⟩
        · have h3 := hE d 1 s
          have h4 : (l ++ [(expr T f d 1 s).1]).length ≤ 5 := by simp; omega
          have h5 := exsAll_app h2 (exsAll_one h3)
          dsimp only
          split
          · exact hL _ _ _ h4 h5
          · exact ⟨h4, h5⟩
    · rw [expr]
      try dsimp only
      exact hO _ _ _ _ (hA d s)
    · rw [opL]
      try dsimp only
      split
      · exact h1
      · rename_i ht
        refine hO _ _ _ _ ?_
        have h3 := hE d (tight (T.tok s.i).text + 1) s.next
        generalize (expr T f d (tight (T.tok s.i).text + 1) s.next).1 = r at h3 ⊢
        cases e with
        | mk k1 n1 v1 a1 f1 t1 =>
        cases r with
        | mk k2 n2 v2 a2 f2 t2 =>
        have g1 := h1
        have g3 := h3
        rw [Ex.all] at g1 g3
        rw [Ex.all]
        exact ⟨h.op _ _ _ _ _ _ _ _ _ _ _ _ _ (by omega) g1.1 g3.1, exsAll_app (exsAll_one h1) (exsAll_one h3)⟩
/-- what is asked of statements that are read. -/
structure AtS (T : Src) (q : PS) : Prop where
  zero : q 0 [] 0 0 false 0 0
  let_ : ∀ i (s : St) lb o j, lb ≤ 255 → q 1 (s.named T).1 (T.tok s.i).pos lb o (T.tok i).pos (max (T.endOf j) (T.tok i).pos)
  set : ∀ i j, name (T.tok i).text = true → q 2 (T.tok i).text (T.tok i).pos 0 false (T.tok i).pos (max (T.endOf j) (T.tok i).pos)
  plain : ∀ k i j, (k = 3 ∨ k = 4 ∨ k = 6 ∨ k = 7 ∨ k = 8) → q k [] 0 0 false (T.tok i).pos (max (T.endOf j) (T.tok i).pos)
  send : ∀ i (s : St) j, q 5 (s.named T).1 (T.tok s.i).pos 0 false (T.tok i).pos (max (T.endOf j) (T.tok i).pos)
theorem tag_lt (a : Nat) (ha : a < 256) (q : Nat) (hq : q < 8) (h : bit a q = false) : a + 2 ^ q < 256 := by
  have key : ∀ a < 256, ∀ q < 8, bit a q = false → a + 2 ^ q < 256 := by decide +kernel
  exact key a ha q hq h
theorem labL_lt (T : Src) : ∀ (f n : Nat) (s : St), n < 256 → (labL T f n s).1 < 256
  | 0, n, s, h => h
  | f + 1, n, s, h => by
    rw [labL]
    split
    · exact h
    · dsimp only
      split
      · exact h
      · rename_i h2
        generalize hqd : ((T.tok s.i).text.getD 0 0).toNat - 97 = q
        have hq : q < 8 := by
          simp only [tagB, Bool.not_eq_true, Bool.not_eq_false', Bool.and_eq_true, decide_eq_true_eq] at h2
          omega
        cases hb : bit n q with
        | true =>
          simp only [if_true]
          split
          · exact labL_lt T f _ _ h
          · split
            · exact labL_lt T f _ _ h
            · exact h
        | false =>
          have hn := tag_lt n h q hq hb
          simp only [Bool.false_eq_true, if_false]
          split
          · exact labL_lt T f _ _ hn
          · split
            · exact labL_lt T f _ _ hn
            · exact hn
theorem lab_lt (T : Src) (s : St) : (lab T s).1 < 256 := by
  rw [lab]
  split
  · exact labL_lt T _ _ _ (by decide)
  · dsimp only; omega
theorem all_block {T : Src} {p : PE} {q : PS} (h : AtE T p) (g : AtS T q) : ∀ f, (∀ d s, stmsAll p q (block T f d s).1) ∧ (∀ d l s, stmsAll p q l → stmsAll p q (stmL T f d l s).1) ∧ (∀ d s, (stm T f d s).1.all p q)
  | 0 => ⟨fun _ _ => by rw [block]; exact stmsAll_nil, fun _ _ _ h1 => by rw [stmL]; exact h1, fun _ s => by
      rw [stm]
      show (Stm.mk 0 [] 0 0 false (.mk 0 [] 0 [] 0 0) [] [] 0 0).all p q
      rw [Stm.all]; exact ⟨g.zero, all_leaf h.zero, stmsAll_nil, stmsAll_nil⟩⟩
  | f + 1 => by
    obtain ⟨hB, hL, hS⟩ := all_block h g f
    have hE := (all_expr h f).2.2.1
    refine ⟨fun d s => ?_, fun d l s h1 => ?_, fun d s => ?_⟩
    · rw [block]
      split
      · exact stmsAll_nil
      · split
        · exact stmsAll_nil
        · dsimp only
          exact hL _ _ _ stmsAll_nil
    · rw [stmL]
      split
      · exact h1
      · split
        · exact h1
        · dsimp only
          exact hL _ _ _ (stmsAll_app h1 (stmsAll_one (hS d s)))
    · rw [stm]
      dsimp only
      split
      · rw [Stm.all]
        refine ⟨g.let_ s.i s.next _ _ _ ?_, hE _ _ _, stmsAll_nil, stmsAll_nil⟩
        split
        · dsimp only; omega
        · exact Nat.le_of_lt_succ (lab_lt T _)
      · split
        · split
          · dsimp only; rw [Stm.all]; exact ⟨g.plain _ _ _ (.inl rfl), hE _ _ _, hB _ _, hB _ _⟩
          · dsimp only; rw [Stm.all]; exact ⟨g.plain _ _ _ (.inl rfl), hE _ _ _, hB _ _, stmsAll_nil⟩
        · split
          · rw [Stm.all]; exact ⟨g.plain _ _ _ (.inr (.inl rfl)), hE _ _ _, hB _ _, stmsAll_nil⟩
          · split
            · rw [Stm.all]; exact ⟨g.send s.i s.next _, hE _ _ _, stmsAll_nil, stmsAll_nil⟩
            · split
              · rw [Stm.all]; exact ⟨g.plain _ _ _ (.inr (.inr (.inl rfl))), hE _ _ _, stmsAll_nil, stmsAll_nil⟩
              · split
                · rename_i hn
                  split
                  · rw [Stm.all]; exact ⟨g.set _ _ hn, hE _ _ _, stmsAll_nil, stmsAll_nil⟩
                  · rw [Stm.all]; exact ⟨g.plain _ _ _ (.inr (.inr (.inr (.inl rfl)))), hE _ _ _, stmsAll_nil, stmsAll_nil⟩
                · rw [Stm.all]
                  refine ⟨g.plain _ _ _ (.inr (.inr (.inr (.inr rfl)))), ?_, stmsAll_nil, stmsAll_nil⟩
                  exact all_leaf h.zero
/-- parameters, and names, that are read. -/
theorem all_parL {T : Src} {r : Par → Prop} (h : ∀ (s : St) lb, lb ≤ 255 → r ⟨(s.named T).1, lb, (T.tok s.i).pos⟩) : ∀ (f : Nat) (l : List Par) (s : St), (∀ x ∈ l, r x) → ∀ x ∈ (parL T f l s).1, r x
  | 0, l, s, h1 => by rw [parL]; exact h1
  | f + 1, l, s, h1 => by
    rw [parL]
    split
    · exact h1
    · split
      · exact h1
      · dsimp only
        split
        · exact h1
        · have h2 : ∀ lb, lb ≤ 255 → ∀ x ∈ l ++ [⟨(s.named T).1, lb, (T.tok s.i).pos⟩], r x := fun lb hl x hx => by
            rcases List.mem_append.1 hx with hx | hx
            · exact h1 x hx
            · obtain rfl := List.mem_singleton.1 hx
              exact h s lb hl
          have h3 := fun s => Nat.le_of_lt_succ (lab_lt T s)
          split
          · exact all_parL h f _ _ (h2 _ (h3 _))
          · exact h2 _ (h3 _)
theorem all_sndL {T : Src} {r : Rf → Prop} (h : ∀ (s : St), r ⟨(s.named T).1, (T.tok s.i).pos⟩) : ∀ (f : Nat) (l : List Rf) (s : St), (∀ x ∈ l, r x) → ∀ x ∈ (sndL T f l s).1, r x
  | 0, l, s, h1 => by rw [sndL]; exact h1
  | f + 1, l, s, h1 => by
    rw [sndL]
    split
    · exact h1
    · dsimp only
      have h2 : ∀ x ∈ l ++ [⟨(s.named T).1, (T.tok s.i).pos⟩], r x := fun x hx => by
        rcases List.mem_append.1 hx with hx | hx
        · exact h1 x hx
        · obtain rfl := List.mem_singleton.1 hx
          exact h s
      split
      · exact all_sndL h f _ _ h2
      · exact h2
/-- what is asked of an item that is read. -/
structure ItAll (T : Src) (p : PE) (q : PS) (r : Par → Prop) (t : Rf → Prop) (it : Itm) : Prop where
  body : stmsAll p q it.body
  params : ∀ x ∈ it.params, r x
  sends : ∀ x ∈ it.sends, t x
  few : it.params.length ≤ 5 ∧ it.sends.length ≤ 5 ∧ it.body.length ≤ 40
  label : it.label ≤ 255
  kind : 1 ≤ it.kind ∧ it.kind ≤ 3
  mark : (it.name = [] ∧ ((∃ i, it.mark = (T.tok i).pos) ∨ it.mark = 0)) ∨ ∃ s : St, it.name = (s.named T).1 ∧ it.mark = (T.tok s.i).pos
  bad : it.kind = 3 → it.name = [] ∧ it.label = 0 ∧ it.params = [] ∧ it.sends = [] ∧ it.body = []
  chan : it.kind = 1 → it.params = [] ∧ it.sends = [] ∧ it.body = []
theorem item_all {src : List UInt8} {p : PE} {q : PS} {r : Par → Prop} {t : Rf → Prop} (at_ : Int) (h : AtE ⟨tokens src, src.length⟩ p) (g : AtS ⟨tokens src, src.length⟩ q)
    (hr : ∀ (s : St) lb, lb ≤ 255 → r ⟨(s.named ⟨tokens src, src.length⟩).1, lb, ((⟨tokens src, src.length⟩ : Src).tok s.i).pos⟩)
    (ht : ∀ (s : St), t ⟨(s.named ⟨tokens src, src.length⟩).1, ((⟨tokens src, src.length⟩ : Src).tok s.i).pos⟩) : ItAll ⟨tokens src, src.length⟩ p q r t (item src at_) := by
  rw [item]
  generalize (⟨tokens src, src.length⟩ : Src) = T at h g hr ht ⊢
  dsimp only
  split
  · dsimp only [fnItm]
    have h6 : ∀ (c : Bool) (y z : St), ∀ x ∈ (if c = true then sndL T 6 [] y else ([], z)).1, t x := fun c y z => by
      split
      · exact all_sndL ht _ _ _ (by simp)
      · simp
    have l6 : ∀ (c : Bool) (y z : St), (if c = true then sndL T 6 [] y else ([], z)).1.length ≤ 5 := fun c y z => by
      split
      · exact (sndL_few T 6 [] _ (by simp)).1
      · simp
    exact ⟨(all_block h g _).1 _ _, all_parL hr _ _ _ (by simp), h6 _ _ _, ⟨(parL_few T 6 [] _ (by simp)).1, l6 _ _ _, ((small_block T _).1 _ _).1⟩, Nat.le_of_lt_succ (lab_lt T _), ⟨by simp, by simp⟩, .inr ⟨⟨1, []⟩, rfl, rfl⟩, fun h => (by simp at h), fun h => (by simp at h)⟩
  · split
    · dsimp only [chItm]
      exact ⟨stmsAll_nil, by simp, by simp, ⟨by simp, by simp, by simp⟩, Nat.le_of_lt_succ (lab_lt T _), ⟨by simp, by simp⟩, .inr ⟨⟨1, []⟩, rfl, rfl⟩, fun h => (by simp at h), fun _ => ⟨rfl, rfl, rfl⟩⟩
    · dsimp only
      exact ⟨stmsAll_nil, by simp, by simp, ⟨by simp, by simp, by simp⟩, by simp, ⟨by simp, by simp⟩, .inl ⟨rfl, .inr rfl⟩, fun _ => ⟨rfl, rfl, rfl, rfl, rfl⟩, fun h => (by simp at h)⟩
end Go.Sp
end
section
namespace Go.Sp
inductive Runs (T : Src) : St → St → Prop where
  | refl (s : St) : Runs T s s
  | bad {s r : St} (e : Nat) : Runs T s r → Runs T s (r.bad T e)
  | next {s r : St} : Runs T s r → Runs T s r.next
theorem Runs.trans {T : Src} {s r q : St} (h : Runs T s r) (g : Runs T r q) : Runs T s q := by
  induction g with
  | refl => exact h
  | bad e _ ih => exact .bad e ih
  | next _ ih => exact .next ih
theorem Runs.on {T : Src} {s r : St} (h : Runs T s r) : s.i ≤ r.i := by
  induction h with
  | refl => exact Nat.le_refl _
  | bad e _ ih => exact ih
  | next _ ih => exact Nat.le_succ_of_le ih
end Go.Sp
end
section
namespace Go.Sp
theorem items_len (s : List UInt8) (cs : List Nat) : (items s cs).length = cs.length := by simp [items]
theorem file_few (s : List UInt8) : (fileItems s).length ≤ 30 := by
  rw [fileItems]
  split
  · rename_i h
    rw [items_len]
    rw [fileErr] at h
    split at h
    · omega
    · split at h <;> omega
  · simp
/-- what each item of a file is like. -/
structure ItIn (s : List UInt8) (k : Nat) (it : Itm) : Prop where
  at0 : 0 ≤ it.at_
  size : 1 ≤ it.size
  top : it.at_ + it.size ≤ s.length
  ends : it.at_ + it.size = (match (fileItems s)[k + 1]? with | some j => j.at_ | none => (s.length : Int))
  diags : ∀ d ∈ it.diags, d.fr ≤ d.to ∧ d.to ≤ it.size
  small : it.small
  len : s.length ≤ 4000
end Go.Sp
end
section
namespace Go.Sp
def itIs (k : Int) (n : List UInt8) (it : Itm) : Bool := decide ((it.kind : Int) = k) && (decide (it.name = n) && decide (n ≠ []))
/-- the first item of a kind and a name. -/
def findIt (its : List Itm) (k : Int) (n : List UInt8) : Option Nat := its.findIdx? (itIs k n)
/-- a local: its name, where it is made. -/
structure Lc where
  name : List UInt8
  at_ : Nat
/-- a use of a name. -/
structure Us where
  fr : Int
  to : Int
  df : Int
  deriving DecidableEq
structure NW where
  ds : List Dg
  us : List Us
def NW.tell (s : NW) (a e : Nat) (n : List UInt8) : NW := { s with ds := s.ds ++ [⟨a, a + n.length, e, n⟩] }
/-- the local that was made last. -/
def findLc : List Lc → List UInt8 → Option Lc
  | [], _ => none
  | l :: sc, n => match findLc sc n with
    | some x => some x
    | none => if l.name = n then some l else none
def zeroIt : Itm := ⟨0, [], 0, [], [], [], 0, 0, 0, []⟩
def itNo (its : List Itm) (j : Nat) : Itm := its.getD j zeroIt
theorem take_succ_get {α : Type} {l : List α} {k : Nat} {x : α} (h : l[k]? = some x) : l.take (k + 1) = l.take k ++ [x] := by rw [List.take_add_one, h]; rfl
theorem findLc_snoc (n : List UInt8) (x : Lc) : ∀ (l : List Lc), findLc (l ++ [x]) n = if x.name = n then some x else findLc l n
  | [] => by simp [findLc]
  | a :: l => by
    rw [List.cons_append, findLc, findLc_snoc n x l, findLc]
    split <;> rename_i h
    · split at h
      · rename_i h2; rw [if_pos h2]; exact h.symm
      · rename_i h2; rw [if_neg h2, h]
    · split at h
      · cases h
      · rename_i h2; rw [if_neg h2, h]
theorem findLc_mem {n : List UInt8} {x : Lc} : ∀ {l : List Lc}, findLc l n = some x → x ∈ l ∧ x.name = n
  | [], h => by cases h
  | a :: l, h => by
    rw [findLc] at h
    split at h
    · rename_i y hy
      obtain rfl := Option.some.inj h
      have := findLc_mem hy
      exact ⟨List.mem_cons_of_mem _ this.1, this.2⟩
    · split at h
      · rename_i hn
        obtain rfl := Option.some.inj h
        exact ⟨List.mem_cons_self, hn⟩
      · cases h
/-! how much is told -/
def NW.n (s : NW) : Nat := s.ds.length + s.us.length
end Go.Sp
end
section
namespace Go.Sp
def idxV (F : Itm → Bool) (its : List Itm) : Int := match its.findIdx? F with
  | some j => (j : Int)
  | none => -1
def findV (its : List Itm) (k : Int) (n : List UInt8) : Int := match findIt its k n with
  | some j => (j : Int)
  | none => -1
theorem idxV_at {F : Itm → Bool} {its : List Itm} {k : Nat} {it : Itm} (h : its[k]? = some it) (hF : F it = true) (hb : ∀ j it', j < k → its[j]? = some it' → F it' = false) : idxV F its = k := by
  have : its.findIdx? F = some k := by
    rw [List.findIdx?_eq_some_iff_getElem]
    obtain ⟨hk, e⟩ := List.getElem?_eq_some_iff.1 h
    refine ⟨hk, by rw [e]; exact hF, fun j hj => ?_⟩
    have := hb j its[j] hj (List.getElem?_eq_getElem (by omega))
    rw [this]; simp
  rw [idxV, this]
theorem idxV_none {F : Itm → Bool} {its : List Itm} (hb : ∀ j it', j < its.length → its[j]? = some it' → F it' = false) : idxV F its = -1 := by
  have : its.findIdx? F = none := by
    rw [List.findIdx?_eq_none_iff]
    intro x hx
    obtain ⟨j, hj, rfl⟩ := List.getElem_of_mem hx
    exact hb j _ hj (List.getElem?_eq_getElem hj)
  rw [idxV, this]
end Go.Sp
namespace Go.Fw
open Go
section
variable {P : Program} {N : Nat} {ds : List Deferred} {Q : Exit → Act → World → Prop} {l : Log} {w : World} {ops : Array Oper} {os : List Oper}
variable {d : Nat} {ty : TypeId} {pos : String} {af : Array Edge} {g : Option (Nat × Bool)} {t : TypeId} {x y : Operand} {E : Ent} {I : Imm} {H R G : List HItem}
/-- a call of what is a value. -/
theorem m_callv {c : Operand} {f : FuncId} [Own P f] {xs : List Operand} {tys : Array TypeId} {vs ca : List Value} {Post : Value → Imm → List HItem → Prop} (hm : Mem E I G w)
    (hw : want ops l ⟨some d, .call ⟨.value c, xs.toArray, tys⟩, ty, pos, af, g⟩ = some true := by rfl) (hN : Nat.blt d N = true := by rfl)
    (hf : ev l c = some (.func (.func f) #[] ca.toArray) := by rfl) (hx : evs l xs = some vs := by rfl) (hp : G.Perm (H ++ R)) (hc : CalM P f (vs ++ ca).toArray I H Post)
    (k : ∀ v I' H' w', Post v I' H' → Le I I' → Mem E I' (H' ++ R) w' → WL P N ds ops Q os ((d, v) :: l) w') :
    WL P N ds ops Q (⟨some d, .call ⟨.value c, xs.toArray, tys⟩, ty, pos, af, g⟩ :: os) l w :=
  op_callv hw hN hf hx (hc.run w (hm.perm hp).sub) (fun v w' ⟨I', H', h1, h2⟩ => k v I' H' w' h1 h2.le ((hm.perm hp).back h2))
/-- a part of what does not turn. -/
theorem PtrI.sub {b off ty : Nat} {cs cs' : List Value} (h : PtrI I b off ty cs) (k : Nat) (hs : ∀ j u, cs'[j]? = some u → cs[k + j]? = some u) : PtrI I b (off + k) ty cs' := by
  obtain ⟨c, fr, h1, h2⟩ := h
  exact ⟨c, fr, h1, fun j u hj => by rw [Nat.add_assoc]; exact h2 _ _ (hs j u hj)⟩
theorem CalM.read {f : FuncId} {args : Array Value} {v : Value} (h : CalM P f args I [] (fun u _ H' => u = v ∧ H' = [])) : CalR P f args I [] v :=
  ⟨fun w hI _ => (h.run w (Mem.start hI)).mono (fun u w' ⟨_, _, ⟨h1, _⟩, h2⟩ => ⟨h1, h2.kept⟩)⟩
end
end Go.Fw
namespace Go.Proofs.YtkbiakajlfmakaaGreatDoor
open Go.Fw
structure NI where
  k : Nat
  I : Imm
/-- a file's items. -/
structure FE (I : Imm) (its : List Sp.Itm) (a : Option Addr) (cp : Nat) (xs : List Value) : Prop where
  row : RowI I 59 10 (.slice a its.length cp) its.length xs
  ats : ItsAt I its xs
  few : its.length ≤ 64
theorem FE.le {I I' : Imm} {its : List Sp.Itm} {a : Option Addr} {cp : Nat} {xs : List Value} (h : FE I its a cp xs) (m : Le I I') : FE I' its a cp xs := ⟨h.row.le m, h.ats.le m, h.few⟩
theorem FE.get {I : Imm} {its : List Sp.Itm} {a : Option Addr} {cp : Nat} {xs : List Value} (h : FE I its a cp xs) {k : Nat} {it : Sp.Itm} (hg : its[k]? = some it) : ∃ cs, (xs.drop (k * 10)).take 10 = cs ∧ ItAt I it cs ∧ cs.length = 10 :=
  ⟨_, rfl, h.ats.get hg, (h.ats.get hg).len⟩
theorem n_findC (I : Imm) (k : Int) (n : List UInt8) (bk bn : Nat) (hk : PtrI I bk 0 3 [.int .i64 k]) (hn : PtrI I bn 0 9 [str n]) (it : Sp.Itm) (cs : List Value) (hi : ItAt I it cs) :
    CalM Tryz.prog 26 #[.agg cs.toArray, ptr bk, ptr bn] I [] (fun v _ H' => v = .bool (Sp.itIs k n it) ∧ H' = []) := by
  obtain ⟨ap, cp, as_, cs', ab, cb, ad, cd, xb, rfl, r1, r2, r3, r4, r5⟩ := hi
  refine CalM.of fun w E hm => enter (N := 19) Tryz.func26 rfl [(0, .agg (itCells it.kind it.name it.label (.slice ap it.params.length cp) (.slice as_ it.sends.length cs') (.slice ab it.body.length cb) it.at_ it.size it.mark (.slice ad it.diags.length cd)).toArray), (1, ptr bk), (2, ptr bn)] args3 rfl ?_
  repeat' (first
  | (refine m_box (d:=3) hm (k:=?_); clear hm; intro b3 _ hm)
  | refine m_load1 hm (k:=?_)
  | refine i_load1z hm (k:=?_)
  | refine op_move (k:=?_)
  | refine op_assign (k:=?_)
  | refine op_pick_true (k:=?_)
  | refine op_pick_false (k:=?_)
  | refine op_eql (k:=?_)
  | refine op_eql_str (k:=?_)
  | refine op_neq_str (k:=?_)
  | refine op_fieldAddr (k:=?_)
  | refine wl_skip (k:=?_)
  | (refine wl_split_dec (h1:=fun _ => ?_) (h0:=fun _ => ?_)<;> (try first | contradiction | (exfalso; omega)))
  | refine wl_nil ?_
  | refine at_then_normal ?_
  | refine wc_seq ?_
  | refine wc_region ?_
  | refine wc_ret ?_
  | refine at_ret1 (h:=?_))
  all_goals (refine ⟨I, [], ⟨congrArg Value.bool ?_, rfl⟩, hm.left (H := [])⟩; simp_all [Sp.itIs])
set_option maxHeartbeats 4000000 in
theorem n_index (fi : FuncId) [Own Tryz.prog fi] (ca : List Value) (F : Sp.Itm → Bool) (its : List Sp.Itm) (I : Imm) (a : Option Addr) (cp : Nat) (xs : List Value) (h : FE I its a cp xs)
    (hF : ∀ I', Le I I' → ∀ it cs, ItAt I' it cs → CalM Tryz.prog fi (.agg cs.toArray :: ca).toArray I' [] (fun v _ H' => v = .bool (F it) ∧ H' = [])) :
    CalM Tryz.prog 25 #[.slice a its.length cp, .func (.func fi) #[] ca.toArray] I [] (fun v _ H' => v = .int .i64 (Sp.idxV F its) ∧ H' = []) := by
  refine CalM.of fun w E hm => enter (N := 19) Tryz.func25 rfl [(0, .slice a its.length cp), (1, .func (.func fi) #[] ca.toArray)] args2 rfl ?_
  have hfew := h.few
  repeat' (first
  | refine op_move (k:=?_)
  | refine op_assign (k:=?_)
  | refine op_len_slice (k:=?_)
  | refine wl_nil ?_
  | refine at_then_normal ?_
  | refine wc_seq ?_
  | refine wc_region ?_
  | refine wc_block ?_)
  refine wc_loop (fun x : NI => [(0, .slice a its.length cp), (1, .func (.func fi) #[] ca.toArray), (7, nt its.length), (8, nt x.k)])
    (fun x w' => Mem E x.I [] w' ∧ Le I x.I ∧ x.k ≤ its.length ∧ ∀ j it', j < x.k → its[j]? = some it' → F it' = false) (fun x => its.length - x.k) ⟨0, I⟩ (by exact ⟨rfl, rfl, rfl, rfl, trivial⟩) ⟨hm, Le.refl _, Nat.zero_le _, fun j _ hj => absurd hj (Nat.not_lt_zero j)⟩ ?_
  clear hm
  rintro ⟨k, I1⟩ w1 ⟨hm, hle1, hk, hno⟩
  dsimp only at hm hle1 hk hno ⊢
  by_cases hlt : k < its.length
  · have hg : its[k]? = some its[k] := List.getElem?_eq_getElem hlt
    obtain ⟨cs, hcs, hat, hl10⟩ := (h.le hle1).get hg
    have hri := (h.le hle1).row
    have hc := hF I1 hle1 _ cs hat
    generalize its[k] = it at hg hat hc
    cases hb : F it with
    | true =>
      rw [hb] at hc
      repeat' (first
      | (refine i_indexAddr (d:=14) (hr:=hri) (k:=?_); intro bt ot hpt; rw [show ((k : Int).toNat * 10) = k * 10 from rfl, hcs] at hpt)
      | (refine i_loadN (d:=15) hm (hp:=hpt) (hc:=by exact hl10) (k:=?_))
      | (refine m_callv (d:=16) hm (hp:=pm0) (hc:=by exact hc) (k:=?_); clear hm; rintro _ I2 _ _ ⟨rfl, rfl⟩ hle hm)
      | refine op_move (k:=?_)
      | refine op_assign (k:=?_)
      | refine op_lss (k:=?_)
      | refine wl_nil ?_
      | refine at_then_normal ?_
      | refine at_then_ret ?_
      | refine at_block_ret ?_
      | refine wc_seq ?_
      | refine wc_region ?_
      | refine wc_block ?_
      | refine wc_skip ?_
      | refine wc_ret ?_
      | refine at_ret1 (h:=?_)
      | refine wc_cond_true (ht:=?_)
      | (refine wc_cond_dec (ht:=fun _ => ?_) (hf:=fun _ => ?_)<;> (try first | contradiction | (exfalso; omega))))
      all_goals try (exfalso; omega)
      exact ⟨I2, [], ⟨by rw [Sp.idxV_at hg hb hno], rfl⟩, hm.left (H := [])⟩
    | false =>
      rw [hb] at hc
      repeat' (first
      | (refine i_indexAddr (d:=14) (hr:=hri) (k:=?_); intro bt ot hpt; rw [show ((k : Int).toNat * 10) = k * 10 from rfl, hcs] at hpt)
      | (refine i_loadN (d:=15) hm (hp:=hpt) (hc:=by exact hl10) (k:=?_))
      | (refine m_callv (d:=16) hm (hp:=pm0) (hc:=by exact hc) (k:=?_); clear hm; rintro _ I2 _ _ ⟨rfl, rfl⟩ hle hm)
      | refine op_move (k:=?_)
      | refine op_assign (k:=?_)
      | refine op_lss (k:=?_)
      | refine op_add (k:=?_)
      | refine wl_nil ?_
      | refine at_then_normal ?_
      | refine at_block_normal ?_
      | refine wc_seq ?_
      | refine wc_region ?_
      | refine wc_block ?_
      | refine wc_skip ?_
      | refine wc_cond_false (hf:=?_)
      | (refine wc_cond_dec (ht:=fun _ => ?_) (hf:=fun _ => ?_)<;> (try first | contradiction | (exfalso; omega))))
      all_goals try (exfalso; omega)
      refine at_round (⟨k + 1, I2⟩ : NI) (by exact ⟨rfl, rfl, rfl, rfl, trivial⟩) ⟨hm.left (H := []), hle1.trans hle, by dsimp only; omega, fun j it' hj hg' => ?_⟩ (by dsimp only; omega)
      rcases Nat.lt_or_ge j k with hjk | hjk
      · exact hno j it' hjk hg'
      · obtain rfl : j = k := by dsimp only at hj; omega
        rw [hg] at hg'
        obtain rfl := Option.some.inj hg'
        exact hb
  · obtain rfl : k = its.length := by omega
    repeat' (first
    | refine op_assign (k:=?_)
    | refine op_lss (k:=?_)
    | refine wl_nil ?_
    | refine at_then_normal ?_
    | refine at_then_exit ?_
    | refine at_block_exit ?_
    | refine wc_seq ?_
    | refine wc_region ?_
    | refine wc_exit ?_
    | refine wc_ret ?_
    | refine at_ret1 (h:=?_)
    | (refine wc_cond_dec (ht:=fun _ => ?_) (hf:=fun _ => ?_)<;> (try first | contradiction | (exfalso; omega))))
    all_goals try (exfalso; omega)
    exact ⟨I1, [], ⟨by rw [Sp.idxV_none hno], rfl⟩, hm.left (H := [])⟩
theorem n_find (k : Int) (n : List UInt8) (its : List Sp.Itm) (I : Imm) (a : Option Addr) (cp : Nat) (xs : List Value) (h : FE I its a cp xs) :
    CalM Tryz.prog 7 #[.agg [.slice a its.length cp].toArray, .int .i64 k, str n] I [] (fun v _ H' => v = .int .i64 (Sp.findV its k n) ∧ H' = []) := by
  refine CalM.of fun w E hm => enter (N := 11) Tryz.func7 rfl [(0, .agg [.slice a its.length cp].toArray), (1, .int .i64 k), (2, str n)] args3 rfl ?_
  repeat' (first
  | (refine m_box (d:=3) hm (k:=?_); clear hm; intro b3 _ hm)
  | (refine m_box (d:=4) hm (k:=?_); clear hm; intro b4 _ hm)
  | (refine m_box (d:=5) hm (k:=?_); clear hm; intro b5 _ hm)
  | refine m_load1 hm (k:=?_)
  | refine op_assign (k:=?_)
  | refine op_makeFunc (k:=?_)
  | refine op_fieldAddr (k:=?_)
  | refine wl_nil ?_
  | refine at_then_normal ?_
  | refine wc_seq ?_
  | refine wc_region ?_)
  obtain ⟨I2, hle2, hm2, hpn⟩ := hm.freezeO
  obtain ⟨I3, hle3, hm3, hpk⟩ := hm2.freezeO
  clear hm hm2
  have hm := hm3
  clear hm3
  have hc := n_index 26 [ptr b4, ptr b5] (Sp.itIs k n) its I3 a cp xs ((h.le hle2).le hle3) (fun I' m it cs hi => n_findC I' k n b4 b5 (hpk.le m) ((hpn.le hle3).le m) it cs hi)
  repeat' (first
  | (refine m_call (d:=10) hm (hc:=hc) (k:=?_); clear hm; rintro _ I4 _ _ ⟨rfl, rfl⟩ hle hm; have hleI4 := hle; try simp only [setn] at hm)
  | refine op_assign (k:=?_)
  | refine wl_nil ?_
  | refine at_then_normal ?_
  | refine wc_ret ?_
  | refine at_ret1 (h:=?_))
  exact ⟨I4, [], ⟨rfl, rfl⟩, hm.left (H := [])⟩
end Go.Proofs.YtkbiakajlfmakaaGreatDoor
end
section
namespace Go.Sp
/-- a local's label; of none it is the least one. -/
def getF (sc : List Lc) (n : List UInt8) : Nat := match findLc sc n with
  | some l => l.at_
  | none => 0
def meetStep (its : List Itm) (n : Nat) (x : Rf) : Nat := match findIt its 1 x.name with
  | some j => n &&& (itNo its j).label
  | none => n
def meetF (its : List Itm) (l : List Rf) : Nat := l.foldl (meetStep its) 255
def floorsF (its : List Itm) : List Nat := its.map (fun it => meetF its it.sends)
structure FW where
  ds : List Dg
  hv : Option Nat
def FW.tell (s : FW) (f t : Nat) (n : List UInt8) : FW := { s with ds := s.ds ++ [⟨f, t, 9, n⟩] }
def FW.hit (s : FW) (at_ : Int) (f t n : Nat) : FW := if s.hv = none ∧ (f : Int) ≤ at_ ∧ at_ < t then { s with hv := some n } else s
/-- asks that what has a label may go where another one is. -/
def FW.ask (s : FW) (a b f t : Nat) (n : List UInt8) : FW := if flows a b = true then s else s.tell f t n
def callLab (its : List Itm) (n : List UInt8) : Nat := match findIt its 2 n with
  | some j => (itNo its j).label
  | none => 0
def askFloor (its : List Itm) (un : Nat) (n : List UInt8) (f t : Nat) (s : FW) : FW := match findIt its 2 n with
  | some j => s.ask un (meetF its (itNo its j).sends) f t n
  | none => s
/-- an argument is handed on. -/
def askArg (its : List Itm) (n : List UInt8) (i a f t : Nat) (s : FW) : FW := match findIt its 2 n with
  | some j => match (itNo its j).params[i]? with
    | some p => s.ask a p.label f t p.name
    | none => s
  | none => s
mutual
def exF (its : List Itm) (at_ : Int) (sc : List Lc) (un : Nat) : Ex → FW → Nat × FW
  | .mk k nm _ args f t, s =>
    if k = 2 then (getF sc nm, s.hit at_ f t (getF sc nm ||| un)) else
    if k = 3 then ((opsF its at_ sc un args 0 s).1, (opsF its at_ sc un args 0 s).2.hit at_ f t ((opsF its at_ sc un args 0 s).1 ||| un)) else
    if k = 4 then (callLab its nm, (askFloor its un nm f t (argsF its at_ sc un nm args 0 s)).hit at_ f t (callLab its nm ||| un)) else
    (0, s.hit at_ f t (0 ||| un))
def opsF (its : List Itm) (at_ : Int) (sc : List Lc) (un : Nat) : List Ex → Nat → FW → Nat × FW
  | [], n, s => (n, s)
  | e :: es, n, s => opsF its at_ sc un es (n ||| (exF its at_ sc un e s).1) (exF its at_ sc un e s).2
def argsF (its : List Itm) (at_ : Int) (sc : List Lc) (un : Nat) (nm : List UInt8) : List Ex → Nat → FW → FW
  | [], _, s => s
  | e :: es, i, s => argsF its at_ sc un nm es (i + 1) (askArg its nm i ((exF its at_ sc un e s).1 ||| un) e.fr e.to (exF its at_ sc un e s).2)
 end
mutual
/-- a label, of which nothing is asked. -/
def plainF (its : List Itm) (sc : List Lc) : Ex → Nat
  | .mk k nm _ args _ _ => if k = 2 then getF sc nm else if k = 3 then plainsF its sc args 0 else if k = 4 then callLab its nm else 0
def plainsF (its : List Itm) (sc : List Lc) : List Ex → Nat → Nat
  | [], n => n
  | e :: es, n => plainsF its sc es (n ||| plainF its sc e)
 end
/-- a statement's label, under what is known. -/
def unF (its : List Itm) (sc : List Lc) (k un : Nat) (e : Ex) : Nat := if k = 4 then plainF its sc e ||| un else un
def askCh (its : List Itm) (a : Nat) (n : List UInt8) (f t : Nat) (s : FW) : FW := match findIt its 1 n with
  | some j => s.ask a (itNo its j).label f t n
  | none => s
mutual
def stmF (its : List Itm) (own : Nat) (at_ : Int) : Stm → List Lc → Nat → FW → List Lc × FW
  | .mk k nm _ lb o e thn els f t, sc, un, s =>
    let un1 := unF its sc k un e
    let r := exF its at_ sc un1 e s
    let a := r.1 ||| un1
    if k = 1 then (sc ++ [⟨nm, if o = true then a else lb⟩], r.2.ask a (if o = true then a else lb) f t nm) else
    if k = 2 then (sc, r.2.ask a (getF sc nm) f t nm) else
    if k = 5 then (sc, askCh its a nm f t r.2) else
    if k = 6 then (sc, r.2.ask a own f t nm) else
    if k = 3 ∨ k = 4 then (sc, (stmsF its own at_ els sc a (stmsF its own at_ thn sc a r.2).2).2) else (sc, r.2)
def stmsF (its : List Itm) (own : Nat) (at_ : Int) : List Stm → List Lc → Nat → FW → List Lc × FW
  | [], sc, _, s => (sc, s)
  | x :: xs, sc, un, s => stmsF its own at_ xs (stmF its own at_ x sc un s).1 un (stmF its own at_ x sc un s).2
 end
def FW0 : FW := ⟨[], none⟩
def parsF (l : List Par) : List Lc := l.map (fun p => ⟨p.name, p.label⟩)
def checkF (its : List Itm) (i : Nat) (at_ : Int) : FW :=
  if (itNo its i).kind = 2 then (stmsF its (itNo its i).label at_ (itNo its i).body (parsF (itNo its i).params) 0 FW0).2 else FW0
def soundF (its : List Itm) : Prop := ∀ i, i < its.length → (checkF its i (-1)).ds = []
theorem opsF_app (its : List Itm) (at_ : Int) (sc : List Lc) (un : Nat) : ∀ (l r : List Ex) (n : Nat) (s : FW), opsF its at_ sc un (l ++ r) n s = opsF its at_ sc un r (opsF its at_ sc un l n s).1 (opsF its at_ sc un l n s).2
  | [], r, n, s => by rw [List.nil_append, opsF]
  | e :: l, r, n, s => by rw [List.cons_append, opsF, opsF, opsF_app its at_ sc un l r]
theorem opsF_step (its : List Itm) (at_ : Int) (sc : List Lc) (un : Nat) {l : List Ex} {k : Nat} {e : Ex} (h : l[k]? = some e) (n : Nat) (s : FW) :
    opsF its at_ sc un (l.take (k + 1)) n s = ((opsF its at_ sc un (l.take k) n s).1 ||| (exF its at_ sc un e (opsF its at_ sc un (l.take k) n s).2).1, (exF its at_ sc un e (opsF its at_ sc un (l.take k) n s).2).2) := by
  rw [take_succ_get h, opsF_app, opsF, opsF]
theorem argsF_app (its : List Itm) (at_ : Int) (sc : List Lc) (un : Nat) (nm : List UInt8) : ∀ (l r : List Ex) (i : Nat) (s : FW), argsF its at_ sc un nm (l ++ r) i s = argsF its at_ sc un nm r (i + l.length) (argsF its at_ sc un nm l i s)
  | [], r, i, s => by rw [List.nil_append, argsF]; rfl
  | e :: l, r, i, s => by rw [List.cons_append, argsF, argsF, argsF_app its at_ sc un nm l r, List.length_cons, show i + 1 + l.length = i + (l.length + 1) by omega]
theorem argsF_step (its : List Itm) (at_ : Int) (sc : List Lc) (un : Nat) (nm : List UInt8) {l : List Ex} {k : Nat} {e : Ex} (h : l[k]? = some e) (s : FW) :
    argsF its at_ sc un nm (l.take (k + 1)) 0 s = askArg its nm k ((exF its at_ sc un e (argsF its at_ sc un nm (l.take k) 0 s)).1 ||| un) e.fr e.to (exF its at_ sc un e (argsF its at_ sc un nm (l.take k) 0 s)).2 := by
  have hk := (List.getElem?_eq_some_iff.1 h).1
  rw [take_succ_get h, argsF_app, argsF, argsF, List.length_take, Nat.min_eq_left (by omega), Nat.zero_add]
theorem plainsF_app (its : List Itm) (sc : List Lc) : ∀ (l r : List Ex) (n : Nat), plainsF its sc (l ++ r) n = plainsF its sc r (plainsF its sc l n)
  | [], r, n => by rw [List.nil_append, plainsF]
  | e :: l, r, n => by rw [List.cons_append, plainsF, plainsF, plainsF_app its sc l r]
theorem plainsF_step (its : List Itm) (sc : List Lc) {l : List Ex} {k : Nat} {e : Ex} (h : l[k]? = some e) (n : Nat) : plainsF its sc (l.take (k + 1)) n = plainsF its sc (l.take k) n ||| plainF its sc e := by
  rw [take_succ_get h, plainsF_app, plainsF, plainsF]
theorem stmsF_app (its : List Itm) (own : Nat) (at_ : Int) : ∀ (l r : List Stm) (sc : List Lc) (un : Nat) (s : FW), stmsF its own at_ (l ++ r) sc un s = stmsF its own at_ r (stmsF its own at_ l sc un s).1 un (stmsF its own at_ l sc un s).2
  | [], r, sc, un, s => by rw [List.nil_append, stmsF]
  | e :: l, r, sc, un, s => by rw [List.cons_append, stmsF, stmsF, stmsF_app its own at_ l r]
theorem stmsF_step (its : List Itm) (own : Nat) (at_ : Int) {l : List Stm} {k : Nat} {x : Stm} (h : l[k]? = some x) (sc : List Lc) (un : Nat) (s : FW) :
    stmsF its own at_ (l.take (k + 1)) sc un s = stmF its own at_ x (stmsF its own at_ (l.take k) sc un s).1 un (stmsF its own at_ (l.take k) sc un s).2 := by
  rw [take_succ_get h, stmsF_app, stmsF, stmsF]
/-! how much is told -/
theorem hit_ds (s : FW) (at_ : Int) (f t n : Nat) : (s.hit at_ f t n).ds = s.ds := by rw [FW.hit]; split <;> rfl
theorem ask_n (s : FW) (a b f t : Nat) (n : List UInt8) : s.ds.length ≤ (s.ask a b f t n).ds.length ∧ (s.ask a b f t n).ds.length ≤ s.ds.length + 1 := by
  rw [FW.ask]
  split
  · omega
  · simp [FW.tell]
theorem askFloor_n (its : List Itm) (un : Nat) (n : List UInt8) (f t : Nat) (s : FW) : s.ds.length ≤ (askFloor its un n f t s).ds.length ∧ (askFloor its un n f t s).ds.length ≤ s.ds.length + 1 := by
  rw [askFloor]
  split
  · exact ask_n _ _ _ _ _ _
  · omega
theorem askCh_n (its : List Itm) (a : Nat) (n : List UInt8) (f t : Nat) (s : FW) : s.ds.length ≤ (askCh its a n f t s).ds.length ∧ (askCh its a n f t s).ds.length ≤ s.ds.length + 1 := by
  rw [askCh]
  split
  · exact ask_n _ _ _ _ _ _
  · omega
theorem askArg_n (its : List Itm) (n : List UInt8) (i a f t : Nat) (s : FW) : s.ds.length ≤ (askArg its n i a f t s).ds.length ∧ (askArg its n i a f t s).ds.length ≤ s.ds.length + 1 := by
  rw [askArg]
  split
  · split
    · exact ask_n _ _ _ _ _ _
    · omega
  · omega
mutual
theorem exF_n (its : List Itm) (at_ : Int) (sc : List Lc) (un : Nat) : ∀ (e : Ex) (s : FW), s.ds.length ≤ (exF its at_ sc un e s).2.ds.length ∧ (exF its at_ sc un e s).2.ds.length + 1 ≤ s.ds.length + 2 * e.cnt
  | .mk k nm n args f t, s => by
    rw [exF, Ex.cnt]
    have h1 := opsF_n its at_ sc un args 0 s
    have h2 := argsF_n its at_ sc un nm args 0 s
    have h3 := askFloor_n its un nm f t (argsF its at_ sc un nm args 0 s)
    split
    · dsimp only; rw [hit_ds]; omega
    · split
      · dsimp only; rw [hit_ds]; omega
      · split
        · dsimp only; rw [hit_ds]; omega
        · dsimp only; rw [hit_ds]; omega
theorem opsF_n (its : List Itm) (at_ : Int) (sc : List Lc) (un : Nat) : ∀ (l : List Ex) (n : Nat) (s : FW), s.ds.length ≤ (opsF its at_ sc un l n s).2.ds.length ∧ (opsF its at_ sc un l n s).2.ds.length ≤ s.ds.length + 2 * exsCnt l
  | [], n, s => by rw [opsF, exsCnt]; exact ⟨by dsimp only; omega, by dsimp only; omega⟩
  | e :: l, n, s => by
    rw [opsF, exsCnt]
    have h1 := exF_n its at_ sc un e s
    have h2 := opsF_n its at_ sc un l (n ||| (exF its at_ sc un e s).1) (exF its at_ sc un e s).2
    omega
theorem argsF_n (its : List Itm) (at_ : Int) (sc : List Lc) (un : Nat) (nm : List UInt8) : ∀ (l : List Ex) (i : Nat) (s : FW), s.ds.length ≤ (argsF its at_ sc un nm l i s).ds.length ∧ (argsF its at_ sc un nm l i s).ds.length ≤ s.ds.length + 2 * exsCnt l
  | [], i, s => by rw [argsF, exsCnt]; omega
  | e :: l, i, s => by
    rw [argsF, exsCnt]
    have h1 := exF_n its at_ sc un e s
    have h3 := askArg_n its nm i ((exF its at_ sc un e s).1 ||| un) e.fr e.to (exF its at_ sc un e s).2
    have h2 := argsF_n its at_ sc un nm l (i + 1) (askArg its nm i ((exF its at_ sc un e s).1 ||| un) e.fr e.to (exF its at_ sc un e s).2)
    omega
 end
mutual
theorem stmF_n (its : List Itm) (own : Nat) (at_ : Int) : ∀ (x : Stm) (sc : List Lc) (un : Nat) (s : FW), s.ds.length ≤ (stmF its own at_ x sc un s).2.ds.length ∧ (stmF its own at_ x sc un s).2.ds.length ≤ s.ds.length + 2 * x.cnt ∧
      sc.length ≤ (stmF its own at_ x sc un s).1.length ∧ (stmF its own at_ x sc un s).1.length ≤ sc.length + 1
  | .mk k nm a lb o e thn els f t, sc, un, s => by
    rw [stmF, Stm.cnt]
    try dsimp only
    generalize unF its sc k un e = un1
    have h1 := exF_n its at_ sc un1 e s
    generalize exF its at_ sc un1 e s = r at h1 ⊢
    have h2 := ask_n r.2 (r.1 ||| un1) (if o = true then r.1 ||| un1 else lb) f t nm
    have h3 := ask_n r.2 (r.1 ||| un1) (getF sc nm) f t nm
    have h4 := ask_n r.2 (r.1 ||| un1) own f t nm
    have h5 := askCh_n its (r.1 ||| un1) nm f t r.2
    have h6 := stmsF_n its own at_ thn sc (r.1 ||| un1) r.2
    have h7 := stmsF_n its own at_ els sc (r.1 ||| un1) (stmsF its own at_ thn sc (r.1 ||| un1) r.2).2
    split
    · dsimp only; rw [List.length_append, List.length_singleton]; omega
    · split
      · dsimp only; omega
      · split
        · dsimp only; omega
        · split
          · dsimp only; omega
          · split
            · dsimp only; omega
            · dsimp only; omega
theorem stmsF_n (its : List Itm) (own : Nat) (at_ : Int) : ∀ (l : List Stm) (sc : List Lc) (un : Nat) (s : FW), s.ds.length ≤ (stmsF its own at_ l sc un s).2.ds.length ∧ (stmsF its own at_ l sc un s).2.ds.length ≤ s.ds.length + 2 * stmsCnt l ∧
      sc.length ≤ (stmsF its own at_ l sc un s).1.length ∧ (stmsF its own at_ l sc un s).1.length ≤ sc.length + l.length
  | [], sc, un, s => by rw [stmsF, stmsCnt]; exact ⟨by dsimp only; omega, by dsimp only; omega, by dsimp only; omega, by dsimp only; simp⟩
  | x :: l, sc, un, s => by
    rw [stmsF, stmsCnt, List.length_cons]
    have h1 := stmF_n its own at_ x sc un s
    have h2 := stmsF_n its own at_ l (stmF its own at_ x sc un s).1 un (stmF its own at_ x sc un s).2
    omega
 end
theorem stmF_pre (its : List Itm) (own : Nat) (at_ : Int) (x : Stm) (sc : List Lc) (un : Nat) (s : FW) : sc <+: (stmF its own at_ x sc un s).1 := by
  cases x with
  | mk k nm a lb o e thn els f t =>
  rw [stmF]
  try dsimp only
  split
  · exact List.prefix_append _ _
  · split
    · exact List.prefix_refl _
    · split
      · exact List.prefix_refl _
      · split
        · exact List.prefix_refl _
        · split <;> exact List.prefix_refl _
theorem stmsF_pre (its : List Itm) (own : Nat) (at_ : Int) : ∀ (l : List Stm) (sc : List Lc) (un : Nat) (s : FW), sc <+: (stmsF its own at_ l sc un s).1
  | [], sc, un, s => by rw [stmsF]; exact List.prefix_refl _
  | x :: l, sc, un, s => by rw [stmsF]; exact (stmF_pre its own at_ x sc un s).trans (stmsF_pre its own at_ l _ _ _)
theorem stmsF_back (its : List Itm) (own : Nat) (at_ : Int) (l : List Stm) (sc : List Lc) (un : Nat) (s : FW) : (stmsF its own at_ l sc un s).1.take sc.length = sc :=
  (List.prefix_iff_eq_take.1 (stmsF_pre its own at_ l sc un s)).symm
/-! labels are labels -/
def scLab (sc : List Lc) : Prop := ∀ l ∈ sc, l.at_ < 256
def itLab (its : List Itm) : Prop := ∀ it ∈ its, it.label < 256 ∧ ∀ p ∈ it.params, p.label < 256
theorem getF_lt {sc : List Lc} (h : scLab sc) (n : List UInt8) : getF sc n < 256 := by
  rw [getF]
  split
  · rename_i l hl
    exact h l (findLc_mem hl).1
  · omega
theorem findIt_lt {its : List Itm} {k : Int} {n : List UInt8} {j : Nat} (h : findIt its k n = some j) : j < its.length ∧ ((itNo its j).kind : Int) = k ∧ (itNo its j).name = n ∧ n ≠ [] ∧ itNo its j ∈ its := by
  obtain ⟨h1, h2, _⟩ := List.findIdx?_eq_some_iff_getElem.1 h
  have e : itNo its j = its[j] := by rw [itNo, List.getD_eq_getElem?_getD, List.getElem?_eq_getElem h1]; rfl
  rw [e]
  simp only [itIs, Bool.and_eq_true, decide_eq_true_eq] at h2
  exact ⟨h1, h2.1, h2.2.1, h2.2.2, List.getElem_mem h1⟩
theorem callLab_lt {its : List Itm} (h : itLab its) (n : List UInt8) : callLab its n < 256 := by
  rw [callLab]
  split
  · rename_i j hj
    exact (h _ (findIt_lt hj).2.2.2.2).1
  · omega
mutual
theorem exF_lt {its : List Itm} (h : itLab its) (at_ : Int) {sc : List Lc} (hs : scLab sc) (un : Nat) : ∀ (e : Ex) (s : FW), (exF its at_ sc un e s).1 < 256
  | .mk k nm n args f t, s => by
    rw [exF]
    split
    · exact getF_lt hs _
    · split
      · exact opsF_lt h at_ hs un args 0 s (by omega)
      · split
        · exact callLab_lt h _
        · dsimp only; omega
theorem opsF_lt {its : List Itm} (h : itLab its) (at_ : Int) {sc : List Lc} (hs : scLab sc) (un : Nat) : ∀ (l : List Ex) (n : Nat) (s : FW), n < 256 → (opsF its at_ sc un l n s).1 < 256
  | [], n, s, hn => by rw [opsF]; exact hn
  | e :: l, n, s, hn => by rw [opsF]; exact opsF_lt h at_ hs un l _ _ (or_lt hn (exF_lt h at_ hs un e s))
 end
mutual
theorem plainF_lt {its : List Itm} (h : itLab its) {sc : List Lc} (hs : scLab sc) : ∀ (e : Ex), plainF its sc e < 256
  | .mk k nm n args f t => by
    rw [plainF]
    split
    · exact getF_lt hs _
    · split
      · exact plainsF_lt h hs args 0 (by omega)
      · split
        · exact callLab_lt h _
        · omega
theorem plainsF_lt {its : List Itm} (h : itLab its) {sc : List Lc} (hs : scLab sc) : ∀ (l : List Ex) (n : Nat), n < 256 → plainsF its sc l n < 256
  | [], n, hn => by rw [plainsF]; exact hn
  | e :: l, n, hn => by rw [plainsF]; exact plainsF_lt h hs l _ (or_lt hn (plainF_lt h hs e))
 end
theorem meetF_lt (its : List Itm) (l : List Rf) : meetF its l < 256 := by
  have key : ∀ (l : List Rf) (n : Nat), n < 256 → l.foldl (meetStep its) n < 256 := by
    intro l
    induction l with
    | nil => intro n h; exact h
    | cons x l ih =>
      intro n h
      rw [List.foldl_cons]
      refine ih _ ?_
      rw [meetStep]
      split
      · exact and_lt h
      · exact h
  exact key l 255 (by omega)
theorem unF_lt {its : List Itm} (h : itLab its) {sc : List Lc} (hs : scLab sc) (k : Nat) {un : Nat} (hu : un < 256) (e : Ex) : unF its sc k un e < 256 := by
  rw [unF]
  split
  · exact or_lt (plainF_lt h hs e) hu
  · exact hu
theorem scLab_snoc {sc : List Lc} (h : scLab sc) {n : List UInt8} {a : Nat} (ha : a < 256) : scLab (sc ++ [⟨n, a⟩]) := fun l hl => by
  rcases List.mem_append.1 hl with hl | hl
  · exact h l hl
  · obtain rfl := List.mem_singleton.1 hl
    exact ha
theorem stmF_lab {its : List Itm} (h : itLab its) (own : Nat) (at_ : Int) (x : Stm) {sc : List Lc} (hs : scLab sc) {un : Nat} (hu : un < 256) (hx : x.label < 256) (s : FW) : scLab (stmF its own at_ x sc un s).1 := by
  cases x with
  | mk k nm a lb o e thn els f t =>
  rw [stmF]
  try dsimp only
  have h1 := unF_lt h hs k hu e
  generalize unF its sc k un e = un1 at h1 ⊢
  have h2 := exF_lt h at_ hs un1 e s
  split
  · refine scLab_snoc hs ?_
    split
    · exact or_lt h2 h1
    · exact hx
  · split
    · exact hs
    · split
      · exact hs
      · split
        · exact hs
        · split <;> exact hs
theorem parsF_lab {its : List Itm} (h : itLab its) {it : Itm} (hi : it ∈ its) : scLab (parsF it.params) := fun l hl => by
  obtain ⟨p, hp, rfl⟩ := List.mem_map.1 hl
  exact (h it hi).2 p hp
end Go.Sp
end
