/- Own work: texts SpecCnt, SpecAll, SpecRuns, SpecChange, SpecNames, one behind the other. -/
import Derived.Test.YtkbiakajlfmakaaGreatDoorFp18
section
namespace Go.Sp
mutual
def Ex.cnt : Ex → Nat
  | .mk _ _ _ args _ _ => exsCnt args + 1
def exsCnt : List Ex → Nat
  | [] => 0
  | e :: es => e.cnt + exsCnt es
 end
mutual
def Stm.cnt : Stm → Nat
  | .mk _ _ _ _ _ e thn els _ _ => e.cnt + stmsCnt thn + stmsCnt els + 1
def stmsCnt : List Stm → Nat
  | [] => 0
  | x :: xs => x.cnt + stmsCnt xs
 end
theorem exsCnt_app : ∀ (l r : List Ex), exsCnt (l ++ r) = exsCnt l + exsCnt r
  | [], r => by rw [exsCnt]; simp
  | e :: l, r => by rw [List.cons_append, exsCnt, exsCnt, exsCnt_app l r]; omega
theorem stmsCnt_app : ∀ (l r : List Stm), stmsCnt (l ++ r) = stmsCnt l + stmsCnt r
  | [], r => by rw [stmsCnt]; simp
  | e :: l, r => by rw [List.cons_append, stmsCnt, stmsCnt, stmsCnt_app l r]; omega
theorem exsCnt_one (e : Ex) : exsCnt [e] = e.cnt := by rw [exsCnt, exsCnt]; omega
theorem stmsCnt_one (e : Stm) : stmsCnt [e] = e.cnt := by rw [stmsCnt, stmsCnt]; omega
theorem leaf_cnt (k n f t : Nat) (nm : List UInt8) : (Ex.mk k nm n [] f t).cnt = 1 := by rw [Ex.cnt, exsCnt]
theorem need_le (T : Src) (s : St) (w : List UInt8) : s.i ≤ (s.need T w).2.i := (goes_need T s w).le
theorem cnt_expr (T : Src) : ∀ f, (∀ d s, (atom T f d s).1.cnt ≤ 2 * ((atom T f d s).2.i - s.i) + 1) ∧ (∀ d l s, exsCnt (argL T f d l s).1 ≤ exsCnt l + 2 * ((argL T f d l s).2.i - s.i) + 1) ∧
    (∀ d m s, (expr T f d m s).1.cnt ≤ 2 * ((expr T f d m s).2.i - s.i) + 1) ∧ (∀ d m e s, (opL T f d m e s).1.cnt ≤ e.cnt + 2 * ((opL T f d m e s).2.i - s.i))
  | 0 => ⟨fun _ _ => by rw [atom]; show (Ex.mk 0 [] 0 [] 0 0).cnt ≤ _; rw [leaf_cnt]; omega, fun _ _ _ => by rw [argL]; dsimp only; omega,
      fun _ _ _ => by rw [expr]; show (Ex.mk 0 [] 0 [] 0 0).cnt ≤ _; rw [leaf_cnt]; omega, fun _ _ _ _ => by rw [opL]; dsimp only; omega⟩
  | f + 1 => by
    obtain ⟨hA, hL, hE, hO⟩ := cnt_expr T f
    obtain ⟨gA, gL, gE, gO⟩ := goes_expr T f
    refine ⟨fun d s => ?_, fun d l s => ?_, fun d m s => ?_, fun d m e s => ?_⟩
    · rw [atom]
      dsimp only
      split
      · rw [none_]; dsimp only; rw [leaf_cnt]; omega
      · split
        · rw [none_]; dsimp only; rw [leaf_cnt]; omega
        · split
          · split
            · dsimp only; rw [leaf_cnt]; omega
            · dsimp only; rw [leaf_cnt]; omega
          · split
            · have h1 := hE (d + 1) 1 s.next
              have h2 := (gE (d + 1) 1 s.next).le
              have h3 := need_le T (expr T f (d + 1) 1 s.next).2 [41]
              rw [next_i] at h1 h2
              dsimp only
              omega
            · split
              · rw [none_]; dsimp only; rw [leaf_cnt]; omega
              · split
                · dsimp only; rw [leaf_cnt]; omega
                · have h1 := hL (d + 1) [] s.next.next
                  have h2 := (gL (d + 1) [] s.next.next).le
                  have h3 := need_le T (argL T f (d + 1) [] s.next.next).2 [41]
                  rw [next_i, next_i] at h1 h2
                  rw [exsCnt] at h1
                  dsimp only
                  rw [Ex.cnt]
                  omega
    · rw [argL]
      split
      · dsimp only; omega
      · split
        · dsimp only; omega
        · have h1 := hE d 1 s
          have h2 := (gE d 1 s).le
          try dsimp only
          split
          · have h3 := hL d (l ++ [(expr T f d 1 s).1]) (expr T f d 1 s).2.next
            have h4 := (gL d (l ++ [(expr T f d 1 s).1]) (expr T f d 1 s).2.next).le
            rw [next_i] at h3 h4
            rw [exsCnt_app, exsCnt_one] at h3
            omega
          · dsimp only
            rw [exsCnt_app, exsCnt_one]
            omega
    · rw [expr]
      try dsimp only
      have h1 := hA d s
      have h2 := (gA d s).le
      have h3 := hO d m (atom T f d s).1 (atom T f d s).2
      have h4 := (gO d m (atom T f d s).1 (atom T f d s).2).le
      omega
    · rw [opL]
      try dsimp only
      split
      · dsimp only; omega
      · have h1 := hE d (tight (T.tok s.i).text + 1) s.next
        have h2 := (gE d (tight (T.tok s.i).text + 1) s.next).le
        rw [next_i] at h1 h2
        generalize expr T f d (tight (T.tok s.i).text + 1) s.next = r at h1 h2 ⊢
        have h3 := hO d m (.mk 3 (T.tok s.i).text 0 [e, r.1] e.fr (max r.1.to e.to)) r.2
        have h4 := (gO d m (.mk 3 (T.tok s.i).text 0 [e, r.1] e.fr (max r.1.to e.to)) r.2).le
        rw [Ex.cnt, exsCnt, exsCnt_one] at h3
        omega
theorem cnt_block (T : Src) : ∀ f, (∀ d s, stmsCnt (block T f d s).1 ≤ 8 * ((block T f d s).2.i - s.i)) ∧ (∀ d l s, stmsCnt (stmL T f d l s).1 ≤ stmsCnt l + 8 * ((stmL T f d l s).2.i - s.i)) ∧
    (∀ d s, (stm T f d s).1.cnt ≤ 8 * max ((stm T f d s).2.i - s.i) 1)
  | 0 => ⟨fun _ _ => by rw [block]; dsimp only; rw [stmsCnt]; omega, fun _ _ _ => by rw [stmL]; dsimp only; omega,
      fun _ s => by rw [stm]; show (Stm.mk 0 [] 0 0 false (.mk 0 [] 0 [] 0 0) [] [] 0 0).cnt ≤ _; rw [Stm.cnt, leaf_cnt, stmsCnt]; omega⟩
  | f + 1 => by
    obtain ⟨hB, hL, hS⟩ := cnt_block T f
    obtain ⟨gB, gL, gS⟩ := goes_block T f
    have hE := (cnt_expr T f).2.2.1
    have gE := (goes_expr T f).2.2.1
    refine ⟨fun d s => ?_, fun d l s => ?_, fun d s => ?_⟩
    · rw [block]
      split
      · dsimp only; rw [stmsCnt]; omega
      · split
        · dsimp only; rw [stmsCnt]; omega
        · have h1 := hL (d + 1) [] s.next
          have h2 := (gL (d + 1) [] s.next).le
          have h3 := need_le T (stmL T f (d + 1) [] s.next).2 [125]
          rw [next_i] at h1 h2
          rw [stmsCnt] at h1
          try dsimp only
          omega
    · rw [stmL]
      split
      · dsimp only; omega
      · split
        · dsimp only; omega
        · have h1 := hS d s
          have h2 := (gS d s).le
          try dsimp only
          split
          · rename_i he
            have h3 := hL d (l ++ [(stm T f d s).1]) (stm T f d s).2.next
            have h4 := (gL d (l ++ [(stm T f d s).1]) (stm T f d s).2.next).le
            rw [next_i] at h3 h4
            rw [stmsCnt_app, stmsCnt_one] at h3
            omega
          · rename_i he
            have h3 := hL d (l ++ [(stm T f d s).1]) (stm T f d s).2
            have h4 := (gL d (l ++ [(stm T f d s).1]) (stm T f d s).2).le
            rw [stmsCnt_app, stmsCnt_one] at h3
            omega
    · rw [stm]
      dsimp only
      split
      · have h1 := (goes_named T s.next).le
        rw [next_i] at h1
        generalize s.next.named T = r at h1 ⊢
        generalize hr1 : (if (!T.is r.2.i [58]) = true then (0, r.2) else lab T r.2.next) = r1
        have h2 : r.2.i ≤ r1.2.i := by
          rw [← hr1]
          split
          · exact Nat.le_refl _
          · have := (goes_lab T r.2.next).le
            rw [next_i] at this
            omega
        have h3 := need_le T r1.2 [61]
        have h4 := hE d 1 (r1.2.need T [61]).2
        have h5 := (gE d 1 (r1.2.need T [61]).2).le
        have h6 := need_le T (expr T f d 1 (r1.2.need T [61]).2).2 [59]
        try dsimp only
        rw [Stm.cnt, stmsCnt]
        omega
      · split
        · have h1 := hE d 1 s.next
          have h2 := (gE d 1 s.next).le
          rw [next_i] at h1 h2
          generalize expr T f d 1 s.next = r at h1 h2 ⊢
          have h3 := hB d r.2
          have h4 := (gB d r.2).le
          generalize block T f d r.2 = r1 at h3 h4 ⊢
          split
          · have h5 := hB d r1.2.next
            have h6 := (gB d r1.2.next).le
            rw [next_i] at h5 h6
            dsimp only
            try dsimp only
            rw [Stm.cnt]
            omega
          · dsimp only
            try dsimp only
            rw [Stm.cnt, stmsCnt]
            omega
        · split
          · have h1 := hE d 1 s.next
            have h2 := (gE d 1 s.next).le
            rw [next_i] at h1 h2
            generalize expr T f d 1 s.next = r at h1 h2 ⊢
            have h3 := hB d r.2
            have h4 := (gB d r.2).le
            try dsimp only
            rw [Stm.cnt, stmsCnt]
            omega
          · split
            · have h1 := (goes_named T s.next).le
              rw [next_i] at h1
              generalize s.next.named T = r at h1 ⊢
              have h4 := hE d 1 r.2
              have h5 := (gE d 1 r.2).le
              have h6 := need_le T (expr T f d 1 r.2).2 [59]
              try dsimp only
              rw [Stm.cnt, stmsCnt]
              omega
            · split
              · have h4 := hE d 1 s.next
                have h5 := (gE d 1 s.next).le
                have h6 := need_le T (expr T f d 1 s.next).2 [59]
                rw [next_i] at h4 h5
                try dsimp only
                rw [Stm.cnt, stmsCnt]
                omega
              · split
                · split
                  · have h4 := hE d 1 s.next.next
                    have h5 := (gE d 1 s.next.next).le
                    have h6 := need_le T (expr T f d 1 s.next.next).2 [59]
                    rw [next_i, next_i] at h4 h5
                    try dsimp only
                    rw [Stm.cnt, stmsCnt]
                    omega
                  · have h4 := hE d 1 s
                    have h5 := (gE d 1 s).le
                    have h6 := need_le T (expr T f d 1 s).2 [59]
                    try dsimp only
                    rw [Stm.cnt, stmsCnt]
                    omega
                · rw [Stm.cnt, stmsCnt]
                  show (Ex.mk 0 [] 0 [] 0 0).cnt + 0 + 0 + 1 ≤ _
                  rw [leaf_cnt]
                  omega
theorem need_top {T : Src} {s : St} (w : List UInt8) (h : s.i ≤ T.l.length) : (s.need T w).2.i ≤ T.l.length := (goes_need T s w).top h
theorem item_cnt (src : List UInt8) (at_ : Int) : stmsCnt (item src at_).body ≤ 8 * src.length := by
  have htl : (tokens src).length ≤ src.length := toks_len src
  rw [item]
  generalize hT : (⟨tokens src, src.length⟩ : Src) = T
  have hTl : T.l.length ≤ src.length := by rw [← hT]; exact htl
  dsimp only
  split
  · rename_i hfn
    have h0 := is_lt hfn
    dsimp only [fnItm]
    have h1 := (goes_named T ⟨1, []⟩).top (show 1 ≤ _ by omega)
    generalize (⟨1, []⟩ : St).named T = r at h1 ⊢
    have h2 := need_top [40] h1
    generalize (r.2.need T [40]).2 = s1 at h2 ⊢
    have h3 := ((parL_few T 6 [] s1 (by simp)).2 h2).2.1
    generalize parL T 6 [] s1 = r2 at h3 ⊢
    have h4 := need_top [41] h3
    generalize (r2.2.need T [41]).2 = s3 at h4 ⊢
    have h5 := need_top [58] h4
    generalize (s3.need T [58]).2 = s4 at h5 ⊢
    have h6 := (goes_lab T s4).top h5
    generalize lab T s4 = r5 at h6 ⊢
    generalize hr6 : (if T.is r5.2.i [115, 101, 110, 100, 115] = true then sndL T 6 [] r5.2.next else ([], r5.2)) = r6
    have h7 : r6.2.i ≤ T.l.length := by
      rw [← hr6]
      split
      · rename_i hs
        have := is_lt hs
        exact ((sndL_few T 6 [] r5.2.next (by simp)).2 (by rw [next_i]; omega)).2.1
      · exact h6
    have h8 := (cnt_block T (fuel T)).1 0 r6.2
    have h9 := ((goes_block T (fuel T)).1 0 r6.2).top h7
    omega
  · split
    · dsimp only [chItm]
      rw [stmsCnt]; omega
    · dsimp only
      rw [stmsCnt]; omega
end Go.Sp
end
section
namespace Go.Sp
abbrev PE := Nat → List UInt8 → Nat → Nat → Nat → Nat → Prop
abbrev PS := Nat → List UInt8 → Nat → Nat → Bool → Nat → Nat → Prop
mutual
def Ex.all (p : PE) : Ex → Prop
  | .mk k nm n args f t => p k nm n args.length f t ∧ exsAll p args
def exsAll (p : PE) : List Ex → Prop
  | [] => True
  | e :: es => e.all p ∧ exsAll p es
 end
mutual
def Stm.all (p : PE) (q : PS) : Stm → Prop
  | .mk k nm a lb o e thn els f t => q k nm a lb o f t ∧ e.all p ∧ stmsAll p q thn ∧ stmsAll p q els
def stmsAll (p : PE) (q : PS) : List Stm → Prop
  | [] => True
  | x :: xs => x.all p q ∧ stmsAll p q xs
 end
theorem exsAll_app {p : PE} : ∀ {l r : List Ex}, exsAll p l → exsAll p r → exsAll p (l ++ r)
  | [], r, _, h => h
  | e :: l, r, h, g => by
    rw [exsAll] at h
    rw [List.cons_append, exsAll]
    exact ⟨h.1, exsAll_app h.2 g⟩
theorem exsAll_one {p : PE} {e : Ex} (h : e.all p) : exsAll p [e] := by rw [exsAll, exsAll]; exact ⟨h, trivial⟩
theorem exsAll_nil {p : PE} : exsAll p [] := by rw [exsAll]; trivial
theorem stmsAll_nil {p : PE} {q : PS} : stmsAll p q [] := by rw [stmsAll]; trivial
theorem stmsAll_app {p : PE} {q : PS} : ∀ {l r : List Stm}, stmsAll p q l → stmsAll p q r → stmsAll p q (l ++ r)
  | [], r, _, h => h
  | e :: l, r, h, g => by
    rw [stmsAll] at h
    rw [List.cons_append, stmsAll]
    exact ⟨h.1, stmsAll_app h.2 g⟩
theorem stmsAll_one {p : PE} {q : PS} {e : Stm} (h : e.all p q) : stmsAll p q [e] := by rw [stmsAll, stmsAll]; exact ⟨h, trivial⟩
theorem exsAll_get {p : PE} : ∀ {l : List Ex} {i : Nat} {e : Ex}, exsAll p l → l[i]? = some e → e.all p
  | [], _, _, _, h => by simp at h
  | a :: l, 0, e, h, hg => by
    rw [exsAll] at h
    simp only [List.getElem?_cons_zero, Option.some.injEq] at hg
    subst hg; exact h.1
  | a :: l, i + 1, e, h, hg => by
    rw [exsAll] at h
    rw [List.getElem?_cons_succ] at hg
    exact exsAll_get h.2 hg
theorem stmsAll_get {p : PE} {q : PS} : ∀ {l : List Stm} {i : Nat} {e : Stm}, stmsAll p q l → l[i]? = some e → e.all p q
  | [], _, _, _, h => by simp at h
  | a :: l, 0, e, h, hg => by
    rw [stmsAll] at h
    simp only [List.getElem?_cons_zero, Option.some.injEq] at hg
    subst hg; exact h.1
  | a :: l, i + 1, e, h, hg => by
    rw [stmsAll] at h
    rw [List.getElem?_cons_succ] at hg
    exact stmsAll_get h.2 hg
theorem all_leaf {p : PE} {k n f t : Nat} {nm : List UInt8} (h : p k nm n 0 f t) : (Ex.mk k nm n [] f t).all p := by rw [Ex.all]; exact ⟨h, exsAll_nil⟩
theorem Ex.all_node {p : PE} {e : Ex} (h : e.all p) : p e.kind e.name e.n e.args.length e.fr e.to ∧ exsAll p e.args := by
  cases e; rw [Ex.all] at h; exact h
theorem Stm.all_node {p : PE} {q : PS} {e : Stm} (h : e.all p q) : q e.kind e.name e.at_ e.label e.opn e.fr e.to ∧ e.e.all p ∧ stmsAll p q e.thn ∧ stmsAll p q e.els := by
  cases e; rw [Stm.all] at h; exact h
/-- what is asked of expressions that are read. -/
structure AtE (T : Src) (p : PE) : Prop where
  zero : p 0 [] 0 0 0 0
  bad : ∀ i, p 5 [] 0 0 (T.tok i).pos (T.tok i).pos
  num : ∀ i n, n ≤ 1000000000 → (T.tok i).kind = 2 → p 1 [] n 0 (T.tok i).pos ((T.tok i).pos + (T.tok i).text.length)
  var : ∀ i, name (T.tok i).text = true → p 2 (T.tok i).text 0 0 (T.tok i).pos ((T.tok i).pos + (T.tok i).text.length)
  call : ∀ i j m, name (T.tok i).text = true → m ≤ 5 → p 4 (T.tok i).text 0 m (T.tok i).pos (T.endOf j)
  op : ∀ i k1 n1 v1 m1 f1 t1 k2 n2 v2 m2 f2 t2, tight (T.tok i).text ≠ 0 → p k1 n1 v1 m1 f1 t1 → p k2 n2 v2 m2 f2 t2 → p 3 (T.tok i).text 0 2 f1 (max t2 t1)
theorem all_expr {T : Src} {p : PE} (h : AtE T p) : ∀ f, (∀ d s, (atom T f d s).1.all p) ∧ (∀ d l s, l.length ≤ 5 → exsAll p l → (argL T f d l s).1.length ≤ 5 ∧ exsAll p (argL T f d l s).1) ∧
    (∀ d m s, (expr T f d m s).1.all p) ∧ (∀ d m e s, e.all p → (opL T f d m e s).1.all p)
  | 0 => ⟨fun _ _ => by rw [atom]; exact all_leaf h.zero, fun _ _ _ h1 h2 => by rw [argL]; exact ⟨h1, h2⟩, fun _ _ _ => by rw [expr]; exact all_leaf h.zero, fun _ _ _ _ h1 => by rw [opL]; exact h1⟩
  | f + 1 => by
    obtain ⟨hA, hL, hE, hO⟩ := all_expr h f
    refine ⟨fun d s => ?_, fun d l s h1 h2 => ?_, fun d m s => ?_, fun d m e s h1 => ?_⟩
    · rw [atom]
      dsimp only
      split
      · exact all_leaf (h.bad _)
      · split
        · exact all_leaf (h.bad _)
        · split
          · rename_i hk
            split
            · exact all_leaf (h.num _ 0 (by omega) hk)
            · exact all_leaf (h.num _ _ (by omega) hk)
          · split
            · exact hE _ _ _
            · split
              · exact all_leaf (h.bad _)
              · rename_i hn
                have hn' : name (T.tok s.i).text = true := by simpa using hn
                split
                · exact all_leaf (h.var _ hn')
                · obtain ⟨h1, h2⟩ := hL (d + 1) [] s.next.next (by simp) exsAll_nil
                  dsimp only
                  rw [Ex.all]
                  exact ⟨h.call _ _ _ hn' h1, h2⟩
    · rw [argL]
      split
      · exact ⟨h1, h2⟩
      · split
        · exact ⟨h1, h2⟩
        · have h3 := hE d 1 s
          have h4 : (l ++ [(expr T f d 1 s).1]).length ≤ 5 := by simp; omega
          have h5 := exsAll_app h2 (exsAll_one h3)
          dsimp only
          split
          · exact hL _ _ _ h4 h5
          · exact ⟨h4, h5⟩
    · rw [expr]
      try dsimp only
      exact hO _ _ _ _ (hA d s)
    · rw [opL]
      try dsimp only
      split
      · exact h1
      · rename_i ht
        refine hO _ _ _ _ ?_
        have h3 := hE d (tight (T.tok s.i).text + 1) s.next
        generalize (expr T f d (tight (T.tok s.i).text + 1) s.next).1 = r at h3 ⊢
        cases e with
        | mk k1 n1 v1 a1 f1 t1 =>
        cases r with
        | mk k2 n2 v2 a2 f2 t2 =>
        have g1 := h1
        have g3 := h3
        rw [Ex.all] at g1 g3
        rw [Ex.all]
        exact ⟨h.op _ _ _ _ _ _ _ _ _ _ _ _ _ (by omega) g1.1 g3.1, exsAll_app (exsAll_one h1) (exsAll_one h3)⟩
/-- what is asked of statements that are read. -/
structure AtS (T : Src) (q : PS) : Prop where
  zero : q 0 [] 0 0 false 0 0
  let_ : ∀ i (s : St) lb o j, lb ≤ 255 → q 1 (s.named T).1 (T.tok s.i).pos lb o (T.tok i).pos (max (T.endOf j) (T.tok i).pos)
  set : ∀ i j, name (T.tok i).text = true → q 2 (T.tok i).text (T.tok i).pos 0 false (T.tok i).pos (max (T.endOf j) (T.tok i).pos)
  plain : ∀ k i j, (k = 3 ∨ k = 4 ∨ k = 6 ∨ k = 7 ∨ k = 8) → q k [] 0 0 false (T.tok i).pos (max (T.endOf j) (T.tok i).pos)
  send : ∀ i (s : St) j, q 5 (s.named T).1 (T.tok s.i).pos 0 false (T.tok i).pos (max (T.endOf j) (T.tok i).pos)
theorem tag_lt (a : Nat) (ha : a < 256) (q : Nat) (hq : q < 8) (h : bit a q = false) : a + 2 ^ q < 256 := by
  have key : ∀ a < 256, ∀ q < 8, bit a q = false → a + 2 ^ q < 256 := by decide +kernel
  exact key a ha q hq h
theorem labL_lt (T : Src) : ∀ (f n : Nat) (s : St), n < 256 → (labL T f n s).1 < 256
  | 0, n, s, h => h
  | f + 1, n, s, h => by
    rw [labL]
    split
    · exact h
    · dsimp only
      split
      · exact h
      · rename_i h2
        generalize hqd : ((T.tok s.i).text.getD 0 0).toNat - 97 = q
        have hq : q < 8 := by
          simp only [tagB, Bool.not_eq_true, Bool.not_eq_false', Bool.and_eq_true, decide_eq_true_eq] at h2
          omega
        cases hb : bit n q with
        | true =>
          simp only [if_true]
          split
          · exact labL_lt T f _ _ h
          · split
            · exact labL_lt T f _ _ h
            · exact h
        | false =>
          have hn := tag_lt n h q hq hb
          simp only [Bool.false_eq_true, if_false]
          split
          · exact labL_lt T f _ _ hn
          · split
            · exact labL_lt T f _ _ hn
            · exact hn
theorem lab_lt (T : Src) (s : St) : (lab T s).1 < 256 := by
  rw [lab]
  split
  · exact labL_lt T _ _ _ (by decide)
  · dsimp only; omega
theorem all_block {T : Src} {p : PE} {q : PS} (h : AtE T p) (g : AtS T q) : ∀ f, (∀ d s, stmsAll p q (block T f d s).1) ∧ (∀ d l s, stmsAll p q l → stmsAll p q (stmL T f d l s).1) ∧ (∀ d s, (stm T f d s).1.all p q)
  | 0 => ⟨fun _ _ => by rw [block]; exact stmsAll_nil, fun _ _ _ h1 => by rw [stmL]; exact h1, fun _ s => by
      rw [stm]
      show (Stm.mk 0 [] 0 0 false (.mk 0 [] 0 [] 0 0) [] [] 0 0).all p q
      rw [Stm.all]; exact ⟨g.zero, all_leaf h.zero, stmsAll_nil, stmsAll_nil⟩⟩
  | f + 1 => by
    obtain ⟨hB, hL, hS⟩ := all_block h g f
    have hE := (all_expr h f).2.2.1
    refine ⟨fun d s => ?_, fun d l s h1 => ?_, fun d s => ?_⟩
    · rw [block]
      split
      · exact stmsAll_nil
      · split
        · exact stmsAll_nil
        · dsimp only
          exact hL _ _ _ stmsAll_nil
    · rw [stmL]
      split
      · exact h1
      · split
        · exact h1
        · dsimp only
          exact hL _ _ _ (stmsAll_app h1 (stmsAll_one (hS d s)))
    · rw [stm]
      dsimp only
      split
      · rw [Stm.all]
        refine ⟨g.let_ s.i s.next _ _ _ ?_, hE _ _ _, stmsAll_nil, stmsAll_nil⟩
        split
        · dsimp only; omega
        · exact Nat.le_of_lt_succ (lab_lt T _)
      · split
        · split
          · dsimp only; rw [Stm.all]; exact ⟨g.plain _ _ _ (.inl rfl), hE _ _ _, hB _ _, hB _ _⟩
          · dsimp only; rw [Stm.all]; exact ⟨g.plain _ _ _ (.inl rfl), hE _ _ _, hB _ _, stmsAll_nil⟩
        · split
          · rw [Stm.all]; exact ⟨g.plain _ _ _ (.inr (.inl rfl)), hE _ _ _, hB _ _, stmsAll_nil⟩
          · split
            · rw [Stm.all]; exact ⟨g.send s.i s.next _, hE _ _ _, stmsAll_nil, stmsAll_nil⟩
            · split
              · rw [Stm.all]; exact ⟨g.plain _ _ _ (.inr (.inr (.inl rfl))), hE _ _ _, stmsAll_nil, stmsAll_nil⟩
              · split
                · rename_i hn
                  split
                  · rw [Stm.all]; exact ⟨g.set _ _ hn, hE _ _ _, stmsAll_nil, stmsAll_nil⟩
                  · rw [Stm.all]; exact ⟨g.plain _ _ _ (.inr (.inr (.inr (.inl rfl)))), hE _ _ _, stmsAll_nil, stmsAll_nil⟩
                · rw [Stm.all]
                  refine ⟨g.plain _ _ _ (.inr (.inr (.inr (.inr rfl)))), ?_, stmsAll_nil, stmsAll_nil⟩
                  exact all_leaf h.zero
/-- parameters, and names, that are read. -/
theorem all_parL {T : Src} {r : Par → Prop} (h : ∀ (s : St) lb, lb ≤ 255 → r ⟨(s.named T).1, lb, (T.tok s.i).pos⟩) : ∀ (f : Nat) (l : List Par) (s : St), (∀ x ∈ l, r x) → ∀ x ∈ (parL T f l s).1, r x
  | 0, l, s, h1 => by rw [parL]; exact h1
  | f + 1, l, s, h1 => by
    rw [parL]
    split
    · exact h1
    · split
      · exact h1
      · dsimp only
        split
        · exact h1
        · have h2 : ∀ lb, lb ≤ 255 → ∀ x ∈ l ++ [⟨(s.named T).1, lb, (T.tok s.i).pos⟩], r x := fun lb hl x hx => by
            rcases List.mem_append.1 hx with hx | hx
            · exact h1 x hx
            · obtain rfl := List.mem_singleton.1 hx
              exact h s lb hl
          have h3 := fun s => Nat.le_of_lt_succ (lab_lt T s)
          split
          · exact all_parL h f _ _ (h2 _ (h3 _))
          · exact h2 _ (h3 _)
theorem all_sndL {T : Src} {r : Rf → Prop} (h : ∀ (s : St), r ⟨(s.named T).1, (T.tok s.i).pos⟩) : ∀ (f : Nat) (l : List Rf) (s : St), (∀ x ∈ l, r x) → ∀ x ∈ (sndL T f l s).1, r x
  | 0, l, s, h1 => by rw [sndL]; exact h1
  | f + 1, l, s, h1 => by
    rw [sndL]
    split
    · exact h1
    · dsimp only
      have h2 : ∀ x ∈ l ++ [⟨(s.named T).1, (T.tok s.i).pos⟩], r x := fun x hx => by
        rcases List.mem_append.1 hx with hx | hx
        · exact h1 x hx
        · obtain rfl := List.mem_singleton.1 hx
          exact h s
      split
      · exact all_sndL h f _ _ h2
      · exact h2
/-- what is asked of an item that is read. -/
structure ItAll (T : Src) (p : PE) (q : PS) (r : Par → Prop) (t : Rf → Prop) (it : Itm) : Prop where
  body : stmsAll p q it.body
  params : ∀ x ∈ it.params, r x
  sends : ∀ x ∈ it.sends, t x
  few : it.params.length ≤ 5 ∧ it.sends.length ≤ 5 ∧ it.body.length ≤ 40
  label : it.label ≤ 255
  kind : 1 ≤ it.kind ∧ it.kind ≤ 3
  mark : (it.name = [] ∧ ((∃ i, it.mark = (T.tok i).pos) ∨ it.mark = 0)) ∨ ∃ s : St, it.name = (s.named T).1 ∧ it.mark = (T.tok s.i).pos
  bad : it.kind = 3 → it.name = [] ∧ it.label = 0 ∧ it.params = [] ∧ it.sends = [] ∧ it.body = []
  chan : it.kind = 1 → it.params = [] ∧ it.sends = [] ∧ it.body = []
theorem item_all {src : List UInt8} {p : PE} {q : PS} {r : Par → Prop} {t : Rf → Prop} (at_ : Int) (h : AtE ⟨tokens src, src.length⟩ p) (g : AtS ⟨tokens src, src.length⟩ q)
    (hr : ∀ (s : St) lb, lb ≤ 255 → r ⟨(s.named ⟨tokens src, src.length⟩).1, lb, ((⟨tokens src, src.length⟩ : Src).tok s.i).pos⟩)
    (ht : ∀ (s : St), t ⟨(s.named ⟨tokens src, src.length⟩).1, ((⟨tokens src, src.length⟩ : Src).tok s.i).pos⟩) : ItAll ⟨tokens src, src.length⟩ p q r t (item src at_) := by
  rw [item]
  generalize (⟨tokens src, src.length⟩ : Src) = T at h g hr ht ⊢
  dsimp only
  split
  · dsimp only [fnItm]
    have h6 : ∀ (c : Bool) (y z : St), ∀ x ∈ (if c = true then sndL T 6 [] y else ([], z)).1, t x := fun c y z => by
      split
      · exact all_sndL ht _ _ _ (by simp)
      · simp
    have l6 : ∀ (c : Bool) (y z : St), (if c = true then sndL T 6 [] y else ([], z)).1.length ≤ 5 := fun c y z => by
      split
      · exact (sndL_few T 6 [] _ (by simp)).1
      · simp
    exact ⟨(all_block h g _).1 _ _, all_parL hr _ _ _ (by simp), h6 _ _ _, ⟨(parL_few T 6 [] _ (by simp)).1, l6 _ _ _, ((small_block T _).1 _ _).1⟩, Nat.le_of_lt_succ (lab_lt T _), ⟨by simp, by simp⟩, .inr ⟨⟨1, []⟩, rfl, rfl⟩, fun h => (by simp at h), fun h => (by simp at h)⟩
  · split
    · dsimp only [chItm]
      exact ⟨stmsAll_nil, by simp, by simp, ⟨by simp, by simp, by simp⟩, Nat.le_of_lt_succ (lab_lt T _), ⟨by simp, by simp⟩, .inr ⟨⟨1, []⟩, rfl, rfl⟩, fun h => (by simp at h), fun _ => ⟨rfl, rfl, rfl⟩⟩
    · dsimp only
      exact ⟨stmsAll_nil, by simp, by simp, ⟨by simp, by simp, by simp⟩, by simp, ⟨by simp, by simp⟩, .inl ⟨rfl, .inr rfl⟩, fun _ => ⟨rfl, rfl, rfl, rfl, rfl⟩, fun h => (by simp at h)⟩
end Go.Sp
end
section
namespace Go.Sp
inductive Runs (T : Src) : St → St → Prop where
  | refl (s : St) : Runs T s s
  | bad {s r : St} (e : Nat) : Runs T s r → Runs T s (r.bad T e)
  | next {s r : St} : Runs T s r → Runs T s r.next
theorem Runs.trans {T : Src} {s r q : St} (h : Runs T s r) (g : Runs T r q) : Runs T s q := by
  induction g with
  | refl => exact h
  | bad e _ ih => exact .bad e ih
  | next _ ih => exact .next ih
theorem Runs.on {T : Src} {s r : St} (h : Runs T s r) : s.i ≤ r.i := by
  induction h with
  | refl => exact Nat.le_refl _
  | bad e _ ih => exact ih
  | next _ ih => exact Nat.le_succ_of_le ih
end Go.Sp
end
section
namespace Go.Sp
theorem items_len (s : List UInt8) (cs : List Nat) : (items s cs).length = cs.length := by simp [items]
theorem file_few (s : List UInt8) : (fileItems s).length ≤ 30 := by
  rw [fileItems]
  split
  · rename_i h
    rw [items_len]
    rw [fileErr] at h
    split at h
    · omega
    · split at h <;> omega
  · simp
/-- what each item of a file is like. -/
structure ItIn (s : List UInt8) (k : Nat) (it : Itm) : Prop where
  at0 : 0 ≤ it.at_
  size : 1 ≤ it.size
  top : it.at_ + it.size ≤ s.length
  ends : it.at_ + it.size = (match (fileItems s)[k + 1]? with | some j => j.at_ | none => (s.length : Int))
  diags : ∀ d ∈ it.diags, d.fr ≤ d.to ∧ d.to ≤ it.size
  small : it.small
  len : s.length ≤ 4000
end Go.Sp
end
section
namespace Go.Sp
def itIs (k : Int) (n : List UInt8) (it : Itm) : Bool := decide ((it.kind : Int) = k) && (decide (it.name = n) && decide (n ≠ []))
/-- the first item of a kind and a name. -/
def findIt (its : List Itm) (k : Int) (n : List UInt8) : Option Nat := its.findIdx? (itIs k n)
/-- a local: its name, where it is made. -/
structure Lc where
  name : List UInt8
  at_ : Nat
/-- a use of a name. -/
structure Us where
  fr : Int
  to : Int
  df : Int
  deriving DecidableEq
structure NW where
  ds : List Dg
  us : List Us
def NW.tell (s : NW) (a e : Nat) (n : List UInt8) : NW := { s with ds := s.ds ++ [⟨a, a + n.length, e, n⟩] }
def NW.use (s : NW) (b : Int) (a : Nat) (n : List UInt8) (d : Int) : NW := { s with us := s.us ++ [⟨b + a, b + a + n.length, d⟩] }
/-- the local that was made last. -/
def findLc : List Lc → List UInt8 → Option Lc
  | [], _ => none
  | l :: sc, n => match findLc sc n with
    | some x => some x
    | none => if l.name = n then some l else none
def zeroIt : Itm := ⟨0, [], 0, [], [], [], 0, 0, 0, []⟩
def itNo (its : List Itm) (j : Nat) : Itm := its.getD j zeroIt
def locN (b : Int) (sc : List Lc) (a : Nat) (n : List UInt8) (s : NW) : NW := match findLc sc n with
  | some l => s.use b a n (b + l.at_)
  | none => if n = [] then s else s.tell a 6 n
def itmN (its : List Itm) (b : Int) (k : Int) (a : Nat) (n : List UInt8) (s : NW) : NW := match findIt its k n with
  | some j => s.use b a n ((itNo its j).at_ + (itNo its j).mark)
  | none => if n = [] then s else s.tell a 6 n
def callN (its : List Itm) (b : Int) (a : Nat) (n : List UInt8) (m : Nat) (s : NW) : NW := match findIt its 2 n with
  | some j => if (itNo its j).params.length ≠ m then (itmN its b 2 a n s).tell a 5 n else itmN its b 2 a n s
  | none => itmN its b 2 a n s
def mkN (n : List UInt8) (a : Nat) (sc : List Lc) (s : NW) : List Lc × NW :=
  if n = [] then (sc, s) else (sc ++ [⟨n, a⟩], match findLc sc n with | some _ => s.tell a 7 n | none => s)
mutual
def exN (its : List Itm) (b : Int) (sc : List Lc) : Ex → NW → NW
  | .mk k nm _ args fr _, s => exsN its b sc args (if k = 2 then locN b sc fr nm s else if k = 4 then callN its b fr nm args.length s else s)
def exsN (its : List Itm) (b : Int) (sc : List Lc) : List Ex → NW → NW
  | [], s => s
  | e :: es, s => exsN its b sc es (exN its b sc e s)
 end
mutual
def stmN (its : List Itm) (b : Int) : Stm → List Lc → NW → List Lc × NW
  | .mk k nm a _ _ e thn els _ _, sc, s =>
    if k = 1 then mkN nm a sc (exN its b sc e s) else
    if k = 2 then (sc, locN b sc a nm (exN its b sc e s)) else
    if k = 5 then (sc, itmN its b 1 a nm (exN its b sc e s)) else
    if k = 3 ∨ k = 4 then (sc, (stmsN its b els sc (stmsN its b thn sc (exN its b sc e s)).2).2) else (sc, exN its b sc e s)
def stmsN (its : List Itm) (b : Int) : List Stm → List Lc → NW → List Lc × NW
  | [], sc, s => (sc, s)
  | x :: xs, sc, s => stmsN its b xs (stmN its b x sc s).1 (stmN its b x sc s).2
 end
def parN : List Par → List Lc → NW → List Lc × NW
  | [], sc, s => (sc, s)
  | p :: ps, sc, s => parN ps (mkN p.name p.at_ sc s).1 (mkN p.name p.at_ sc s).2
def sndStep (its : List Itm) (b : Int) (dn : List Rf) (c : Rf) (s : NW) : NW :=
  if c.name ≠ [] ∧ dn.any (fun x => decide (x.name = c.name)) = true then (itmN its b 1 c.at_ c.name s).tell c.at_ 7 c.name else itmN its b 1 c.at_ c.name s
def sndN (its : List Itm) (b : Int) : List Rf → List Rf → NW → NW
  | _, [], s => s
  | dn, c :: cs, s => sndN its b (dn ++ [c]) cs (sndStep its b dn c s)
def NW0 : NW := ⟨[], []⟩
/-- is the name of item number 'i' taken? -/
def taken (its : List Itm) (i : Nat) (it : Itm) : Bool := decide (it.kind ≠ 3) && (decide (it.name ≠ []) && (its.take i).any (fun x => decide (x.kind = it.kind) && decide (x.name = it.name)))
def fnN (its : List Itm) (it : Itm) (s : NW) : NW :=
  (stmsN its it.at_ it.body (parN it.params [] s).1 (sndN its it.at_ [] it.sends (parN it.params [] s).2)).2
def walkN (its : List Itm) (i : Nat) : NW :=
  if (itNo its i).kind = 2 then fnN its (itNo its i) (if taken its i (itNo its i) = true then NW0.tell (itNo its i).mark 7 (itNo its i).name else NW0)
  else if taken its i (itNo its i) = true then NW0.tell (itNo its i).mark 7 (itNo its i).name else NW0
theorem exsN_app (its : List Itm) (b : Int) (sc : List Lc) : ∀ (l r : List Ex) (s : NW), exsN its b sc (l ++ r) s = exsN its b sc r (exsN its b sc l s)
  | [], r, s => by rw [List.nil_append, exsN]
  | e :: l, r, s => by rw [List.cons_append, exsN, exsN, exsN_app its b sc l r]
theorem stmsN_app (its : List Itm) (b : Int) : ∀ (l r : List Stm) (sc : List Lc) (s : NW), stmsN its b (l ++ r) sc s = stmsN its b r (stmsN its b l sc s).1 (stmsN its b l sc s).2
  | [], r, sc, s => by rw [List.nil_append, stmsN]
  | e :: l, r, sc, s => by rw [List.cons_append, stmsN, stmsN, stmsN_app its b l r]
theorem take_succ_get {α : Type} {l : List α} {k : Nat} {x : α} (h : l[k]? = some x) : l.take (k + 1) = l.take k ++ [x] := by rw [List.take_add_one, h]; rfl
theorem exsN_step (its : List Itm) (b : Int) (sc : List Lc) {l : List Ex} {k : Nat} {e : Ex} (h : l[k]? = some e) (s : NW) : exsN its b sc (l.take (k + 1)) s = exN its b sc e (exsN its b sc (l.take k) s) := by
  rw [take_succ_get h, exsN_app, exsN, exsN]
theorem stmsN_step (its : List Itm) (b : Int) {l : List Stm} {k : Nat} {x : Stm} (h : l[k]? = some x) (sc : List Lc) (s : NW) :
    stmsN its b (l.take (k + 1)) sc s = stmN its b x (stmsN its b (l.take k) sc s).1 (stmsN its b (l.take k) sc s).2 := by
  rw [take_succ_get h, stmsN_app, stmsN, stmsN]
theorem parN_app : ∀ (l r : List Par) (sc : List Lc) (s : NW), parN (l ++ r) sc s = parN r (parN l sc s).1 (parN l sc s).2
  | [], r, sc, s => by rw [List.nil_append, parN]
  | e :: l, r, sc, s => by rw [List.cons_append, parN, parN, parN_app l r]
theorem parN_step {l : List Par} {k : Nat} {x : Par} (h : l[k]? = some x) (sc : List Lc) (s : NW) : parN (l.take (k + 1)) sc s = mkN x.name x.at_ (parN (l.take k) sc s).1 (parN (l.take k) sc s).2 := by
  rw [take_succ_get h, parN_app, parN, parN]
theorem sndN_app (its : List Itm) (b : Int) : ∀ (l r : List Rf) (dn : List Rf) (s : NW), sndN its b dn (l ++ r) s = sndN its b (dn ++ l) r (sndN its b dn l s)
  | [], r, dn, s => by rw [List.nil_append, List.append_nil, sndN]
  | e :: l, r, dn, s => by rw [List.cons_append, sndN, sndN, sndN_app its b l r]; simp
theorem sndN_step (its : List Itm) (b : Int) {l : List Rf} {k : Nat} {x : Rf} (h : l[k]? = some x) (s : NW) : sndN its b [] (l.take (k + 1)) s = sndStep its b (l.take k) x (sndN its b [] (l.take k) s) := by
  rw [take_succ_get h, sndN_app, List.nil_append, sndN, sndN]
theorem findLc_snoc (n : List UInt8) (x : Lc) : ∀ (l : List Lc), findLc (l ++ [x]) n = if x.name = n then some x else findLc l n
  | [] => by simp [findLc]
  | a :: l => by
    rw [List.cons_append, findLc, findLc_snoc n x l, findLc]
    split <;> rename_i h
    · split at h
      · rename_i h2; rw [if_pos h2]; exact h.symm
      · rename_i h2; rw [if_neg h2, h]
    · split at h
      · cases h
      · rename_i h2; rw [if_neg h2, h]
theorem findLc_mem {n : List UInt8} {x : Lc} : ∀ {l : List Lc}, findLc l n = some x → x ∈ l ∧ x.name = n
  | [], h => by cases h
  | a :: l, h => by
    rw [findLc] at h
    split at h
    · rename_i y hy
      obtain rfl := Option.some.inj h
      have := findLc_mem hy
      exact ⟨List.mem_cons_of_mem _ this.1, this.2⟩
    · split at h
      · rename_i hn
        obtain rfl := Option.some.inj h
        exact ⟨List.mem_cons_self, hn⟩
      · cases h
/-! how much is told -/
def NW.n (s : NW) : Nat := s.ds.length + s.us.length
theorem tell_n (s : NW) (a e : Nat) (n : List UInt8) : (s.tell a e n).n = s.n + 1 := by simp [NW.tell, NW.n]; omega
theorem use_n (s : NW) (b : Int) (a : Nat) (n : List UInt8) (d : Int) : (s.use b a n d).n = s.n + 1 := by simp [NW.use, NW.n]; omega
theorem locN_n (b : Int) (sc : List Lc) (a : Nat) (n : List UInt8) (s : NW) : s.n ≤ (locN b sc a n s).n ∧ (locN b sc a n s).n ≤ s.n + 1 := by
  rw [locN]
  split
  · rw [use_n]; omega
  · split
    · omega
    · rw [tell_n]; omega
theorem itmN_n (its : List Itm) (b : Int) (k : Int) (a : Nat) (n : List UInt8) (s : NW) : s.n ≤ (itmN its b k a n s).n ∧ (itmN its b k a n s).n ≤ s.n + 1 := by
  rw [itmN]
  split
  · rw [use_n]; omega
  · split
    · omega
    · rw [tell_n]; omega
theorem callN_n (its : List Itm) (b : Int) (a : Nat) (n : List UInt8) (m : Nat) (s : NW) : s.n ≤ (callN its b a n m s).n ∧ (callN its b a n m s).n ≤ s.n + 2 := by
  have := itmN_n its b 2 a n s
  rw [callN]
  split
  · split
    · rw [tell_n]; omega
    · omega
  · omega
theorem mkN_n (n : List UInt8) (a : Nat) (sc : List Lc) (s : NW) : s.n ≤ (mkN n a sc s).2.n ∧ (mkN n a sc s).2.n ≤ s.n + 1 ∧ sc.length ≤ (mkN n a sc s).1.length ∧ (mkN n a sc s).1.length ≤ sc.length + 1 := by
  rw [mkN]
  split
  · exact ⟨Nat.le_refl _, by dsimp only; omega, Nat.le_refl _, by dsimp only; omega⟩
  · dsimp only
    rw [List.length_append, List.length_singleton]
    split
    · rw [tell_n]; omega
    · omega
mutual
theorem exN_n (its : List Itm) (b : Int) (sc : List Lc) : ∀ (e : Ex) (s : NW), s.n ≤ (exN its b sc e s).n ∧ (exN its b sc e s).n ≤ s.n + 2 * e.cnt
  | .mk k nm n args fr to, s => by
    rw [exN, Ex.cnt]
    have h1 := locN_n b sc fr nm s
    have h2 := callN_n its b fr nm args.length s
    have h3 := exsN_n its b sc args (if k = 2 then locN b sc fr nm s else if k = 4 then callN its b fr nm args.length s else s)
    generalize hq : (if k = 2 then locN b sc fr nm s else if k = 4 then callN its b fr nm args.length s else s) = q at h3 ⊢
    have h4 : s.n ≤ q.n ∧ q.n ≤ s.n + 2 := by
      rw [← hq]
      split
      · omega
      · split <;> omega
    omega
theorem exsN_n (its : List Itm) (b : Int) (sc : List Lc) : ∀ (l : List Ex) (s : NW), s.n ≤ (exsN its b sc l s).n ∧ (exsN its b sc l s).n ≤ s.n + 2 * exsCnt l
  | [], s => by rw [exsN, exsCnt]; omega
  | e :: l, s => by
    rw [exsN, exsCnt]
    have h1 := exN_n its b sc e s
    have h2 := exsN_n its b sc l (exN its b sc e s)
    omega
 end
mutual
theorem stmN_n (its : List Itm) (b : Int) : ∀ (x : Stm) (sc : List Lc) (s : NW), s.n ≤ (stmN its b x sc s).2.n ∧ (stmN its b x sc s).2.n ≤ s.n + 2 * x.cnt ∧ sc.length ≤ (stmN its b x sc s).1.length ∧ (stmN its b x sc s).1.length ≤ sc.length + 1
  | .mk k nm a lb o e thn els f t, sc, s => by
    rw [stmN, Stm.cnt]
    have h1 := exN_n its b sc e s
    generalize exN its b sc e s = q at h1 ⊢
    have h2 := mkN_n nm a sc q
    have h3 := locN_n b sc a nm q
    have h4 := itmN_n its b 1 a nm q
    have h5 := stmsN_n its b thn sc q
    have h6 := stmsN_n its b els sc (stmsN its b thn sc q).2
    split
    · omega
    · split
      · dsimp only; omega
      · split
        · dsimp only; omega
        · split
          · dsimp only; omega
          · dsimp only; omega
theorem stmsN_n (its : List Itm) (b : Int) : ∀ (l : List Stm) (sc : List Lc) (s : NW), s.n ≤ (stmsN its b l sc s).2.n ∧ (stmsN its b l sc s).2.n ≤ s.n + 2 * stmsCnt l ∧ sc.length ≤ (stmsN its b l sc s).1.length ∧ (stmsN its b l sc s).1.length ≤ sc.length + l.length
  | [], sc, s => by rw [stmsN, stmsCnt]; exact ⟨by dsimp only; omega, by dsimp only; omega, by dsimp only; omega, by dsimp only; simp⟩
  | x :: l, sc, s => by
    rw [stmsN, stmsCnt, List.length_cons]
    have h1 := stmN_n its b x sc s
    have h2 := stmsN_n its b l (stmN its b x sc s).1 (stmN its b x sc s).2
    omega
 end
end Go.Sp
end
