/- Own work: texts SpecCnt, SpecAll, SpecRuns, SpecChange, SpecNames, NmZ, FwMap2, one behind the other. -/
import Derived.Test.YtjfkjpbkmpofkaaIt11
section
namespace Go.Sp
mutual
def Ex.cnt : Ex → Nat
  | .mk _ _ _ args _ _ => exsCnt args + 1
def exsCnt : List Ex → Nat
  | [] => 0
  | e :: es => e.cnt + exsCnt es
 end
mutual
def Stm.cnt : Stm → Nat
  | .mk _ _ _ _ _ e thn els _ _ => e.cnt + stmsCnt thn + stmsCnt els + 1
def stmsCnt : List Stm → Nat
  | [] => 0
  | x :: xs => x.cnt + stmsCnt xs
 end
theorem exsCnt_app : ∀ (l r : List Ex), exsCnt (l ++ r) = exsCnt l + exsCnt r
  | [], r => by rw [exsCnt]; simp
  | e :: l, r => by rw [List.cons_append, exsCnt, exsCnt, exsCnt_app l r]; omega
theorem stmsCnt_app : ∀ (l r : List Stm), stmsCnt (l ++ r) = stmsCnt l + stmsCnt r
  | [], r => by rw [stmsCnt]; simp
  | e :: l, r => by rw [List.cons_append, stmsCnt, stmsCnt, stmsCnt_app l r]; omega
theorem exsCnt_one (e : Ex) : exsCnt [e] = e.cnt := by rw [exsCnt, exsCnt]; omega
theorem stmsCnt_one (e : Stm) : stmsCnt [e] = e.cnt := by rw [stmsCnt, stmsCnt]; omega
theorem leaf_cnt (k n f t : Nat) (nm : List UInt8) : (Ex.mk k nm n [] f t).cnt = 1 := by rw [Ex.cnt, exsCnt]
theorem need_le (T : Src) (s : St) (w : List UInt8) : s.i ≤ (s.need T w).2.i := (goes_need T s w).le
theorem cnt_expr (T : Src) : ∀ f, (∀ d s, (atom T f d s).1.cnt ≤ 2 * ((atom T f d s).2.i - s.i) + 1) ∧ (∀ d l s, exsCnt (argL T f d l s).1 ≤ exsCnt l + 2 * ((argL T f d l s).2.i - s.i) + 1) ∧
    (∀ d m s, (expr T f d m s).1.cnt ≤ 2 * ((expr T f d m s).2.i - s.i) + 1) ∧ (∀ d m e s, (opL T f d m e s).1.cnt ≤ e.cnt + 2 * ((opL T f d m e s).2.i - s.i))
  | 0 => ⟨fun _ _ => by rw [atom]; show (Ex.mk 0 [] 0 [] 0 0).cnt ≤ _; rw [leaf_cnt]; omega, fun _ _ _ => by rw [argL]; dsimp only; omega,
      fun _ _ _ => by rw [expr]; show (Ex.mk 0 [] 0 [] 0 0).cnt ≤ _; rw [leaf_cnt]; omega, fun _ _ _ _ => by rw [opL]; dsimp only; omega⟩
  | f + 1 => by
    obtain ⟨hA, hL, hE, hO⟩ := cnt_expr T f
    obtain ⟨gA, gL, gE, gO⟩ := goes_expr T f
    refine ⟨fun d s => ?_, fun d l s => ?_, fun d m s => ?_, fun d m e s => ?_⟩
    · rw [atom]
      dsimp only
      split
      · rw [none_]; dsimp only; rw [leaf_cnt]; omega
      · split
        · rw [none_]; dsimp only; rw [leaf_cnt]; omega
        · split
          · split
            · dsimp only; rw [leaf_cnt]; omega
            · dsimp only; rw [leaf_cnt]; omega
          · split
            · have h1 := hE (d + 1) 1 s.next
              have h2 := (gE (d + 1) 1 s.next).le
              have h3 := need_le T (expr T f (d + 1) 1 s.next).2 [41]
              rw [next_i] at h1 h2
              dsimp only
              omega
            · split
              · rw [none_]; dsimp only; rw [leaf_cnt]; omega
              · split
                · dsimp only; rw [leaf_cnt]; omega
                · have h1 := hL (d + 1) [] s.next.next
                  have h2 := (gL (d + 1) [] s.next.next).le
                  have h3 := need_le T (argL T f (d + 1) [] s.next.next).2 [41]
                  rw [next_i, next_i] at h1 h2
                  rw [exsCnt] at h1
                  dsimp only
                  rw [Ex.cnt]
                  omega
    · rw [argL]
      split
      · dsimp only; omega
      · split
        · dsimp only; omega
        · have h1 := hE d 1 s
          have h2 := (gE d 1 s).le
          try dsimp only
          split
          · have h3 := hL d (l ++ [(expr T f d 1 s).1]) (expr T f d 1 s).2.next
            have h4 := (gL d (l ++ [(expr T f d 1 s).1]) (expr T f d 1 s).2.next).le
            rw [next_i] at h3 h4
            rw [exsCnt_app, exsCnt_one] at h3
            omega
          · dsimp only
            rw [exsCnt_app, exsCnt_one]
            omega
    · rw [expr]
      try dsimp only
      have h1 := hA d s
      have h2 := (gA d s).le
      have h3 := hO d m (atom T f d s).1 (atom T f d s).2
      have h4 := (gO d m (atom T f d s).1 (atom T f d s).2).le
      omega
    · rw [opL]
      try dsimp only
      split
      · dsimp only; omega
      · have h1 := hE d (tight (T.tok s.i).text + 1) s.next
        have h2 := (gE d (tight (T.tok s.i).text + 1) s.next).le
        rw [next_i] at h1 h2
        generalize expr T f d (tight (T.tok s.i).text + 1) s.next = r at h1 h2 ⊢
        have h3 := hO d m (.mk 3 (T.tok s.i).text 0 [e, r.1] e.fr (max r.1.to e.to)) r.2
        have h4 := (gO d m (.mk 3 (T.tok s.i).text 0 [e, r.1] e.fr (max r.1.to e.to)) r.2).le
        rw [Ex.cnt, exsCnt, exsCnt_one] at h3
        omega
theorem cnt_block (T : Src) : ∀ f, (∀ d s, stmsCnt (block T f d s).1 ≤ 8 * ((block T f d s).2.i - s.i)) ∧ (∀ d l s, stmsCnt (stmL T f d l s).1 ≤ stmsCnt l + 8 * ((stmL T f d l s).2.i - s.i)) ∧
    (∀ d s, (stm T f d s).1.cnt ≤ 8 * max ((stm T f d s).2.i - s.i) 1)
  | 0 => ⟨fun _ _ => by rw [block]; dsimp only; rw [stmsCnt]; omega, fun _ _ _ => by rw [stmL]; dsimp only; omega,
      fun _ s => by rw [stm]; show (Stm.mk 0 [] 0 0 false (.mk 0 [] 0 [] 0 0) [] [] 0 0).cnt ≤ _; rw [Stm.cnt, leaf_cnt, stmsCnt]; omega⟩
  | f + 1 => by
    obtain ⟨hB, hL, hS⟩ := cnt_block T f
    obtain ⟨gB, gL, gS⟩ := goes_block T f
    have hE := (cnt_expr T f).2.2.1
    have gE := (goes_expr T f).2.2.1
    refine ⟨fun d s => ?_, fun d l s => ?_, fun d s => ?_⟩
    · rw [block]
      split
      · dsimp only; rw [stmsCnt]; omega
      · split
        · dsimp only; rw [stmsCnt]; omega
        · have h1 := hL (d + 1) [] s.next
          have h2 := (gL (d + 1) [] s.next).le
          have h3 := need_le T (stmL T f (d + 1) [] s.next).2 [125]
          rw [next_i] at h1 h2
          rw [stmsCnt] at h1
          try dsimp only
          omega
    · rw [stmL]
      split
      · dsimp only; omega
      · split
        · dsimp only; omega
        · have h1 := hS d s
          have h2 := (gS d s).le
          try dsimp only
          split
          · rename_i he
            have h3 := hL d (l ++ [(stm T f d s).1]) (stm T f d s).2.next
            have h4 := (gL d (l ++ [(stm T f d s).1]) (stm T f d s).2.next).le
            rw [next_i] at h3 h4
            rw [stmsCnt_app, stmsCnt_one] at h3
            omega
          · rename_i he
            have h3 := hL d (l ++ [(stm T f d s).1]) (stm T f d s).2
            have h4 := (gL d (l ++ [(stm T f d s).1]) (stm T f d s).2).le
            rw [stmsCnt_app, stmsCnt_one] at h3
            omega
    · rw [stm]
      dsimp only
      split
      · have h1 := (goes_named T s.next).le
        rw [next_i] at h1
        generalize s.next.named T = r at h1 ⊢
        generalize hr1 : (if (!T.is r.2.i [58]) = true then (0, r.2) else lab T r.2.next) = r1
        have h2 : r.2.i ≤ r1.2.i := by
          rw [← hr1]
          split
          · exact Nat.le_refl _
          · have := (goes_lab T r.2.next).le
            rw [next_i] at this
            omega
        have h3 := need_le T r1.2 [61]
        have h4 := hE d 1 (r1.2.need T [61]).2
        have h5 := (gE d 1 (r1.2.need T [61]).2).le
        have h6 := need_le T (expr T f d 1 (r1.2.need T [61]).2).2 [59]
        try dsimp only
        rw [Stm.cnt, stmsCnt]
        omega
      · split
        · have h1 := hE d 1 s.next
          have h2 := (gE d 1 s.next).le
          rw [next_i] at h1 h2
          generalize expr T f d 1 s.next = r at h1 h2 ⊢
          have h3 := hB d r.2
          have h4 := (gB d r.2).le
          generalize block T f d r.2 = r1 at h3 h4 ⊢
          split
          · have h5 := hB d r1.2.next
            have h6 := (gB d r1.2.next).le
            rw [next_i] at h5 h6
            dsimp only
            try dsimp only
            rw [Stm.cnt]
            omega
          · dsimp only
            try dsimp only
            rw [Stm.cnt, stmsCnt]
            omega
        · split
          · have h1 := hE d 1 s.next
            have h2 := (gE d 1 s.next).le
            rw [next_i] at h1 h2
            generalize expr T f d 1 s.next = r at h1 h2 ⊢
            have h3 := hB d r.2
            have h4 := (gB d r.2).le
            try dsimp only
            rw [Stm.cnt, stmsCnt]
            omega
          · split
            · have h1 := (goes_named T s.next).le
              rw [next_i] at h1
              generalize s.next.named T = r at h1 ⊢
              have h4 := hE d 1 r.2
              have h5 := (gE d 1 r.2).le
              have h6 := need_le T (expr T f d 1 r.2).2 [59]
              try dsimp only
              rw [Stm.cnt, stmsCnt]
              omega
            · split
              · have h4 := hE d 1 s.next
                have h5 := (gE d 1 s.next).le
                have h6 := need_le T (expr T f d 1 s.next).2 [59]
                rw [next_i] at h4 h5
                try dsimp only
                rw [Stm.cnt, stmsCnt]
                omega
              · split
                · split
                  · have h4 := hE d 1 s.next.next
                    have h5 := (gE d 1 s.next.next).le
                    have h6 := need_le T (expr T f d 1 s.next.next).2 [59]
                    rw [next_i, next_i] at h4 h5
                    try dsimp only
                    rw [Stm.cnt, stmsCnt]
                    omega
                  · have h4 := hE d 1 s
                    have h5 := (gE d 1 s).le
                    have h6 := need_le T (expr T f d 1 s).2 [59]
                    try dsimp only
                    rw [Stm.cnt, stmsCnt]
                    omega
                · rw [Stm.cnt, stmsCnt]
                  show (Ex.mk 0 [] 0 [] 0 0).cnt + 0 + 0 + 1 ≤ _
                  rw [leaf_cnt]
                  omega
theorem need_top {T : Src} {s : St} (w : List UInt8) (h : s.i ≤ T.l.length) : (s.need T w).2.i ≤ T.l.length := (goes_need T s w).top h
theorem item_cnt (src : List UInt8) (at_ : Int) : stmsCnt (item src at_).body ≤ 8 * src.length := by
  have htl : (tokens src).length ≤ src.length := toks_len src
  rw [item]
  generalize hT : (⟨tokens src, src.length⟩ : Src) = T
  have hTl : T.l.length ≤ src.length := by rw [← hT]; exact htl
  dsimp only
  split
  · rename_i hfn
    have h0 := is_lt hfn
    dsimp only [fnItm]
    have h1 := (goes_named T ⟨1, []⟩).top (show 1 ≤ _ by omega)
    generalize (⟨1, []⟩ : St).named T = r at h1 ⊢
    have h2 := need_top [40] h1
    generalize (r.2.need T [40]).2 = s1 at h2 ⊢
    have h3 := ((parL_few T 6 [] s1 (by simp)).2 h2).2.1
    generalize parL T 6 [] s1 = r2 at h3 ⊢
    have h4 := need_top [41] h3
    generalize (r2.2.need T [41]).2 = s3 at h4 ⊢
    have h5 := need_top [58] h4
    generalize (s3.need T [58]).2 = s4 at h5 ⊢
    have h6 := (goes_lab T s4).top h5
    generalize lab T s4 = r5 at h6 ⊢
    generalize hr6 : (if T.is r5.2.i [115, 101, 110, 100, 115] = true then sndL T 6 [] r5.2.next else ([], r5.2)) = r6
    have h7 : r6.2.i ≤ T.l.length := by
      rw [← hr6]
      split
      · rename_i hs
        have := is_lt hs
        exact ((sndL_few T 6 [] r5.2.next (by simp)).2 (by rw [next_i]; omega)).2.1
      · exact h6
    have h8 := (cnt_block T (fuel T)).1 0 r6.2
    have h9 := ((goes_block T (fuel T)).1 0 r6.2).top h7
    omega
  · split
    · dsimp only [chItm]
      rw [stmsCnt]; omega
    · dsimp only
      rw [stmsCnt]; omega
end Go.Sp
end
section
namespace Go.Sp
abbrev PE := Nat → List UInt8 → Nat → Nat → Nat → Nat → Prop
abbrev PS := Nat → List UInt8 → Nat → Nat → Bool → Nat → Nat → Prop
mutual
def Ex.all (p : PE) : Ex → Prop
  | .mk k nm n args f t => p k nm n args.length f t ∧ exsAll p args
def exsAll (p : PE) : List Ex → Prop
  | [] => True
  | e :: es => e.all p ∧ exsAll p es
 end
mutual
def Stm.all (p : PE) (q : PS) : Stm → Prop
  | .mk k nm a lb o e thn els f t => q k nm a lb o f t ∧ e.all p ∧ stmsAll p q thn ∧ stmsAll p q els
def stmsAll (p : PE) (q : PS) : List Stm → Prop
  | [] => True
  | x :: xs => x.all p q ∧ stmsAll p q xs
 end
theorem exsAll_app {p : PE} : ∀ {l r : List Ex}, exsAll p l → exsAll p r → exsAll p (l ++ r)
  | [], r, _, h => h
  | e :: l, r, h, g => by
    rw [exsAll] at h
    rw [List.cons_append, exsAll]
    exact ⟨h.1, exsAll_app h.2 g⟩
theorem exsAll_one {p : PE} {e : Ex} (h : e.all p) : exsAll p [e] := by rw [exsAll, exsAll]; exact ⟨h, trivial⟩
theorem exsAll_nil {p : PE} : exsAll p [] := by rw [exsAll]; trivial
theorem stmsAll_nil {p : PE} {q : PS} : stmsAll p q [] := by rw [stmsAll]; trivial
theorem stmsAll_app {p : PE} {q : PS} : ∀ {l r : List Stm}, stmsAll p q l → stmsAll p q r → stmsAll p q (l ++ r)
  | [], r, _, h => h
  | e :: l, r, h, g => by
    rw [stmsAll] at h
    rw [List.cons_append, stmsAll]
    exact ⟨h.1, stmsAll_app h.2 g⟩
theorem stmsAll_one {p : PE} {q : PS} {e : Stm} (h : e.all p q) : stmsAll p q [e] := by rw [stmsAll, stmsAll]; exact ⟨h, trivial⟩
theorem exsAll_get {p : PE} : ∀ {l : List Ex} {i : Nat} {e : Ex}, exsAll p l → l[i]? = some e → e.all p
  | [], _, _, _, h => by simp at h
  | a :: l, 0, e, h, hg => by
    rw [exsAll] at h
    simp only [List.getElem?_cons_zero, Option.some.injEq] at hg
    subst hg; exact h.1
  | a :: l, i + 1, e, h, hg => by
    rw [exsAll] at h
    rw [List.getElem?_cons_succ] at hg
    exact exsAll_get h.2 hg
theorem stmsAll_get {p : PE} {q : PS} : ∀ {l : List Stm} {i : Nat} {e : Stm}, stmsAll p q l → l[i]? = some e → e.all p q
  | [], _, _, _, h => by simp at h
  | a :: l, 0, e, h, hg => by
    rw [stmsAll] at h
    simp only [List.getElem?_cons_zero, Option.some.injEq] at hg
    subst hg; exact h.1
  | a :: l, i + 1, e, h, hg => by
    rw [stmsAll] at h
    rw [List.getElem?_cons_succ] at hg
    exact stmsAll_get h.2 hg
theorem all_leaf {p : PE} {k n f t : Nat} {nm : List UInt8} (h : p k nm n 0 f t) : (Ex.mk k nm n [] f t).all p := by rw [Ex.all]; exact ⟨h, exsAll_nil⟩
theorem Ex.all_node {p : PE} {e : Ex} (h : e.all p) : p e.kind e.name e.n e.args.length e.fr e.to ∧ exsAll p e.args := by
  cases e; rw [Ex.all] at h; exact h
theorem Stm.all_node {p : PE} {q : PS} {e : Stm} (h : e.all p q) : q e.kind e.name e.at_ e.label e.opn e.fr e.to ∧ e.e.all p ∧ stmsAll p q e.thn ∧ stmsAll p q e.els := by
  cases e; rw [Stm.all] at h; exact h
mutual
theorem Ex.all_mono {p q : PE} (h : ∀ k nm n m f t, p k nm n m f t → q k nm n m f t) : ∀ (e : Ex), e.all p → e.all q
  | .mk k nm n args f t, ha => by rw [Ex.all] at ha ⊢; exact ⟨h _ _ _ _ _ _ ha.1, exsAll_mono h args ha.2⟩
theorem exsAll_mono {p q : PE} (h : ∀ k nm n m f t, p k nm n m f t → q k nm n m f t) : ∀ (l : List Ex), exsAll p l → exsAll q l
  | [], _ => exsAll_nil
  | e :: l, ha => by rw [exsAll] at ha ⊢; exact ⟨Ex.all_mono h e ha.1, exsAll_mono h l ha.2⟩
 end
mutual
theorem Stm.all_mono {p q : PE} {r s : PS} (h : ∀ k nm n m f t, p k nm n m f t → q k nm n m f t) (g : ∀ k nm a l o f t, r k nm a l o f t → s k nm a l o f t) : ∀ (e : Stm), e.all p r → e.all q s
  | .mk k nm a lb o e thn els f t, ha => by rw [Stm.all] at ha ⊢; exact ⟨g _ _ _ _ _ _ _ ha.1, Ex.all_mono h e ha.2.1, stmsAll_mono h g thn ha.2.2.1, stmsAll_mono h g els ha.2.2.2⟩
theorem stmsAll_mono {p q : PE} {r s : PS} (h : ∀ k nm n m f t, p k nm n m f t → q k nm n m f t) (g : ∀ k nm a l o f t, r k nm a l o f t → s k nm a l o f t) : ∀ (l : List Stm), stmsAll p r l → stmsAll q s l
  | [], _ => stmsAll_nil
  | e :: l, ha => by rw [stmsAll] at ha ⊢; exact ⟨Stm.all_mono h g e ha.1, stmsAll_mono h g l ha.2⟩
 end
/-- what is asked of expressions that are read. -/
structure AtE (T : Src) (p : PE) : Prop where
  zero : p 0 [] 0 0 0 0
  bad : ∀ i, p 5 [] 0 0 (T.tok i).pos (T.tok i).pos
  num : ∀ i n, n ≤ 1000000000 → (T.tok i).kind = 2 → p 1 [] n 0 (T.tok i).pos ((T.tok i).pos + (T.tok i).text.length)
  var : ∀ i, name (T.tok i).text = true → p 2 (T.tok i).text 0 0 (T.tok i).pos ((T.tok i).pos + (T.tok i).text.length)
  call : ∀ i j m, name (T.tok i).text = true → m ≤ 5 → p 4 (T.tok i).text 0 m (T.tok i).pos (T.endOf j)
  op : ∀ i k1 n1 v1 m1 f1 t1 k2 n2 v2 m2 f2 t2, tight (T.tok i).text ≠ 0 → p k1 n1 v1 m1 f1 t1 → p k2 n2 v2 m2 f2 t2 → p 3 (T.tok i).text 0 2 f1 (max t2 t1)
theorem all_expr {T : Src} {p : PE} (h : AtE T p) : ∀ f, (∀ d s, (atom T f d s).1.all p) ∧ (∀ d l s, l.length ≤ 5 → exsAll p l → (argL T f d l s).1.length ≤ 5 ∧ exsAll p (argL T f d l s).1) ∧
    (∀ d m s, (expr T f d m s).1.all p) ∧ (∀ d m e s, e.all p → (opL T f d m e s).1.all p)
  | 0 => ⟨fun _ _ => by rw [atom]; exact all_leaf h.zero, fun _ _ _ h1 h2 => by rw [argL]; exact ⟨h1, h2⟩, fun _ _ _ => by rw [expr]; exact all_leaf h.zero, fun _ _ _ _ h1 => by rw [opL]; exact h1⟩
  | f + 1 => by
    obtain ⟨hA, hL, hE, hO⟩ := all_expr h f
    refine ⟨fun d s => ?_, fun d l s h1 h2 => ?_, fun d m s => ?_, fun d m e s h1 => ?_⟩
    · rw [atom]
      dsimp only
      split
      · exact all_leaf (h.bad _)
      · split
        · exact all_leaf (h.bad _)
        · split
          · rename_i hk
            split
            · exact all_leaf (h.num _ 0 (by omega) hk)
            · exact all_leaf (h.num _ _ (by omega) hk)
          · split
            · exact hE _ _ _
            · split
              · exact all_leaf (h.bad _)
              · rename_i hn
                have hn' : name (T.tok s.i).text = true := by simpa using hn
                split
                · exact all_leaf (h.var _ hn')
                · obtain ⟨h1, h2⟩ := hL (d + 1) [] s.next.next (by simp) exsAll_nil
                  dsimp only
                  rw [Ex.all]
                  exact ⟨h.call _ _ _ hn' h1, h2⟩
    · rw [argL]
      split
      · exact ⟨h1, h2⟩
      · split
        · exact ⟨h1, h2⟩
        · have h3 := hE d 1 s
          have h4 : (l ++ [(expr T f d 1 s).1]).length ≤ 5 := by simp; omega
          have h5 := exsAll_app h2 (exsAll_one h3)
          dsimp only
          split
          · exact hL _ _ _ h4 h5
          · exact ⟨h4, h5⟩
    · rw [expr]
      try dsimp only
      exact hO _ _ _ _ (hA d s)
    · rw [opL]
      try dsimp only
      split
      · exact h1
      · rename_i ht
        refine hO _ _ _ _ ?_
        have h3 := hE d (tight (T.tok s.i).text + 1) s.next
        generalize (expr T f d (tight (T.tok s.i).text + 1) s.next).1 = r at h3 ⊢
        cases e with
        | mk k1 n1 v1 a1 f1 t1 =>
        cases r with
        | mk k2 n2 v2 a2 f2 t2 =>
        have g1 := h1
        have g3 := h3
        rw [Ex.all] at g1 g3
        rw [Ex.all]
        exact ⟨h.op _ _ _ _ _ _ _ _ _ _ _ _ _ (by omega) g1.1 g3.1, exsAll_app (exsAll_one h1) (exsAll_one h3)⟩
/-- what is asked of statements that are read. -/
structure AtS (T : Src) (q : PS) : Prop where
  zero : q 0 [] 0 0 false 0 0
  let_ : ∀ i (s : St) lb o j, lb ≤ 255 → q 1 (s.named T).1 (T.tok s.i).pos lb o (T.tok i).pos (max (T.endOf j) (T.tok i).pos)
  set : ∀ i j, name (T.tok i).text = true → q 2 (T.tok i).text (T.tok i).pos 0 false (T.tok i).pos (max (T.endOf j) (T.tok i).pos)
  plain : ∀ k i j, (k = 3 ∨ k = 4 ∨ k = 6 ∨ k = 7 ∨ k = 8) → q k [] 0 0 false (T.tok i).pos (max (T.endOf j) (T.tok i).pos)
  send : ∀ i (s : St) j, q 5 (s.named T).1 (T.tok s.i).pos 0 false (T.tok i).pos (max (T.endOf j) (T.tok i).pos)
theorem tag_lt (a : Nat) (ha : a < 256) (q : Nat) (hq : q < 8) (h : bit a q = false) : a + 2 ^ q < 256 := by
  have key : ∀ a < 256, ∀ q < 8, bit a q = false → a + 2 ^ q < 256 := by decide +kernel
  exact key a ha q hq h
theorem labL_lt (T : Src) : ∀ (f n : Nat) (s : St), n < 256 → (labL T f n s).1 < 256
  | 0, n, s, h => h
  | f + 1, n, s, h => by
    rw [labL]
    split
    · exact h
    · dsimp only
      split
      · exact h
      · rename_i h2
        generalize hqd : ((T.tok s.i).text.getD 0 0).toNat - 97 = q
        have hq : q < 8 := by
          simp only [tagB, Bool.not_eq_true, Bool.not_eq_false', Bool.and_eq_true, decide_eq_true_eq] at h2
          omega
        cases hb : bit n q with
        | true =>
          simp only [if_true]
          split
          · exact labL_lt T f _ _ h
          · split
            · exact labL_lt T f _ _ h
            · exact h
        | false =>
          have hn := tag_lt n h q hq hb
          simp only [Bool.false_eq_true, if_false]
          split
          · exact labL_lt T f _ _ hn
          · split
            · exact labL_lt T f _ _ hn
            · exact hn
theorem lab_lt (T : Src) (s : St) : (lab T s).1 < 256 := by
  rw [lab]
  split
  · exact labL_lt T _ _ _ (by decide)
  · dsimp only; omega
theorem all_block {T : Src} {p : PE} {q : PS} (h : AtE T p) (g : AtS T q) : ∀ f, (∀ d s, stmsAll p q (block T f d s).1) ∧ (∀ d l s, stmsAll p q l → stmsAll p q (stmL T f d l s).1) ∧ (∀ d s, (stm T f d s).1.all p q)
  | 0 => ⟨fun _ _ => by rw [block]; exact stmsAll_nil, fun _ _ _ h1 => by rw [stmL]; exact h1, fun _ s => by
      rw [stm]
      show (Stm.mk 0 [] 0 0 false (.mk 0 [] 0 [] 0 0) [] [] 0 0).all p q
      rw [Stm.all]; exact ⟨g.zero, all_leaf h.zero, stmsAll_nil, stmsAll_nil⟩⟩
  | f + 1 => by
    obtain ⟨hB, hL, hS⟩ := all_block h g f
    have hE := (all_expr h f).2.2.1
    refine ⟨fun d s => ?_, fun d l s h1 => ?_, fun d s => ?_⟩
    · rw [block]
      split
      · exact stmsAll_nil
      · split
        · exact stmsAll_nil
        · dsimp only
          exact hL _ _ _ stmsAll_nil
    · rw [stmL]
      split
      · exact h1
      · split
        · exact h1
        · dsimp only
          exact hL _ _ _ (stmsAll_app h1 (stmsAll_one (hS d s)))
    · rw [stm]
      dsimp only
      split
      · rw [Stm.all]
        refine ⟨g.let_ s.i s.next _ _ _ ?_, hE _ _ _, stmsAll_nil, stmsAll_nil⟩
        split
        · dsimp only; omega
        · exact Nat.le_of_lt_succ (lab_lt T _)
      · split
        · split
          · dsimp only; rw [Stm.all]; exact ⟨g.plain _ _ _ (.inl rfl), hE _ _ _, hB _ _, hB _ _⟩
          · dsimp only; rw [Stm.all]; exact ⟨g.plain _ _ _ (.inl rfl), hE _ _ _, hB _ _, stmsAll_nil⟩
        · split
          · rw [Stm.all]; exact ⟨g.plain _ _ _ (.inr (.inl rfl)), hE _ _ _, hB _ _, stmsAll_nil⟩
          · split
            · rw [Stm.all]; exact ⟨g.send s.i s.next _, hE _ _ _, stmsAll_nil, stmsAll_nil⟩
            · split
              · rw [Stm.all]; exact ⟨g.plain _ _ _ (.inr (.inr (.inl rfl))), hE _ _ _, stmsAll_nil, stmsAll_nil⟩
              · split
                · rename_i hn
                  split
                  · rw [Stm.all]; exact ⟨g.set _ _ hn, hE _ _ _, stmsAll_nil, stmsAll_nil⟩
                  · rw [Stm.all]; exact ⟨g.plain _ _ _ (.inr (.inr (.inr (.inl rfl)))), hE _ _ _, stmsAll_nil, stmsAll_nil⟩
                · rw [Stm.all]
                  refine ⟨g.plain _ _ _ (.inr (.inr (.inr (.inr rfl)))), ?_, stmsAll_nil, stmsAll_nil⟩
                  exact all_leaf h.zero
/-- parameters, and names, that are read. -/
theorem all_parL {T : Src} {r : Par → Prop} (h : ∀ (s : St) lb, lb ≤ 255 → r ⟨(s.named T).1, lb, (T.tok s.i).pos⟩) : ∀ (f : Nat) (l : List Par) (s : St), (∀ x ∈ l, r x) → ∀ x ∈ (parL T f l s).1, r x
  | 0, l, s, h1 => by rw [parL]; exact h1
  | f + 1, l, s, h1 => by
    rw [parL]
    split
    · exact h1
    · split
      · exact h1
      · dsimp only
        split
        · exact h1
        · have h2 : ∀ lb, lb ≤ 255 → ∀ x ∈ l ++ [⟨(s.named T).1, lb, (T.tok s.i).pos⟩], r x := fun lb hl x hx => by
            rcases List.mem_append.1 hx with hx | hx
            · exact h1 x hx
            · obtain rfl := List.mem_singleton.1 hx
              exact h s lb hl
          have h3 := fun s => Nat.le_of_lt_succ (lab_lt T s)
          split
          · exact all_parL h f _ _ (h2 _ (h3 _))
          · exact h2 _ (h3 _)
theorem all_sndL {T : Src} {r : Rf → Prop} (h : ∀ (s : St), r ⟨(s.named T).1, (T.tok s.i).pos⟩) : ∀ (f : Nat) (l : List Rf) (s : St), (∀ x ∈ l, r x) → ∀ x ∈ (sndL T f l s).1, r x
  | 0, l, s, h1 => by rw [sndL]; exact h1
  | f + 1, l, s, h1 => by
    rw [sndL]
    split
    · exact h1
    · dsimp only
      have h2 : ∀ x ∈ l ++ [⟨(s.named T).1, (T.tok s.i).pos⟩], r x := fun x hx => by
        rcases List.mem_append.1 hx with hx | hx
        · exact h1 x hx
        · obtain rfl := List.mem_singleton.1 hx
          exact h s
      split
      · exact all_sndL h f _ _ h2
      · exact h2
/-- what is asked of an item that is read. -/
structure ItAll (T : Src) (p : PE) (q : PS) (r : Par → Prop) (t : Rf → Prop) (it : Itm) : Prop where
  body : stmsAll p q it.body
  params : ∀ x ∈ it.params, r x
  sends : ∀ x ∈ it.sends, t x
  few : it.params.length ≤ 5 ∧ it.sends.length ≤ 5 ∧ it.body.length ≤ 40
  label : it.label ≤ 255
  kind : 1 ≤ it.kind ∧ it.kind ≤ 3
  mark : (it.name = [] ∧ ((∃ i, it.mark = (T.tok i).pos) ∨ it.mark = 0)) ∨ ∃ s : St, it.name = (s.named T).1 ∧ it.mark = (T.tok s.i).pos
  bad : it.kind = 3 → it.name = [] ∧ it.label = 0 ∧ it.params = [] ∧ it.sends = [] ∧ it.body = []
  chan : it.kind = 1 → it.params = [] ∧ it.sends = [] ∧ it.body = []
theorem item_all {src : List UInt8} {p : PE} {q : PS} {r : Par → Prop} {t : Rf → Prop} (at_ : Int) (h : AtE ⟨tokens src, src.length⟩ p) (g : AtS ⟨tokens src, src.length⟩ q)
    (hr : ∀ (s : St) lb, lb ≤ 255 → r ⟨(s.named ⟨tokens src, src.length⟩).1, lb, ((⟨tokens src, src.length⟩ : Src).tok s.i).pos⟩)
    (ht : ∀ (s : St), t ⟨(s.named ⟨tokens src, src.length⟩).1, ((⟨tokens src, src.length⟩ : Src).tok s.i).pos⟩) : ItAll ⟨tokens src, src.length⟩ p q r t (item src at_) := by
  rw [item]
  generalize (⟨tokens src, src.length⟩ : Src) = T at h g hr ht ⊢
  dsimp only
  split
  · dsimp only [fnItm]
    have h6 : ∀ (c : Bool) (y z : St), ∀ x ∈ (if c = true then sndL T 6 [] y else ([], z)).1, t x := fun c y z => by
      split
      · exact all_sndL ht _ _ _ (by simp)
      · simp
    have l6 : ∀ (c : Bool) (y z : St), (if c = true then sndL T 6 [] y else ([], z)).1.length ≤ 5 := fun c y z => by
      split
      · exact (sndL_few T 6 [] _ (by simp)).1
      · simp
    exact ⟨(all_block h g _).1 _ _, all_parL hr _ _ _ (by simp), h6 _ _ _, ⟨(parL_few T 6 [] _ (by simp)).1, l6 _ _ _, ((small_block T _).1 _ _).1⟩, Nat.le_of_lt_succ (lab_lt T _), ⟨by simp, by simp⟩, .inr ⟨⟨1, []⟩, rfl, rfl⟩, fun h => (by simp at h), fun h => (by simp at h)⟩
  · split
    · dsimp only [chItm]
      exact ⟨stmsAll_nil, by simp, by simp, ⟨by simp, by simp, by simp⟩, Nat.le_of_lt_succ (lab_lt T _), ⟨by simp, by simp⟩, .inr ⟨⟨1, []⟩, rfl, rfl⟩, fun h => (by simp at h), fun _ => ⟨rfl, rfl, rfl⟩⟩
    · dsimp only
      exact ⟨stmsAll_nil, by simp, by simp, ⟨by simp, by simp, by simp⟩, by simp, ⟨by simp, by simp⟩, .inl ⟨rfl, .inr rfl⟩, fun _ => ⟨rfl, rfl, rfl, rfl, rfl⟩, fun h => (by simp at h)⟩
def labS : PS := fun _ _ _ l _ _ _ => l < 256
def anyP : PE := fun _ _ _ _ _ _ => True
def twoP : PE := fun k _ _ m _ _ => k = 3 → m = 2
end Go.Sp
end
section
namespace Go.Sp
inductive Runs (T : Src) : St → St → Prop where
  | refl (s : St) : Runs T s s
  | bad {s r : St} (e : Nat) : Runs T s r → Runs T s (r.bad T e)
  | next {s r : St} : Runs T s r → Runs T s r.next
theorem Runs.trans {T : Src} {s r q : St} (h : Runs T s r) (g : Runs T r q) : Runs T s q := by
  induction g with
  | refl => exact h
  | bad e _ ih => exact .bad e ih
  | next _ ih => exact .next ih
theorem Runs.on {T : Src} {s r : St} (h : Runs T s r) : s.i ≤ r.i := by
  induction h with
  | refl => exact Nat.le_refl _
  | bad e _ ih => exact ih
  | next _ ih => exact Nat.le_succ_of_le ih
end Go.Sp
end
section
namespace Go.Sp
/-- what each item of a file is like. -/
structure ItIn (s : List UInt8) (k : Nat) (it : Itm) : Prop where
  at0 : 0 ≤ it.at_
  size : 1 ≤ it.size
  top : it.at_ + it.size ≤ s.length
  ends : it.at_ + it.size = (match (fileItems s)[k + 1]? with | some j => j.at_ | none => (s.length : Int))
  diags : ∀ d ∈ it.diags, d.fr ≤ d.to ∧ d.to ≤ it.size
  small : it.small
  len : s.length ≤ 4000
end Go.Sp
end
section
namespace Go.Sp
def itIs (k : Int) (n : List UInt8) (it : Itm) : Bool := decide ((it.kind : Int) = k) && (decide (it.name = n) && decide (n ≠ []))
/-- the first item of a kind and a name. -/
def findIt (its : List Itm) (k : Int) (n : List UInt8) : Option Nat := its.findIdx? (itIs k n)
/-- a local: its name, where it is made. -/
structure Lc where
  name : List UInt8
  at_ : Nat
/-- a use of a name. -/
structure Us where
  fr : Int
  to : Int
  df : Int
  deriving DecidableEq
structure NW where
  ds : List Dg
  us : List Us
/-- the local that was made last. -/
def findLc : List Lc → List UInt8 → Option Lc
  | [], _ => none
  | l :: sc, n => match findLc sc n with
    | some x => some x
    | none => if l.name = n then some l else none
def zeroIt : Itm := ⟨0, [], 0, [], [], [], 0, 0, 0, []⟩
def itNo (its : List Itm) (j : Nat) : Itm := its.getD j zeroIt
theorem take_succ_get {α : Type} {l : List α} {k : Nat} {x : α} (h : l[k]? = some x) : l.take (k + 1) = l.take k ++ [x] := by rw [List.take_add_one, h]; rfl
theorem findLc_mem {n : List UInt8} {x : Lc} : ∀ {l : List Lc}, findLc l n = some x → x ∈ l ∧ x.name = n
  | [], h => by cases h
  | a :: l, h => by
    rw [findLc] at h
    split at h
    · rename_i y hy
      obtain rfl := Option.some.inj h
      have := findLc_mem hy
      exact ⟨List.mem_cons_of_mem _ this.1, this.2⟩
    · split at h
      · rename_i hn
        obtain rfl := Option.some.inj h
        exact ⟨List.mem_cons_self, hn⟩
      · cases h
/-! how much is told -/
def NW.n (s : NW) : Nat := s.ds.length + s.us.length
theorem Ex.cnt_eq (e : Ex) : e.cnt = exsCnt e.args + 1 := by cases e; rw [Ex.cnt]; rfl
theorem Stm.cnt_eq (x : Stm) : x.cnt = x.e.cnt + stmsCnt x.thn + stmsCnt x.els + 1 := by cases x; rw [Stm.cnt]; rfl
theorem stmsCnt_take_le {l : List Stm} {k : Nat} {y : Stm} (h : l[k]? = some y) : stmsCnt (l.take k) + y.cnt ≤ stmsCnt l := by
  have e : l = l.take (k + 1) ++ l.drop (k + 1) := (List.take_append_drop _ _).symm
  have h2 := congrArg stmsCnt e
  rw [stmsCnt_app, take_succ_get h, stmsCnt_app, stmsCnt_one] at h2
  omega
theorem stmsAll_take {p : PE} {q : PS} : ∀ {l : List Stm} (k : Nat), stmsAll p q l → stmsAll p q (l.take k)
  | [], k, h => by rw [List.take_nil]; exact h
  | x :: l, 0, h => by rw [List.take_zero]; exact stmsAll_nil
  | x :: l, k + 1, h => by
    rw [stmsAll] at h
    rw [List.take_succ_cons, stmsAll]
    exact ⟨h.1, stmsAll_take k h.2⟩
end Go.Sp
end
section
namespace Go.Sp
def idxV (F : Itm → Bool) (its : List Itm) : Int := match its.findIdx? F with
  | some j => (j : Int)
  | none => -1
def findV (its : List Itm) (k : Int) (n : List UInt8) : Int := match findIt its k n with
  | some j => (j : Int)
  | none => -1
theorem idxV_at {F : Itm → Bool} {its : List Itm} {k : Nat} {it : Itm} (h : its[k]? = some it) (hF : F it = true) (hb : ∀ j it', j < k → its[j]? = some it' → F it' = false) : idxV F its = k := by
  have : its.findIdx? F = some k := by
    rw [List.findIdx?_eq_some_iff_getElem]
    obtain ⟨hk, e⟩ := List.getElem?_eq_some_iff.1 h
    refine ⟨hk, by rw [e]; exact hF, fun j hj => ?_⟩
    have := hb j its[j] hj (List.getElem?_eq_getElem (by omega))
    rw [this]; simp
  rw [idxV, this]
theorem idxV_none {F : Itm → Bool} {its : List Itm} (hb : ∀ j it', j < its.length → its[j]? = some it' → F it' = false) : idxV F its = -1 := by
  have : its.findIdx? F = none := by
    rw [List.findIdx?_eq_none_iff]
    intro x hx
    obtain ⟨j, hj, rfl⟩ := List.getElem_of_mem hx
    exact hb j _ hj (List.getElem?_eq_getElem hj)
  rw [idxV, this]
end Go.Sp
namespace Go.Fw
open Go
section
variable {P : Program} {N : Nat} {ds : List Deferred} {Q : Exit → Act → World → Prop} {l : Log} {w : World} {ops : Array Oper} {os : List Oper}
variable {d : Nat} {ty : TypeId} {pos : String} {af : Array Edge} {g : Option (Nat × Bool)} {t : TypeId} {x y : Operand} {E : Ent} {I : Imm} {H R G : List HItem}
/-- a call of what is a value. -/
theorem m_callv {c : Operand} {f : FuncId} [Own P f] {xs : List Operand} {tys : Array TypeId} {vs ca : List Value} {Post : Value → Imm → List HItem → Prop} (hm : Mem E I G w)
    (hw : want ops l ⟨some d, .call ⟨.value c, xs.toArray, tys⟩, ty, pos, af, g⟩ = some true := by rfl) (hN : Nat.blt d N = true := by rfl)
    (hf : ev l c = some (.func (.func f) #[] ca.toArray) := by rfl) (hx : evs l xs = some vs := by rfl) (hp : G.Perm (H ++ R)) (hc : CalM P f (vs ++ ca).toArray I H Post)
    (k : ∀ v I' H' w', Post v I' H' → Le I I' → Mem E I' (H' ++ R) w' → WL P N ds ops Q os ((d, v) :: l) w') :
    WL P N ds ops Q (⟨some d, .call ⟨.value c, xs.toArray, tys⟩, ty, pos, af, g⟩ :: os) l w :=
  op_callv hw hN hf hx (hc.run w (hm.perm hp).sub) (fun v w' ⟨I', H', h1, h2⟩ => k v I' H' w' h1 h2.le ((hm.perm hp).back h2))
/-- a part of what does not turn. -/
theorem PtrI.sub {b off ty : Nat} {cs cs' : List Value} (h : PtrI I b off ty cs) (k : Nat) (hs : ∀ j u, cs'[j]? = some u → cs[k + j]? = some u) : PtrI I b (off + k) ty cs' := by
  obtain ⟨c, fr, h1, h2⟩ := h
  exact ⟨c, fr, h1, fun j u hj => by rw [Nat.add_assoc]; exact h2 _ _ (hs j u hj)⟩
end
end Go.Fw
namespace Go.Proofs.Ytjfkjpbkmpofkaa
open Go.Fw
structure NI where
  k : Nat
  I : Imm
/-- a file's items. -/
structure FE (I : Imm) (its : List Sp.Itm) (a : Option Addr) (cp : Nat) (xs : List Value) : Prop where
  row : RowI I 38 10 (.slice a its.length cp) its.length xs
  ats : ItsAt I its xs
  few : its.length ≤ 64
theorem fe_of {I : Imm} {its : List Sp.Itm} {a : Option Addr} {cp : Nat} {xs : List Value} (h1 : RowI I 38 10 (.slice a its.length cp) its.length xs) (h2 : ItsAt I its xs) (h3 : its.length ≤ 30) : FE I its a cp xs := ⟨h1, h2, by omega⟩
theorem FE.le {I I' : Imm} {its : List Sp.Itm} {a : Option Addr} {cp : Nat} {xs : List Value} (h : FE I its a cp xs) (m : Le I I') : FE I' its a cp xs := ⟨h.row.le m, h.ats.le m, h.few⟩
theorem FE.get {I : Imm} {its : List Sp.Itm} {a : Option Addr} {cp : Nat} {xs : List Value} (h : FE I its a cp xs) {k : Nat} {it : Sp.Itm} (hg : its[k]? = some it) : ∃ cs, (xs.drop (k * 10)).take 10 = cs ∧ ItAt I it cs ∧ cs.length = 10 :=
  ⟨_, rfl, h.ats.get hg, (h.ats.get hg).len⟩
theorem n_findC (I : Imm) (k : Int) (n : List UInt8) (bk bn : Nat) (hk : PtrI I bk 0 3 [.int .i64 k]) (hn : PtrI I bn 0 9 [str n]) (it : Sp.Itm) (cs : List Value) (hi : ItAt I it cs) :
    CalM Try.prog 54 #[.agg cs.toArray, ptr bk, ptr bn] I [] (fun v _ H' => v = .bool (Sp.itIs k n it) ∧ H' = []) := by
  obtain ⟨ap, cp, as_, cs', ab, cb, ad, cd, xb, rfl, r1, r2, r3, r4, r5⟩ := hi
  refine CalM.of fun w E hm => enter (N := 19) Try.func54 rfl [(0, .agg (itCells it.kind it.name it.label (.slice ap it.params.length cp) (.slice as_ it.sends.length cs') (.slice ab it.body.length cb) it.at_ it.size it.mark (.slice ad it.diags.length cd)).toArray), (1, ptr bk), (2, ptr bn)] args3 rfl ?_
  repeat' (first
  | (refine m_box (d:=3) hm (k:=?_); clear hm; intro b3 _ hm)
  | refine m_load1 hm (k:=?_)
  | refine i_load1z hm (k:=?_)
  | refine op_move (k:=?_)
  | refine op_assign (k:=?_)
  | refine op_pick_true (k:=?_)
  | refine op_pick_false (k:=?_)
  | refine op_eql (k:=?_)
  | refine op_eql_str (k:=?_)
  | refine op_neq_str (k:=?_)
  | refine op_fieldAddr (k:=?_)
  | refine wl_skip (k:=?_)
  | (refine wl_split_dec (h1:=fun _ => ?_) (h0:=fun _ => ?_)<;> (try first | contradiction | (exfalso; omega)))
  | refine wl_nil ?_
  | refine at_then_normal ?_
  | refine wc_seq ?_
  | refine wc_region ?_
  | refine wc_ret ?_
  | refine at_ret1 (h:=?_))
  all_goals (refine ⟨I, [], ⟨congrArg Value.bool ?_, rfl⟩, hm.left (H := [])⟩; simp_all [Sp.itIs])
set_option maxHeartbeats 4000000 in
theorem n_index (fi : FuncId) [Own Try.prog fi] (ca : List Value) (F : Sp.Itm → Bool) (its : List Sp.Itm) (I : Imm) (a : Option Addr) (cp : Nat) (xs : List Value) (h : FE I its a cp xs)
    (hF : ∀ I', Le I I' → ∀ it cs, ItAt I' it cs → CalM Try.prog fi (.agg cs.toArray :: ca).toArray I' [] (fun v _ H' => v = .bool (F it) ∧ H' = [])) :
    CalM Try.prog 53 #[.slice a its.length cp, .func (.func fi) #[] ca.toArray] I [] (fun v _ H' => v = .int .i64 (Sp.idxV F its) ∧ H' = []) := by
  refine CalM.of fun w E hm => enter (N := 19) Try.func53 rfl [(0, .slice a its.length cp), (1, .func (.func fi) #[] ca.toArray)] args2 rfl ?_
  have hfew := h.few
  repeat' (first
  | refine op_move (k:=?_)
  | refine op_assign (k:=?_)
  | refine op_len_slice (k:=?_)
  | refine wl_nil ?_
  | refine at_then_normal ?_
  | refine wc_seq ?_
  | refine wc_region ?_
  | refine wc_block ?_)
  refine wc_loop (fun x : NI => [(0, .slice a its.length cp), (1, .func (.func fi) #[] ca.toArray), (7, nt its.length), (8, nt x.k)])
    (fun x w' => Mem E x.I [] w' ∧ Le I x.I ∧ x.k ≤ its.length ∧ ∀ j it', j < x.k → its[j]? = some it' → F it' = false) (fun x => its.length - x.k) ⟨0, I⟩ (by exact ⟨rfl, rfl, rfl, rfl, trivial⟩) ⟨hm, Le.refl _, Nat.zero_le _, fun j _ hj => absurd hj (Nat.not_lt_zero j)⟩ ?_
  clear hm
  rintro ⟨k, I1⟩ w1 ⟨hm, hle1, hk, hno⟩
  dsimp only at hm hle1 hk hno ⊢
  by_cases hlt : k < its.length
  · have hg : its[k]? = some its[k] := List.getElem?_eq_getElem hlt
    obtain ⟨cs, hcs, hat, hl10⟩ := (h.le hle1).get hg
    have hri := (h.le hle1).row
    have hc := hF I1 hle1 _ cs hat
    generalize its[k] = it at hg hat hc
    cases hb : F it with
    | true =>
      rw [hb] at hc
      repeat' (first
      | (refine i_indexAddr (d:=14) (hr:=hri) (k:=?_); intro bt ot hpt; rw [show ((k : Int).toNat * 10) = k * 10 from rfl, hcs] at hpt)
      | (refine i_loadN (d:=15) hm (hp:=hpt) (hc:=by exact hl10) (k:=?_))
      | (refine m_callv (d:=16) hm (hp:=pm0) (hc:=by exact hc) (k:=?_); clear hm; rintro _ I2 _ _ ⟨rfl, rfl⟩ hle hm)
      | refine op_move (k:=?_)
      | refine op_assign (k:=?_)
      | refine op_lss (k:=?_)
      | refine wl_nil ?_
      | refine at_then_normal ?_
      | refine at_then_ret ?_
      | refine at_block_ret ?_
      | refine wc_seq ?_
      | refine wc_region ?_
      | refine wc_block ?_
      | refine wc_skip ?_
      | refine wc_ret ?_
      | refine at_ret1 (h:=?_)
      | refine wc_cond_true (ht:=?_)
      | (refine wc_cond_dec (ht:=fun _ => ?_) (hf:=fun _ => ?_)<;> (try first | contradiction | (exfalso; omega))))
      all_goals try (exfalso; omega)
      exact ⟨I2, [], ⟨by rw [Sp.idxV_at hg hb hno], rfl⟩, hm.left (H := [])⟩
    | false =>
      rw [hb] at hc
      repeat' (first
      | (refine i_indexAddr (d:=14) (hr:=hri) (k:=?_); intro bt ot hpt; rw [show ((k : Int).toNat * 10) = k * 10 from rfl, hcs] at hpt)
      | (refine i_loadN (d:=15) hm (hp:=hpt) (hc:=by exact hl10) (k:=?_))
      | (refine m_callv (d:=16) hm (hp:=pm0) (hc:=by exact hc) (k:=?_); clear hm; rintro _ I2 _ _ ⟨rfl, rfl⟩ hle hm)
      | refine op_move (k:=?_)
      | refine op_assign (k:=?_)
      | refine op_lss (k:=?_)
      | refine op_add (k:=?_)
      | refine wl_nil ?_
      | refine at_then_normal ?_
      | refine at_block_normal ?_
      | refine wc_seq ?_
      | refine wc_region ?_
      | refine wc_block ?_
      | refine wc_skip ?_
      | refine wc_cond_false (hf:=?_)
      | (refine wc_cond_dec (ht:=fun _ => ?_) (hf:=fun _ => ?_)<;> (try first | contradiction | (exfalso; omega))))
      all_goals try (exfalso; omega)
      refine at_round (⟨k + 1, I2⟩ : NI) (by exact ⟨rfl, rfl, rfl, rfl, trivial⟩) ⟨hm.left (H := []), hle1.trans hle, by dsimp only; omega, fun j it' hj hg' => ?_⟩ (by dsimp only; omega)
      rcases Nat.lt_or_ge j k with hjk | hjk
      · exact hno j it' hjk hg'
      · obtain rfl : j = k := by dsimp only at hj; omega
        rw [hg] at hg'
        obtain rfl := Option.some.inj hg'
        exact hb
  · obtain rfl : k = its.length := by omega
    repeat' (first
    | refine op_assign (k:=?_)
    | refine op_lss (k:=?_)
    | refine wl_nil ?_
    | refine at_then_normal ?_
    | refine at_then_exit ?_
    | refine at_block_exit ?_
    | refine wc_seq ?_
    | refine wc_region ?_
    | refine wc_exit ?_
    | refine wc_ret ?_
    | refine at_ret1 (h:=?_)
    | (refine wc_cond_dec (ht:=fun _ => ?_) (hf:=fun _ => ?_)<;> (try first | contradiction | (exfalso; omega))))
    all_goals try (exfalso; omega)
    exact ⟨I1, [], ⟨by rw [Sp.idxV_none hno], rfl⟩, hm.left (H := [])⟩
theorem n_find (k : Int) (n : List UInt8) (its : List Sp.Itm) (I : Imm) (a : Option Addr) (cp : Nat) (xs : List Value) (h : FE I its a cp xs) :
    CalM Try.prog 25 #[.agg [.slice a its.length cp].toArray, .int .i64 k, str n] I [] (fun v _ H' => v = .int .i64 (Sp.findV its k n) ∧ H' = []) := by
  refine CalM.of fun w E hm => enter (N := 11) Try.func25 rfl [(0, .agg [.slice a its.length cp].toArray), (1, .int .i64 k), (2, str n)] args3 rfl ?_
  repeat' (first
  | (refine m_box (d:=3) hm (k:=?_); clear hm; intro b3 _ hm)
  | (refine m_box (d:=4) hm (k:=?_); clear hm; intro b4 _ hm)
  | (refine m_box (d:=5) hm (k:=?_); clear hm; intro b5 _ hm)
  | refine m_load1 hm (k:=?_)
  | refine op_assign (k:=?_)
  | refine op_makeFunc (k:=?_)
  | refine op_fieldAddr (k:=?_)
  | refine wl_nil ?_
  | refine at_then_normal ?_
  | refine wc_seq ?_
  | refine wc_region ?_)
  obtain ⟨I2, hle2, hm2, hpn⟩ := hm.freezeO
  obtain ⟨I3, hle3, hm3, hpk⟩ := hm2.freezeO
  clear hm hm2
  have hm := hm3
  clear hm3
  have hc := n_index 54 [ptr b4, ptr b5] (Sp.itIs k n) its I3 a cp xs ((h.le hle2).le hle3) (fun I' m it cs hi => n_findC I' k n b4 b5 (hpk.le m) ((hpn.le hle3).le m) it cs hi)
  repeat' (first
  | (refine m_call (d:=10) hm (hc:=hc) (k:=?_); clear hm; rintro _ I4 _ _ ⟨rfl, rfl⟩ hle hm; have hleI4 := hle; try simp only [setn] at hm)
  | refine op_assign (k:=?_)
  | refine wl_nil ?_
  | refine at_then_normal ?_
  | refine wc_ret ?_
  | refine at_ret1 (h:=?_))
  exact ⟨I4, [], ⟨rfl, rfl⟩, hm.left (H := [])⟩
end Go.Proofs.Ytjfkjpbkmpofkaa
end
section
namespace Go.Fw
open Go
def mput (es : Ents) (s : List UInt8) (v : Value) : Ents := match es.findIdx? (fun p => decide (p.1 = s)) with
  | some i => es.set i (s, v)
  | none => es ++ [(s, v)]
theorem ents_modify (es : Ents) (i : Nat) (s : List UInt8) (v : Value) : (entsOf es 0).toArray.modify i (fun e => { e with key := str s, val := v }) = (entsOf (es.set i (s, v)) 0).toArray := by
  apply Array.ext_getElem?
  intro j
  rw [Array.getElem?_modify]
  simp only [entsOf, List.getElem?_toArray, List.getElem?_map, List.getElem?_zipIdx, List.getElem?_set]
  by_cases h : i = j
  · subst h
    rw [if_pos rfl, if_pos rfl]
    by_cases h2 : i < es.length
    · rw [if_pos h2, List.getElem?_eq_getElem h2]; rfl
    · rw [if_neg h2, List.getElem?_eq_none (by omega)]; rfl
  · rw [if_neg h, if_neg h]
theorem mput_nodup {es : Ents} {s : List UInt8} {v : Value} (h : (es.map (·.1)).Nodup) : ((mput es s v).map (·.1)).Nodup := by
  rw [mput]
  cases hf : es.findIdx? (fun p => decide (p.1 = s)) with
  | some i =>
    obtain ⟨hi, hs, _⟩ := List.findIdx?_eq_some_iff_getElem.1 hf
    have hs' : es[i].1 = s := by simpa using hs
    have : (es.set i (s, v)).map (·.1) = es.map (·.1) := by
      apply List.ext_getElem?
      intro j
      simp only [List.getElem?_map, List.getElem?_set]
      split
      · rename_i h
        subst h
        rw [List.getElem?_eq_getElem hi]
        simp [hs']
      · rfl
    dsimp only
    rw [this]
    exact h
  | none =>
    dsimp only
    rw [List.map_append, List.nodup_append]
    refine ⟨h, by simp, fun a h1 b h2 => ?_⟩
    simp only [List.map_cons, List.map_nil, List.mem_singleton] at h2
    subst h2
    rintro rfl
    obtain ⟨p, hp, hps⟩ := List.mem_map.1 h1
    have := List.findIdx?_eq_none_iff.1 hf p hp
    simp [hps] at this
section
variable {P : Program} {N : Nat} {ds : List Deferred} {Q : Exit → Act → World → Prop} {l : Log} {w : World} {ops : Array Oper} {os : List Oper}
variable {d : Nat} {ty : TypeId} {pos : String} {af : Array Edge} {g : Option (Nat × Bool)} {t t' : TypeId} {x y z : Operand} {E : Ent} {I : Imm} {H : List HItem}
theorem m_put {kt et : TypeId} [TyMap P t kt et] [TyStr P kt] {i b : Nat} {es : Ents} {s : List UInt8} {v : Value} {dst : Option Nat} (hm : Mem E I H w) (hd : dst = none) (hw : want ops l ⟨dst, .insert t x y z, ty, pos, af, g⟩ = some true)
    (hx : ev l x = some (.map (some b))) (hy : ev l y = some (str s)) (hz : ev l z = some v) (hi : H[i]? = some (.mp b es)) (hn : (es.map (·.1)).Nodup)
    (k : ∀ w', Mem E I (H.set i (.mp b (mput es s v))) w' → WL P N ds ops Q os l w') :
    WL P N ds ops Q (⟨dst, .insert t x y z, ty, pos, af, g⟩ :: os) l w := by
  cases hf : es.findIdx? (fun p => decide (p.1 = s)) with
  | none =>
    have hs : (es.map (·.1)).contains s = false := by
      rw [← Bool.not_eq_true, List.contains_iff_mem]
      intro h1
      obtain ⟨p, hp, hps⟩ := List.mem_map.1 h1
      have := List.findIdx?_eq_none_iff.1 hf p hp
      simp [hps] at this
    have e : mput es s v = es ++ [(s, v)] := by rw [mput, hf]
    rw [e] at k
    exact m_insertNew hm hd hw hx hy hz hi hn hs k
  | some j =>
    obtain ⟨hj, hsj, _⟩ := List.findIdx?_eq_some_iff_getElem.1 hf
    have hsj' : es[j].1 = s := by simpa using hsj
    have e : mput es s v = es.set j (s, v) := by rw [mput, hf]
    rw [e] at k
    have hget := hm.get hi
    subst hd
    refine wl_op hw fun a ha => ?_
    have h1 := run_underlying (P := P) (w := w) (TyMap.out (P := P) (t := t))
    have hk := TyStr.out (P := P) (t := kt)
    have h2 := run_findKey (P := P) (w := w) hk s es 0
    have h3 := run_checkKey (P := P) (w := w) hk s false
    have h4 := MapKept.run_getObj_map (P := P) hget
    rw [hf] at h2
    have hg : es[j]? = some es[j] := List.getElem?_eq_getElem hj
    simp only [Option.bind_some, hg, Option.map_some, Nat.zero_add] at h2
    have h5 := fun o' => MapKept.run_setObj_map (P := P) o' hget
    have hkey : (entsOf es 0).toArray[j]? = some { key := str s, val := es[j].2, born := j } := by
      simp [entsOf, List.getElem?_zipIdx, hg, hsj']
    have h6 : (Instr.keyThatStays (str s) (str s)).run P w = .ok (str s) w := by
      have : Instr.sameBits 10000 (str s) (str s) = true := (MapKept.bytes_beq _ _).2 rfl
      simp [Instr.keyThatStays, this]
    have hb := lt_of_heap hget
    have hkept : Kept [b] w { w with heap := w.heap.setIfInBounds b (.map ((entsOf es 0).toArray.modify j (fun e => { e with key := str s, val := v })) es.length) } :=
      ⟨rfl, rfl, rfl, by simp, fun i hi hx => by
        have : b ≠ i := by rintro rfl; simp at hx
        simp [Array.getElem?_setIfInBounds_ne this]⟩
    have hm' := hm.turn (h' := .mp b (es.set j (s, v))) hi (by simpa [HItem.blk] using hkept) (by
      show HItem.ok _ _
      have e2 := ents_modify es j s v
      simp only [HItem.ok, ← e2, List.length_set]
      simp [hb]) (.inl rfl)
    have h7 := (k _ hm').run _ ha
    simp only [Oper.wp, execOp, Instr.mapUpdate, ha.ev hx, ha.ev hy, ha.ev hz, Sem.run_bind, h1, Result.andThen_ok, h4, h3, h2, hkey, Option.map_some, Option.getD_some, h6, h5, Oper.upon_skip, Act.put, Sem.run_pure]
    simpa only [List.modify_toArray] using h7
theorem wl_mapUpdate {dst : Option Nat} (h : WL P N ds ops Q (⟨dst, .insert t x y z, ty, pos, af, g⟩ :: os) l w) : WL P N ds ops Q (⟨dst, .mapUpdate t x y z, ty, pos, af, g⟩ :: os) l w := ⟨fun a ha => h.run a ha⟩
end
end Go.Fw
end
