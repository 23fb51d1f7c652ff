/- Own work: texts SpecSmall, SpecCnt, SpecAll, SpecRuns, SpecChange, SpecNames, NmZ, FwCut, FwCut2, FwRow2, one behind the other. -/
import Derived.Test.YtghommdgmglmdaaDoorEl12
section
namespace Go.Sp
mutual
def Ex.small : Ex → Prop
  | .mk _ _ _ args _ _ => args.length ≤ 64 ∧ exsSmall args
def exsSmall : List Ex → Prop
  | [] => True
  | e :: es => e.small ∧ exsSmall es
 end
mutual
def Stm.small : Stm → Prop
  | .mk _ _ _ _ _ e thn els _ _ => e.small ∧ thn.length ≤ 64 ∧ stmsSmall thn ∧ els.length ≤ 64 ∧ stmsSmall els
def stmsSmall : List Stm → Prop
  | [] => True
  | e :: es => e.small ∧ stmsSmall es
 end
theorem exsSmall_snoc : ∀ {l : List Ex} {e : Ex}, exsSmall l → e.small → exsSmall (l ++ [e])
  | [], e, _, h => by rw [List.nil_append, exsSmall, exsSmall]; exact ⟨h, trivial⟩
  | a :: l, e, h, he => by
    rw [exsSmall] at h
    rw [List.cons_append, exsSmall]
    exact ⟨h.1, exsSmall_snoc h.2 he⟩
theorem stmsSmall_snoc : ∀ {l : List Stm} {e : Stm}, stmsSmall l → e.small → stmsSmall (l ++ [e])
  | [], e, _, h => by rw [List.nil_append, stmsSmall, stmsSmall]; exact ⟨h, trivial⟩
  | a :: l, e, h, he => by
    rw [stmsSmall] at h
    rw [List.cons_append, stmsSmall]
    exact ⟨h.1, stmsSmall_snoc h.2 he⟩
theorem exsSmall_get : ∀ {l : List Ex} {i : Nat} {e : Ex}, exsSmall l → l[i]? = some e → e.small
  | [], _, _, _, h => by simp at h
  | a :: l, 0, e, h, he => by
    rw [exsSmall] at h
    simp only [List.getElem?_cons_zero, Option.some.injEq] at he
    exact he ▸ h.1
  | a :: l, i + 1, e, h, he => by
    rw [exsSmall] at h
    exact exsSmall_get h.2 (by simpa using he)
theorem stmsSmall_get : ∀ {l : List Stm} {i : Nat} {e : Stm}, stmsSmall l → l[i]? = some e → e.small
  | [], _, _, _, h => by simp at h
  | a :: l, 0, e, h, he => by
    rw [stmsSmall] at h
    simp only [List.getElem?_cons_zero, Option.some.injEq] at he
    exact he ▸ h.1
  | a :: l, i + 1, e, h, he => by
    rw [stmsSmall] at h
    exact stmsSmall_get h.2 (by simpa using he)
theorem leaf_small (k n f t : Nat) (nm : List UInt8) : (Ex.mk k nm n [] f t).small := by rw [Ex.small, exsSmall]; exact ⟨by simp, trivial⟩
theorem small_expr (T : Src) : ∀ f, (∀ d s, (atom T f d s).1.small) ∧ (∀ d l s, l.length ≤ 5 → exsSmall l → (argL T f d l s).1.length ≤ 5 ∧ exsSmall (argL T f d l s).1) ∧ (∀ d m s, (expr T f d m s).1.small) ∧ (∀ d m e s, Ex.small e → (opL T f d m e s).1.small)
  | 0 => ⟨fun _ _ => by rw [atom]; exact leaf_small _ _ _ _ _, fun _ _ _ h1 h2 => by rw [argL]; exact ⟨h1, h2⟩, fun _ _ _ => by rw [expr]; exact leaf_small _ _ _ _ _, fun _ _ _ _ h => by rw [opL]; exact h⟩
  | f + 1 => by
    obtain ⟨hA, hL, hE, hO⟩ := small_expr T f
    refine ⟨fun d s => ?_, fun d l s h1 h2 => ?_, fun d m s => ?_, fun d m e s h => ?_⟩
    · rw [atom]
      dsimp only
      split
      · exact leaf_small _ _ _ _ _
      · split
        · exact leaf_small _ _ _ _ _
        · split
          · split <;> exact leaf_small _ _ _ _ _
          · split
            · exact hE _ _ _
            · split
              · exact leaf_small _ _ _ _ _
              · split
                · exact leaf_small _ _ _ _ _
                · have := hL (d + 1) [] s.next.next (by simp) (by rw [exsSmall]; trivial)
                  rw [Ex.small]
                  exact ⟨by omega, this.2⟩
    · rw [argL]
      split
      · exact ⟨h1, h2⟩
      · split
        · exact ⟨h1, h2⟩
        · rename_i h5
          have hs := exsSmall_snoc h2 (hE d 1 s)
          have hl : (l ++ [(expr T f d 1 s).1]).length ≤ 5 := by simp; omega
          try dsimp only
          split
          · exact hL _ _ _ hl hs
          · exact ⟨hl, hs⟩
    · rw [expr]
      try dsimp only
      exact hO _ _ _ _ (hA _ _)
    · rw [opL]
      try dsimp only
      split
      · exact h
      · refine hO _ _ _ _ ?_
        rw [Ex.small, exsSmall, exsSmall, exsSmall]
        exact ⟨by simp, h, hE _ _ _, trivial⟩
theorem stmsSmall_nil : stmsSmall [] := by rw [stmsSmall]; trivial
theorem simple_small (k a lb f t : Nat) (o : Bool) (nm : List UInt8) (e : Ex) (h : e.small) : (Stm.mk k nm a lb o e [] [] f t).small := by
  rw [Stm.small]; exact ⟨h, by simp, stmsSmall_nil, by simp, stmsSmall_nil⟩
theorem small_block (T : Src) : ∀ f, (∀ d s, (block T f d s).1.length ≤ 40 ∧ stmsSmall (block T f d s).1) ∧ (∀ d l s, l.length ≤ 40 → stmsSmall l → (stmL T f d l s).1.length ≤ 40 ∧ stmsSmall (stmL T f d l s).1) ∧ (∀ d s, (stm T f d s).1.small)
  | 0 => ⟨fun _ _ => by rw [block]; exact ⟨by simp, stmsSmall_nil⟩, fun _ _ _ h1 h2 => by rw [stmL]; exact ⟨h1, h2⟩, fun _ s => by rw [stm]; exact simple_small _ _ _ _ _ _ _ _ (leaf_small _ _ _ _ _)⟩
  | f + 1 => by
    obtain ⟨hB, hL, hS⟩ := small_block T f
    have hE := (small_expr T f).2.2.1
    refine ⟨fun d s => ?_, fun d l s h1 h2 => ?_, fun d s => ?_⟩
    · rw [block]
      split
      · exact ⟨by simp, stmsSmall_nil⟩
      · split
        · exact ⟨by simp, stmsSmall_nil⟩
        · dsimp only
          exact hL _ _ _ (by simp) stmsSmall_nil
    · rw [stmL]
      split
      · exact ⟨h1, h2⟩
      · split
        · exact ⟨h1, h2⟩
        · dsimp only
          exact hL _ _ _ (by simp; omega) (stmsSmall_snoc h2 (hS d s))
    · rw [stm]
      dsimp only
      have two : ∀ (k a lb f t : Nat) (o : Bool) (nm : List UInt8) (e : Ex) (b c : List Stm), e.small → b.length ≤ 40 ∧ stmsSmall b → c.length ≤ 40 ∧ stmsSmall c → (Stm.mk k nm a lb o e b c f t).small := fun k a lb f t o nm e b c h1 h2 h3 => by
        rw [Stm.small]; exact ⟨h1, by omega, h2.2, by omega, h3.2⟩
      have nil2 : ([] : List Stm).length ≤ 40 ∧ stmsSmall [] := ⟨by simp, stmsSmall_nil⟩
      repeat' split
      all_goals first
        | exact simple_small _ _ _ _ _ _ _ _ (hE _ _ _)
        | exact two _ _ _ _ _ _ _ _ _ _ (hE _ _ _) (hB _ _) (hB _ _)
        | exact two _ _ _ _ _ _ _ _ _ _ (hE _ _ _) (hB _ _) nil2
        | exact simple_small _ _ _ _ _ _ _ _ (leaf_small _ _ _ _ _)
theorem parL_few (T : Src) : ∀ (f : Nat) (l : List Par) (s : St), l.length ≤ 5 → (parL T f l s).1.length ≤ 5 ∧ (s.i ≤ T.l.length → s.i ≤ (parL T f l s).2.i ∧ (parL T f l s).2.i ≤ T.l.length ∧ (parL T f l s).2.ds.length ≤ s.ds.length + 2 * ((parL T f l s).2.i - s.i) + 3 * f)
  | 0, l, s, h => by rw [parL]; exact ⟨h, fun hi => ⟨Nat.le_refl _, hi, by dsimp only; omega⟩⟩
  | f + 1, l, s, h => by
    rw [parL]
    split
    · exact ⟨h, fun hi => ⟨Nat.le_refl _, hi, by dsimp only; omega⟩⟩
    · split
      · exact ⟨h, fun hi => ⟨Nat.le_refl _, hi, by simp [St.bad]; omega⟩⟩
      · dsimp only
        have g1 := goes_named T s
        have g2 := goes_need T (s.named T).2 [58]
        have g3 := goes_lab T ((s.named T).2.need T [58]).2
        have a1 := g1.le; have a2 := g1.top; have a3 := g1.ds
        have b1 := g2.le; have b2 := g2.top; have b3 := g2.ds
        have c1 := g3.le; have c2 := g3.top; have c3 := g3.ds
        split
        · exact ⟨h, fun hi => ⟨by dsimp only; omega, b2 (a2 hi), by dsimp only; omega⟩⟩
        · split
          · rename_i h5
            have h6 := is_lt h5
            have ih := parL_few T f (l ++ [⟨(s.named T).1, (lab T ((s.named T).2.need T [58]).2).1, (T.tok s.i).pos⟩]) (lab T ((s.named T).2.need T [58]).2).2.next (by simp; omega)
            refine ⟨ih.1, fun hi => ?_⟩
            have e1 : (lab T ((s.named T).2.need T [58]).2).2.next.i = (lab T ((s.named T).2.need T [58]).2).2.i + 1 := rfl
            have e2 : (lab T ((s.named T).2.need T [58]).2).2.next.ds.length = (lab T ((s.named T).2.need T [58]).2).2.ds.length := rfl
            obtain ⟨i1, i2, i3⟩ := ih.2 (by omega)
            exact ⟨by omega, i2, by omega⟩
          · exact ⟨by simp; omega, fun hi => ⟨by dsimp only; omega, c2 (b2 (a2 hi)), by dsimp only; omega⟩⟩
theorem sndL_few (T : Src) : ∀ (f : Nat) (l : List Rf) (s : St), l.length ≤ 5 → (sndL T f l s).1.length ≤ 5 ∧ (s.i ≤ T.l.length → s.i ≤ (sndL T f l s).2.i ∧ (sndL T f l s).2.i ≤ T.l.length ∧ (sndL T f l s).2.ds.length ≤ s.ds.length + 2 * ((sndL T f l s).2.i - s.i) + 3 * f)
  | 0, l, s, h => by rw [sndL]; exact ⟨h, fun hi => ⟨Nat.le_refl _, hi, by dsimp only; omega⟩⟩
  | f + 1, l, s, h => by
    rw [sndL]
    split
    · exact ⟨h, fun hi => ⟨Nat.le_refl _, hi, by simp [St.bad]; omega⟩⟩
    · dsimp only
      have g1 := goes_named T s
      have a1 := g1.le; have a2 := g1.top; have a3 := g1.ds
      split
      · rename_i h5
        have h6 := is_lt h5
        have ih := sndL_few T f (l ++ [⟨(s.named T).1, (T.tok s.i).pos⟩]) (s.named T).2.next (by simp; omega)
        refine ⟨ih.1, fun hi => ?_⟩
        have e1 : (s.named T).2.next.i = (s.named T).2.i + 1 := rfl
        have e2 : (s.named T).2.next.ds.length = (s.named T).2.ds.length := rfl
        obtain ⟨i1, i2, i3⟩ := ih.2 (by omega)
        exact ⟨by omega, i2, by omega⟩
      · exact ⟨by simp; omega, fun hi => ⟨by dsimp only; omega, a2 hi, by dsimp only; omega⟩⟩
structure Itm.small (it : Itm) : Prop where
  params : it.params.length ≤ 5
  sends : it.sends.length ≤ 5
  body : it.body.length ≤ 40
  stms : stmsSmall it.body
  diags : it.diags.length ≤ 40000000
theorem fnItm_small (T : Src) (at_ : Int) (size : Nat) (s : St) (hT : T.l.length ≤ 1048576) (hi : s.i ≤ T.l.length) (hd : s.ds = []) :
    (fnItm T at_ size s).1.params.length ≤ 5 ∧ (fnItm T at_ size s).1.sends.length ≤ 5 ∧ (fnItm T at_ size s).1.body.length ≤ 40 ∧ stmsSmall (fnItm T at_ size s).1.body ∧ (fnItm T at_ size s).2.ds.length ≤ 39000000 := by
  rw [fnItm]
  dsimp only
  have g1 := goes_named T s
  generalize s.named T = r at g1 ⊢
  have g2 := goes_need T r.2 [40]
  generalize r.2.need T [40] = s1 at g2 ⊢
  have p := parL_few T 6 [] s1.2 (by simp)
  generalize parL T 6 [] s1.2 = r2 at p ⊢
  have g3 := goes_need T r2.2 [41]
  generalize r2.2.need T [41] = s3 at g3 ⊢
  have g4 := goes_need T s3.2 [58]
  generalize s3.2.need T [58] = s4 at g4 ⊢
  have g5 := goes_lab T s4.2
  generalize lab T s4.2 = r5 at g5 ⊢
  have hd0 : s.ds.length = 0 := by rw [hd]; rfl
  have a2 := g1.top hi; have a3 := g1.ds; have a1 := g1.le
  have b2 := g2.top a2; have b3 := g2.ds; have b1 := g2.le
  obtain ⟨p1, p2⟩ := p
  obtain ⟨p3, p4, p5⟩ := p2 b2
  have c2 := g3.top p4; have c3 := g3.ds; have c1 := g3.le
  have d2 := g4.top c2; have d3 := g4.ds; have d1 := g4.le
  have e2 := g5.top d2; have e3 := g5.ds; have e1 := g5.le
  have q : ∀ r6 : List Rf × St, r6 = (if T.is r5.2.i [115, 101, 110, 100, 115] = true then sndL T 6 [] r5.2.next else ([], r5.2)) → r6.1.length ≤ 5 ∧ r6.2.i ≤ T.l.length ∧ r6.2.ds.length ≤ r5.2.ds.length + 2 * (T.l.length) + 18 := fun r6 h => by
    by_cases hs : T.is r5.2.i [115, 101, 110, 100, 115] = true
    · rw [if_pos hs] at h
      have hlt := is_lt hs
      have q := sndL_few T 6 [] r5.2.next (by simp)
      have f1 : r5.2.next.i = r5.2.i + 1 := rfl
      have f2 : r5.2.next.ds.length = r5.2.ds.length := rfl
      obtain ⟨q3, q4, q5⟩ := q.2 (by omega)
      rw [h]
      exact ⟨q.1, q4, by omega⟩
    · rw [if_neg hs] at h
      rw [h]
      exact ⟨by simp, e2, by dsimp only; omega⟩
  obtain ⟨r6, h6⟩ : ∃ r6, r6 = (if T.is r5.2.i [115, 101, 110, 100, 115] = true then sndL T 6 [] r5.2.next else ([], r5.2)) := ⟨_, rfl⟩
  obtain ⟨q1, q2, q3⟩ := q r6 h6
  rw [← h6]
  have hb := (small_block T (fuel T)).1 0 r6.2
  have gb := (goes_block T (fuel T)).1 0 r6.2
  have h1 := gb.ds
  have h2 := gb.top q2
  exact ⟨p1, q1, hb.1, hb.2, by omega⟩
theorem itemQ_small (T : Src) (at_ : Int) (size : Nat) (hT : T.l.length ≤ 1048576) :
    (itemQ T at_ size).1.params.length ≤ 5 ∧ (itemQ T at_ size).1.sends.length ≤ 5 ∧ (itemQ T at_ size).1.body.length ≤ 40 ∧ stmsSmall (itemQ T at_ size).1.body ∧ (itemQ T at_ size).2.ds.length ≤ 39000000 := by
  rw [itemQ]
  split
  · rename_i h
    exact fnItm_small T at_ size ⟨1, []⟩ hT (is_lt h) rfl
  · split
    · rename_i h
      have hlt := is_lt h
      rw [chItm]
      dsimp only
      have g1 := goes_named T ⟨1, []⟩
      generalize (⟨1, []⟩ : St).named T = r at g1 ⊢
      have g2 := goes_need T r.2 [58]
      generalize r.2.need T [58] = s1 at g2 ⊢
      have g3 := goes_lab T s1.2
      generalize lab T s1.2 = r2 at g3 ⊢
      have g4 := goes_need T r2.2 [59]
      generalize r2.2.need T [59] = s3 at g4 ⊢
      have a2 := g1.top hlt; have a3 := g1.ds; have a1 := g1.le
      have b2 := g2.top a2; have b3 := g2.ds; have b1 := g2.le
      have c2 := g3.top b2; have c3 := g3.ds; have c1 := g3.le
      have d2 := g4.top c2; have d3 := g4.ds; have d1 := g4.le
      dsimp only [List.length_nil] at a1 a3
      exact ⟨by simp, by simp, by simp, stmsSmall_nil, by omega⟩
    · exact ⟨by simp, by simp, by simp, stmsSmall_nil, by simp [St.bad]⟩
theorem item_small (src : List UInt8) (at_ : Int) (h : src.length ≤ 1048576) : (item src at_).small := by
  have hl := toks_len src
  rw [item_eq]
  have hT : (Src.mk (tokens src) src.length).l.length ≤ 1048576 := by dsimp only; omega
  generalize Src.mk (tokens src) src.length = T at hT ⊢
  obtain ⟨h1, h2, h3, h4, h5⟩ := itemQ_small T at_ src.length hT
  rw [itemT]
  refine ⟨h1, h2, h3, h4, ?_⟩
  dsimp only
  split
  · simp [St.bad]; omega
  · omega
theorem item_at (src : List UInt8) (at_ : Int) : (item src at_).at_ = at_ := by
  rw [item_eq]
  show (itemQ _ at_ _).1.at_ = at_
  rw [itemQ]
  split
  · rfl
  · split <;> rfl
theorem small_args {e : Ex} (h : e.small) : e.args.length ≤ 64 ∧ exsSmall e.args := by
  cases e with
  | mk k n m a f t => rw [Ex.small] at h; exact h
theorem size_args {e a : Ex} (h : a ∈ e.args) : SizeOf.sizeOf a < SizeOf.sizeOf e := by
  cases e with
  | mk k n m l f t =>
    have h' : a ∈ l := h
    have := List.sizeOf_lt_of_mem h'
    simp only [Ex.mk.sizeOf_spec]
    omega
theorem small_parts {s : Stm} (h : s.small) : s.e.small ∧ s.thn.length ≤ 64 ∧ stmsSmall s.thn ∧ s.els.length ≤ 64 ∧ stmsSmall s.els := by
  cases s with
  | mk k n a l o e t x f u => rw [Stm.small] at h; exact h
theorem size_thn {s : Stm} : SizeOf.sizeOf s.thn < SizeOf.sizeOf s ∧ SizeOf.sizeOf s.els < SizeOf.sizeOf s := by
  cases s with
  | mk k n a l o e t x f u =>
    simp only [Stm.mk.sizeOf_spec, Stm.thn, Stm.els]
    omega
theorem sizeL_mem {l : List Stm} {s : Stm} (h : s ∈ l) : SizeOf.sizeOf s < SizeOf.sizeOf l := List.sizeOf_lt_of_mem h
end Go.Sp
end
section
namespace Go.Sp
mutual
def Ex.cnt : Ex → Nat
  | .mk _ _ _ args _ _ => exsCnt args + 1
def exsCnt : List Ex → Nat
  | [] => 0
  | e :: es => e.cnt + exsCnt es
 end
mutual
def Stm.cnt : Stm → Nat
  | .mk _ _ _ _ _ e thn els _ _ => e.cnt + stmsCnt thn + stmsCnt els + 1
def stmsCnt : List Stm → Nat
  | [] => 0
  | x :: xs => x.cnt + stmsCnt xs
 end
theorem exsCnt_app : ∀ (l r : List Ex), exsCnt (l ++ r) = exsCnt l + exsCnt r
  | [], r => by rw [exsCnt]; simp
  | e :: l, r => by rw [List.cons_append, exsCnt, exsCnt, exsCnt_app l r]; omega
theorem stmsCnt_app : ∀ (l r : List Stm), stmsCnt (l ++ r) = stmsCnt l + stmsCnt r
  | [], r => by rw [stmsCnt]; simp
  | e :: l, r => by rw [List.cons_append, stmsCnt, stmsCnt, stmsCnt_app l r]; omega
theorem exsCnt_one (e : Ex) : exsCnt [e] = e.cnt := by rw [exsCnt, exsCnt]; omega
theorem stmsCnt_one (e : Stm) : stmsCnt [e] = e.cnt := by rw [stmsCnt, stmsCnt]; omega
theorem leaf_cnt (k n f t : Nat) (nm : List UInt8) : (Ex.mk k nm n [] f t).cnt = 1 := by rw [Ex.cnt, exsCnt]
theorem need_le (T : Src) (s : St) (w : List UInt8) : s.i ≤ (s.need T w).2.i := (goes_need T s w).le
theorem cnt_expr (T : Src) : ∀ f, (∀ d s, (atom T f d s).1.cnt ≤ 2 * ((atom T f d s).2.i - s.i) + 1) ∧ (∀ d l s, exsCnt (argL T f d l s).1 ≤ exsCnt l + 2 * ((argL T f d l s).2.i - s.i) + 1) ∧
    (∀ d m s, (expr T f d m s).1.cnt ≤ 2 * ((expr T f d m s).2.i - s.i) + 1) ∧ (∀ d m e s, (opL T f d m e s).1.cnt ≤ e.cnt + 2 * ((opL T f d m e s).2.i - s.i))
  | 0 => ⟨fun _ _ => by rw [atom]; show (Ex.mk 0 [] 0 [] 0 0).cnt ≤ _; rw [leaf_cnt]; omega, fun _ _ _ => by rw [argL]; dsimp only; omega,
      fun _ _ _ => by rw [expr]; show (Ex.mk 0 [] 0 [] 0 0).cnt ≤ _; rw [leaf_cnt]; omega, fun _ _ _ _ => by rw [opL]; dsimp only; omega⟩
  | f + 1 => by
    obtain ⟨hA, hL, hE, hO⟩ := cnt_expr T f
    obtain ⟨gA, gL, gE, gO⟩ := goes_expr T f
    refine ⟨fun d s => ?_, fun d l s => ?_, fun d m s => ?_, fun d m e s => ?_⟩
    · rw [atom]
      dsimp only
      split
      · rw [none_]; dsimp only; rw [leaf_cnt]; omega
      · split
        · rw [none_]; dsimp only; rw [leaf_cnt]; omega
        · split
          · split
            · dsimp only; rw [leaf_cnt]; omega
            · dsimp only; rw [leaf_cnt]; omega
          · split
            · have h1 := hE (d + 1) 1 s.next
              have h2 := (gE (d + 1) 1 s.next).le
              have h3 := need_le T (expr T f (d + 1) 1 s.next).2 [41]
              rw [next_i] at h1 h2
              dsimp only
              omega
            · split
              · rw [none_]; dsimp only; rw [leaf_cnt]; omega
              · split
                · dsimp only; rw [leaf_cnt]; omega
                · have h1 := hL (d + 1) [] s.next.next
                  have h2 := (gL (d + 1) [] s.next.next).le
                  have h3 := need_le T (argL T f (d + 1) [] s.next.next).2 [41]
                  rw [next_i, next_i] at h1 h2
                  rw [exsCnt] at h1
                  dsimp only
                  rw [Ex.cnt]
                  omega
    · rw [argL]
      split
      · dsimp only; omega
      · split
        · dsimp only; omega
        · have h1 := hE d 1 s
          have h2 := (gE d 1 s).le
          try dsimp only
          split
          · have h3 := hL d (l ++ [(expr T f d 1 s).1]) (expr T f d 1 s).2.next
            have h4 := (gL d (l ++ [(expr T f d 1 s).1]) (expr T f d 1 s).2.next).le
            rw [next_i] at h3 h4
            rw [exsCnt_app, exsCnt_one] at h3
            omega
          · dsimp only
            rw [exsCnt_app, exsCnt_one]
            omega
    · rw [expr]
      try dsimp only
      have h1 := hA d s
      have h2 := (gA d s).le
      have h3 := hO d m (atom T f d s).1 (atom T f d s).2
      have h4 := (gO d m (atom T f d s).1 (atom T f d s).2).le
      omega
    · rw [opL]
      try dsimp only
      split
      · dsimp only; omega
      · have h1 := hE d (tight (T.tok s.i).text + 1) s.next
        have h2 := (gE d (tight (T.tok s.i).text + 1) s.next).le
        rw [next_i] at h1 h2
        generalize expr T f d (tight (T.tok s.i).text + 1) s.next = r at h1 h2 ⊢
        have h3 := hO d m (.mk 3 (T.tok s.i).text 0 [e, r.1] e.fr (max r.1.to e.to)) r.2
        have h4 := (gO d m (.mk 3 (T.tok s.i).text 0 [e, r.1] e.fr (max r.1.to e.to)) r.2).le
        rw [Ex.cnt, exsCnt, exsCnt_one] at h3
        omega
theorem cnt_block (T : Src) : ∀ f, (∀ d s, stmsCnt (block T f d s).1 ≤ 8 * ((block T f d s).2.i - s.i)) ∧ (∀ d l s, stmsCnt (stmL T f d l s).1 ≤ stmsCnt l + 8 * ((stmL T f d l s).2.i - s.i)) ∧
    (∀ d s, (stm T f d s).1.cnt ≤ 8 * max ((stm T f d s).2.i - s.i) 1)
  | 0 => ⟨fun _ _ => by rw [block]; dsimp only; rw [stmsCnt]; omega, fun _ _ _ => by rw [stmL]; dsimp only; omega,
      fun _ s => by rw [stm]; show (Stm.mk 0 [] 0 0 false (.mk 0 [] 0 [] 0 0) [] [] 0 0).cnt ≤ _; rw [Stm.cnt, leaf_cnt, stmsCnt]; omega⟩
  | f + 1 => by
    obtain ⟨hB, hL, hS⟩ := cnt_block T f
    obtain ⟨gB, gL, gS⟩ := goes_block T f
    have hE := (cnt_expr T f).2.2.1
    have gE := (goes_expr T f).2.2.1
    refine ⟨fun d s => ?_, fun d l s => ?_, fun d s => ?_⟩
    · rw [block]
      split
      · dsimp only; rw [stmsCnt]; omega
      · split
        · dsimp only; rw [stmsCnt]; omega
        · have h1 := hL (d + 1) [] s.next
          have h2 := (gL (d + 1) [] s.next).le
          have h3 := need_le T (stmL T f (d + 1) [] s.next).2 [125]
          rw [next_i] at h1 h2
          rw [stmsCnt] at h1
          try dsimp only
          omega
    · rw [stmL]
      split
      · dsimp only; omega
      · split
        · dsimp only; omega
        · have h1 := hS d s
          have h2 := (gS d s).le
          try dsimp only
          split
          · rename_i he
            have h3 := hL d (l ++ [(stm T f d s).1]) (stm T f d s).2.next
            have h4 := (gL d (l ++ [(stm T f d s).1]) (stm T f d s).2.next).le
            rw [next_i] at h3 h4
            rw [stmsCnt_app, stmsCnt_one] at h3
            omega
          · rename_i he
            have h3 := hL d (l ++ [(stm T f d s).1]) (stm T f d s).2
            have h4 := (gL d (l ++ [(stm T f d s).1]) (stm T f d s).2).le
            rw [stmsCnt_app, stmsCnt_one] at h3
            omega
    · rw [stm]
      dsimp only
      split
      · have h1 := (goes_named T s.next).le
        rw [next_i] at h1
        generalize s.next.named T = r at h1 ⊢
        generalize hr1 : (if (!T.is r.2.i [58]) = true then (0, r.2) else lab T r.2.next) = r1
        have h2 : r.2.i ≤ r1.2.i := by
          rw [← hr1]
          split
          · exact Nat.le_refl _
          · have := (goes_lab T r.2.next).le
            rw [next_i] at this
            omega
        have h3 := need_le T r1.2 [61]
        have h4 := hE d 1 (r1.2.need T [61]).2
        have h5 := (gE d 1 (r1.2.need T [61]).2).le
        have h6 := need_le T (expr T f d 1 (r1.2.need T [61]).2).2 [59]
        try dsimp only
        rw [Stm.cnt, stmsCnt]
        omega
      · split
        · have h1 := hE d 1 s.next
          have h2 := (gE d 1 s.next).le
          rw [next_i] at h1 h2
          generalize expr T f d 1 s.next = r at h1 h2 ⊢
          have h3 := hB d r.2
          have h4 := (gB d r.2).le
          generalize block T f d r.2 = r1 at h3 h4 ⊢
          split
          · have h5 := hB d r1.2.next
            have h6 := (gB d r1.2.next).le
            rw [next_i] at h5 h6
            dsimp only
            try dsimp only
            rw [Stm.cnt]
            omega
          · dsimp only
            try dsimp only
            rw [Stm.cnt, stmsCnt]
            omega
        · split
          · have h1 := hE d 1 s.next
            have h2 := (gE d 1 s.next).le
            rw [next_i] at h1 h2
            generalize expr T f d 1 s.next = r at h1 h2 ⊢
            have h3 := hB d r.2
            have h4 := (gB d r.2).le
            try dsimp only
            rw [Stm.cnt, stmsCnt]
            omega
          · split
            · have h1 := (goes_named T s.next).le
              rw [next_i] at h1
              generalize s.next.named T = r at h1 ⊢
              have h4 := hE d 1 r.2
              have h5 := (gE d 1 r.2).le
              have h6 := need_le T (expr T f d 1 r.2).2 [59]
              try dsimp only
              rw [Stm.cnt, stmsCnt]
              omega
            · split
              · have h4 := hE d 1 s.next
                have h5 := (gE d 1 s.next).le
                have h6 := need_le T (expr T f d 1 s.next).2 [59]
                rw [next_i] at h4 h5
                try dsimp only
                rw [Stm.cnt, stmsCnt]
                omega
              · split
                · split
                  · have h4 := hE d 1 s.next.next
                    have h5 := (gE d 1 s.next.next).le
                    have h6 := need_le T (expr T f d 1 s.next.next).2 [59]
                    rw [next_i, next_i] at h4 h5
                    try dsimp only
                    rw [Stm.cnt, stmsCnt]
                    omega
                  · have h4 := hE d 1 s
                    have h5 := (gE d 1 s).le
                    have h6 := need_le T (expr T f d 1 s).2 [59]
                    try dsimp only
                    rw [Stm.cnt, stmsCnt]
                    omega
                · rw [Stm.cnt, stmsCnt]
                  show (Ex.mk 0 [] 0 [] 0 0).cnt + 0 + 0 + 1 ≤ _
                  rw [leaf_cnt]
                  omega
theorem need_top {T : Src} {s : St} (w : List UInt8) (h : s.i ≤ T.l.length) : (s.need T w).2.i ≤ T.l.length := (goes_need T s w).top h
theorem item_cnt (src : List UInt8) (at_ : Int) : stmsCnt (item src at_).body ≤ 8 * src.length := by
  have htl : (tokens src).length ≤ src.length := toks_len src
  rw [item]
  generalize hT : (⟨tokens src, src.length⟩ : Src) = T
  have hTl : T.l.length ≤ src.length := by rw [← hT]; exact htl
  dsimp only
  split
  · rename_i hfn
    have h0 := is_lt hfn
    dsimp only [fnItm]
    have h1 := (goes_named T ⟨1, []⟩).top (show 1 ≤ _ by omega)
    generalize (⟨1, []⟩ : St).named T = r at h1 ⊢
    have h2 := need_top [40] h1
    generalize (r.2.need T [40]).2 = s1 at h2 ⊢
    have h3 := ((parL_few T 6 [] s1 (by simp)).2 h2).2.1
    generalize parL T 6 [] s1 = r2 at h3 ⊢
    have h4 := need_top [41] h3
    generalize (r2.2.need T [41]).2 = s3 at h4 ⊢
    have h5 := need_top [58] h4
    generalize (s3.need T [58]).2 = s4 at h5 ⊢
    have h6 := (goes_lab T s4).top h5
    generalize lab T s4 = r5 at h6 ⊢
    generalize hr6 : (if T.is r5.2.i [115, 101, 110, 100, 115] = true then sndL T 6 [] r5.2.next else ([], r5.2)) = r6
    have h7 : r6.2.i ≤ T.l.length := by
      rw [← hr6]
      split
      · rename_i hs
        have := is_lt hs
        exact ((sndL_few T 6 [] r5.2.next (by simp)).2 (by rw [next_i]; omega)).2.1
      · exact h6
    have h8 := (cnt_block T (fuel T)).1 0 r6.2
    have h9 := ((goes_block T (fuel T)).1 0 r6.2).top h7
    omega
  · split
    · dsimp only [chItm]
      rw [stmsCnt]; omega
    · dsimp only
      rw [stmsCnt]; omega
end Go.Sp
end
section
namespace Go.Sp
abbrev PE := Nat → List UInt8 → Nat → Nat → Nat → Nat → Prop
abbrev PS := Nat → List UInt8 → Nat → Nat → Bool → Nat → Nat → Prop
mutual
def Ex.all (p : PE) : Ex → Prop
  | .mk k nm n args f t => p k nm n args.length f t ∧ exsAll p args
def exsAll (p : PE) : List Ex → Prop
  | [] => True
  | e :: es => e.all p ∧ exsAll p es
 end
mutual
def Stm.all (p : PE) (q : PS) : Stm → Prop
  | .mk k nm a lb o e thn els f t => q k nm a lb o f t ∧ e.all p ∧ stmsAll p q thn ∧ stmsAll p q els
def stmsAll (p : PE) (q : PS) : List Stm → Prop
  | [] => True
  | x :: xs => x.all p q ∧ stmsAll p q xs
 end
/-- what is asked of expressions that are read. -/
structure AtE (T : Src) (p : PE) : Prop where
  zero : p 0 [] 0 0 0 0
  bad : ∀ i, p 5 [] 0 0 (T.tok i).pos (T.tok i).pos
  num : ∀ i n, n ≤ 1000000000 → (T.tok i).kind = 2 → p 1 [] n 0 (T.tok i).pos ((T.tok i).pos + (T.tok i).text.length)
  var : ∀ i, name (T.tok i).text = true → p 2 (T.tok i).text 0 0 (T.tok i).pos ((T.tok i).pos + (T.tok i).text.length)
  call : ∀ i j m, name (T.tok i).text = true → m ≤ 5 → p 4 (T.tok i).text 0 m (T.tok i).pos (T.endOf j)
  op : ∀ i k1 n1 v1 m1 f1 t1 k2 n2 v2 m2 f2 t2, tight (T.tok i).text ≠ 0 → p k1 n1 v1 m1 f1 t1 → p k2 n2 v2 m2 f2 t2 → p 3 (T.tok i).text 0 2 f1 (max t2 t1)
/-- what is asked of statements that are read. -/
structure AtS (T : Src) (q : PS) : Prop where
  zero : q 0 [] 0 0 false 0 0
  let_ : ∀ i (s : St) lb o j, lb ≤ 255 → q 1 (s.named T).1 (T.tok s.i).pos lb o (T.tok i).pos (max (T.endOf j) (T.tok i).pos)
  set : ∀ i j, name (T.tok i).text = true → q 2 (T.tok i).text (T.tok i).pos 0 false (T.tok i).pos (max (T.endOf j) (T.tok i).pos)
  plain : ∀ k i j, (k = 3 ∨ k = 4 ∨ k = 6 ∨ k = 7 ∨ k = 8) → q k [] 0 0 false (T.tok i).pos (max (T.endOf j) (T.tok i).pos)
  send : ∀ i (s : St) j, q 5 (s.named T).1 (T.tok s.i).pos 0 false (T.tok i).pos (max (T.endOf j) (T.tok i).pos)
/-- what is asked of an item that is read. -/
structure ItAll (T : Src) (p : PE) (q : PS) (r : Par → Prop) (t : Rf → Prop) (it : Itm) : Prop where
  body : stmsAll p q it.body
  params : ∀ x ∈ it.params, r x
  sends : ∀ x ∈ it.sends, t x
  few : it.params.length ≤ 5 ∧ it.sends.length ≤ 5 ∧ it.body.length ≤ 40
  label : it.label ≤ 255
  kind : 1 ≤ it.kind ∧ it.kind ≤ 3
  mark : (it.name = [] ∧ ((∃ i, it.mark = (T.tok i).pos) ∨ it.mark = 0)) ∨ ∃ s : St, it.name = (s.named T).1 ∧ it.mark = (T.tok s.i).pos
  bad : it.kind = 3 → it.name = [] ∧ it.label = 0 ∧ it.params = [] ∧ it.sends = [] ∧ it.body = []
  chan : it.kind = 1 → it.params = [] ∧ it.sends = [] ∧ it.body = []
end Go.Sp
end
section
namespace Go.Sp
inductive Runs (T : Src) : St → St → Prop where
  | refl (s : St) : Runs T s s
  | bad {s r : St} (e : Nat) : Runs T s r → Runs T s (r.bad T e)
  | next {s r : St} : Runs T s r → Runs T s r.next
theorem Runs.trans {T : Src} {s r q : St} (h : Runs T s r) (g : Runs T r q) : Runs T s q := by
  induction g with
  | refl => exact h
  | bad e _ ih => exact .bad e ih
  | next _ ih => exact .next ih
theorem Runs.on {T : Src} {s r : St} (h : Runs T s r) : s.i ≤ r.i := by
  induction h with
  | refl => exact Nat.le_refl _
  | bad e _ ih => exact ih
  | next _ ih => exact Nat.le_succ_of_le ih
end Go.Sp
end
section
namespace Go.Sp
/-- what each item of a file is like. -/
structure ItIn (s : List UInt8) (k : Nat) (it : Itm) : Prop where
  at0 : 0 ≤ it.at_
  size : 1 ≤ it.size
  top : it.at_ + it.size ≤ s.length
  ends : it.at_ + it.size = (match (fileItems s)[k + 1]? with | some j => j.at_ | none => (s.length : Int))
  diags : ∀ d ∈ it.diags, d.fr ≤ d.to ∧ d.to ≤ it.size
  small : it.small
  len : s.length ≤ 4000
end Go.Sp
end
section
namespace Go.Sp
def itIs (k : Int) (n : List UInt8) (it : Itm) : Bool := decide ((it.kind : Int) = k) && (decide (it.name = n) && decide (n ≠ []))
/-- the first item of a kind and a name. -/
def findIt (its : List Itm) (k : Int) (n : List UInt8) : Option Nat := its.findIdx? (itIs k n)
/-- a local: its name, where it is made. -/
structure Lc where
  name : List UInt8
  at_ : Nat
/-- a use of a name. -/
structure Us where
  fr : Int
  to : Int
  df : Int
  deriving DecidableEq
structure NW where
  ds : List Dg
  us : List Us
def zeroIt : Itm := ⟨0, [], 0, [], [], [], 0, 0, 0, []⟩
def itNo (its : List Itm) (j : Nat) : Itm := its.getD j zeroIt
theorem take_succ_get {α : Type} {l : List α} {k : Nat} {x : α} (h : l[k]? = some x) : l.take (k + 1) = l.take k ++ [x] := by rw [List.take_add_one, h]; rfl
/-! how much is told -/
def NW.n (s : NW) : Nat := s.ds.length + s.us.length
theorem Ex.cnt_eq (e : Ex) : e.cnt = exsCnt e.args + 1 := by cases e; rw [Ex.cnt]; rfl
theorem exsCnt_take_le {l : List Ex} {k : Nat} {y : Ex} (h : l[k]? = some y) : exsCnt (l.take k) + y.cnt ≤ exsCnt l := by
  have e : l = l.take (k + 1) ++ l.drop (k + 1) := (List.take_append_drop _ _).symm
  have h2 := congrArg exsCnt e
  rw [exsCnt_app, take_succ_get h, exsCnt_app, exsCnt_one] at h2
  omega
theorem Stm.cnt_eq (x : Stm) : x.cnt = x.e.cnt + stmsCnt x.thn + stmsCnt x.els + 1 := by cases x; rw [Stm.cnt]; rfl
theorem stmsCnt_take_le {l : List Stm} {k : Nat} {y : Stm} (h : l[k]? = some y) : stmsCnt (l.take k) + y.cnt ≤ stmsCnt l := by
  have e : l = l.take (k + 1) ++ l.drop (k + 1) := (List.take_append_drop _ _).symm
  have h2 := congrArg stmsCnt e
  rw [stmsCnt_app, take_succ_get h, stmsCnt_app, stmsCnt_one] at h2
  omega
end Go.Sp
end
section
namespace Go.Sp
def idxV (F : Itm → Bool) (its : List Itm) : Int := match its.findIdx? F with
  | some j => (j : Int)
  | none => -1
def findV (its : List Itm) (k : Int) (n : List UInt8) : Int := match findIt its k n with
  | some j => (j : Int)
  | none => -1
theorem idxV_at {F : Itm → Bool} {its : List Itm} {k : Nat} {it : Itm} (h : its[k]? = some it) (hF : F it = true) (hb : ∀ j it', j < k → its[j]? = some it' → F it' = false) : idxV F its = k := by
  have : its.findIdx? F = some k := by
    rw [List.findIdx?_eq_some_iff_getElem]
    obtain ⟨hk, e⟩ := List.getElem?_eq_some_iff.1 h
    refine ⟨hk, by rw [e]; exact hF, fun j hj => ?_⟩
    have := hb j its[j] hj (List.getElem?_eq_getElem (by omega))
    rw [this]; simp
  rw [idxV, this]
theorem idxV_none {F : Itm → Bool} {its : List Itm} (hb : ∀ j it', j < its.length → its[j]? = some it' → F it' = false) : idxV F its = -1 := by
  have : its.findIdx? F = none := by
    rw [List.findIdx?_eq_none_iff]
    intro x hx
    obtain ⟨j, hj, rfl⟩ := List.getElem_of_mem hx
    exact hb j _ hj (List.getElem?_eq_getElem hj)
  rw [idxV, this]
end Go.Sp
namespace Go.Fw
open Go
section
variable {P : Program} {N : Nat} {ds : List Deferred} {Q : Exit → Act → World → Prop} {l : Log} {w : World} {ops : Array Oper} {os : List Oper}
variable {d : Nat} {ty : TypeId} {pos : String} {af : Array Edge} {g : Option (Nat × Bool)} {t : TypeId} {x y : Operand} {E : Ent} {I : Imm} {H R G : List HItem}
/-- a call of what is a value. -/
theorem m_callv {c : Operand} {f : FuncId} [Own P f] {xs : List Operand} {tys : Array TypeId} {vs ca : List Value} {Post : Value → Imm → List HItem → Prop} (hm : Mem E I G w)
    (hw : want ops l ⟨some d, .call ⟨.value c, xs.toArray, tys⟩, ty, pos, af, g⟩ = some true := by rfl) (hN : Nat.blt d N = true := by rfl)
    (hf : ev l c = some (.func (.func f) #[] ca.toArray) := by rfl) (hx : evs l xs = some vs := by rfl) (hp : G.Perm (H ++ R)) (hc : CalM P f (vs ++ ca).toArray I H Post)
    (k : ∀ v I' H' w', Post v I' H' → Le I I' → Mem E I' (H' ++ R) w' → WL P N ds ops Q os ((d, v) :: l) w') :
    WL P N ds ops Q (⟨some d, .call ⟨.value c, xs.toArray, tys⟩, ty, pos, af, g⟩ :: os) l w :=
  op_callv hw hN hf hx (hc.run w (hm.perm hp).sub) (fun v w' ⟨I', H', h1, h2⟩ => k v I' H' w' h1 h2.le ((hm.perm hp).back h2))
/-- a part of what does not turn. -/
theorem PtrI.sub {b off ty : Nat} {cs cs' : List Value} (h : PtrI I b off ty cs) (k : Nat) (hs : ∀ j u, cs'[j]? = some u → cs[k + j]? = some u) : PtrI I b (off + k) ty cs' := by
  obtain ⟨c, fr, h1, h2⟩ := h
  exact ⟨c, fr, h1, fun j u hj => by rw [Nat.add_assoc]; exact h2 _ _ (hs j u hj)⟩
theorem CalM.read {f : FuncId} {args : Array Value} {v : Value} (h : CalM P f args I [] (fun u _ H' => u = v ∧ H' = [])) : CalR P f args I [] v :=
  ⟨fun w hI _ => (h.run w (Mem.start hI)).mono (fun _ _ ⟨_, _, ⟨h1, _⟩, h2⟩ => ⟨h1, h2.kept⟩)⟩
end
end Go.Fw
namespace Go.Proofs.YtghommdgmglmdaaDoor
open Go.Fw
structure NI where
  k : Nat
  I : Imm
/-- a file's items. -/
structure FE (I : Imm) (its : List Sp.Itm) (a : Option Addr) (cp : Nat) (xs : List Value) : Prop where
  row : RowI I 36 10 (.slice a its.length cp) its.length xs
  ats : ItsAt I its xs
  few : its.length ≤ 64
theorem fe_of {I : Imm} {its : List Sp.Itm} {a : Option Addr} {cp : Nat} {xs : List Value} (h1 : RowI I 36 10 (.slice a its.length cp) its.length xs) (h2 : ItsAt I its xs) (h3 : its.length ≤ 30) : FE I its a cp xs := ⟨h1, h2, by omega⟩
theorem FE.le {I I' : Imm} {its : List Sp.Itm} {a : Option Addr} {cp : Nat} {xs : List Value} (h : FE I its a cp xs) (m : Le I I') : FE I' its a cp xs := ⟨h.row.le m, h.ats.le m, h.few⟩
theorem FE.get {I : Imm} {its : List Sp.Itm} {a : Option Addr} {cp : Nat} {xs : List Value} (h : FE I its a cp xs) {k : Nat} {it : Sp.Itm} (hg : its[k]? = some it) : ∃ cs, (xs.drop (k * 10)).take 10 = cs ∧ ItAt I it cs ∧ cs.length = 10 :=
  ⟨_, rfl, h.ats.get hg, (h.ats.get hg).len⟩
theorem n_findC (I : Imm) (k : Int) (n : List UInt8) (bk bn : Nat) (hk : PtrI I bk 0 3 [.int .i64 k]) (hn : PtrI I bn 0 9 [str n]) (it : Sp.Itm) (cs : List Value) (hi : ItAt I it cs) :
    CalM Tryd.prog 22 #[.agg cs.toArray, ptr bk, ptr bn] I [] (fun v _ H' => v = .bool (Sp.itIs k n it) ∧ H' = []) := by
  obtain ⟨ap, cp, as_, cs', ab, cb, ad, cd, xb, rfl, r1, r2, r3, r4, r5⟩ := hi
  refine CalM.of fun w E hm => enter (N := 19) Tryd.func22 rfl [(0, .agg (itCells it.kind it.name it.label (.slice ap it.params.length cp) (.slice as_ it.sends.length cs') (.slice ab it.body.length cb) it.at_ it.size it.mark (.slice ad it.diags.length cd)).toArray), (1, ptr bk), (2, ptr bn)] args3 rfl ?_
  repeat' (first
  | (refine m_box (d:=3) hm (k:=?_); clear hm; intro b3 _ hm)
  | refine m_load1 hm (k:=?_)
  | refine i_load1z hm (k:=?_)
  | refine op_move (k:=?_)
  | refine op_assign (k:=?_)
  | refine op_pick_true (k:=?_)
  | refine op_pick_false (k:=?_)
  | refine op_eql (k:=?_)
  | refine op_eql_str (k:=?_)
  | refine op_neq_str (k:=?_)
  | refine op_fieldAddr (k:=?_)
  | refine wl_skip (k:=?_)
  | (refine wl_split_dec (h1:=fun _ => ?_) (h0:=fun _ => ?_)<;> (try first | contradiction | (exfalso; omega)))
  | refine wl_nil ?_
  | refine at_then_normal ?_
  | refine wc_seq ?_
  | refine wc_region ?_
  | refine wc_ret ?_
  | refine at_ret1 (h:=?_))
  all_goals (refine ⟨I, [], ⟨congrArg Value.bool ?_, rfl⟩, hm.left (H := [])⟩; simp_all [Sp.itIs])
set_option maxHeartbeats 4000000 in
theorem n_index (fi : FuncId) [Own Tryd.prog fi] (ca : List Value) (F : Sp.Itm → Bool) (its : List Sp.Itm) (I : Imm) (a : Option Addr) (cp : Nat) (xs : List Value) (h : FE I its a cp xs)
    (hF : ∀ I', Le I I' → ∀ it cs, ItAt I' it cs → CalM Tryd.prog fi (.agg cs.toArray :: ca).toArray I' [] (fun v _ H' => v = .bool (F it) ∧ H' = [])) :
    CalM Tryd.prog 21 #[.slice a its.length cp, .func (.func fi) #[] ca.toArray] I [] (fun v _ H' => v = .int .i64 (Sp.idxV F its) ∧ H' = []) := by
  refine CalM.of fun w E hm => enter (N := 19) Tryd.func21 rfl [(0, .slice a its.length cp), (1, .func (.func fi) #[] ca.toArray)] args2 rfl ?_
  have hfew := h.few
  repeat' (first
  | refine op_move (k:=?_)
  | refine op_assign (k:=?_)
  | refine op_len_slice (k:=?_)
  | refine wl_nil ?_
  | refine at_then_normal ?_
  | refine wc_seq ?_
  | refine wc_region ?_
  | refine wc_block ?_)
  refine wc_loop (fun x : NI => [(0, .slice a its.length cp), (1, .func (.func fi) #[] ca.toArray), (7, nt its.length), (8, nt x.k)])
    (fun x w' => Mem E x.I [] w' ∧ Le I x.I ∧ x.k ≤ its.length ∧ ∀ j it', j < x.k → its[j]? = some it' → F it' = false) (fun x => its.length - x.k) ⟨0, I⟩ (by exact ⟨rfl, rfl, rfl, rfl, trivial⟩) ⟨hm, Le.refl _, Nat.zero_le _, fun j _ hj => absurd hj (Nat.not_lt_zero j)⟩ ?_
  clear hm
  rintro ⟨k, I1⟩ w1 ⟨hm, hle1, hk, hno⟩
  dsimp only at hm hle1 hk hno ⊢
  by_cases hlt : k < its.length
  · have hg : its[k]? = some its[k] := List.getElem?_eq_getElem hlt
    obtain ⟨cs, hcs, hat, hl10⟩ := (h.le hle1).get hg
    have hri := (h.le hle1).row
    have hc := hF I1 hle1 _ cs hat
    generalize its[k] = it at hg hat hc
    cases hb : F it with
    | true =>
      rw [hb] at hc
      repeat' (first
      | (refine i_indexAddr (d:=14) (hr:=hri) (k:=?_); intro bt ot hpt; rw [show ((k : Int).toNat * 10) = k * 10 from rfl, hcs] at hpt)
      | (refine i_loadN (d:=15) hm (hp:=hpt) (hc:=by exact hl10) (k:=?_))
      | (refine m_callv (d:=16) hm (hp:=pm0) (hc:=by exact hc) (k:=?_); clear hm; rintro _ I2 _ _ ⟨rfl, rfl⟩ hle hm)
      | refine op_move (k:=?_)
      | refine op_assign (k:=?_)
      | refine op_lss (k:=?_)
      | refine wl_nil ?_
      | refine at_then_normal ?_
      | refine at_then_ret ?_
      | refine at_block_ret ?_
      | refine wc_seq ?_
      | refine wc_region ?_
      | refine wc_block ?_
      | refine wc_skip ?_
      | refine wc_ret ?_
      | refine at_ret1 (h:=?_)
      | refine wc_cond_true (ht:=?_)
      | (refine wc_cond_dec (ht:=fun _ => ?_) (hf:=fun _ => ?_)<;> (try first | contradiction | (exfalso; omega))))
      all_goals try (exfalso; omega)
      exact ⟨I2, [], ⟨by rw [Sp.idxV_at hg hb hno], rfl⟩, hm.left (H := [])⟩
    | false =>
      rw [hb] at hc
      repeat' (first
      | (refine i_indexAddr (d:=14) (hr:=hri) (k:=?_); intro bt ot hpt; rw [show ((k : Int).toNat * 10) = k * 10 from rfl, hcs] at hpt)
      | (refine i_loadN (d:=15) hm (hp:=hpt) (hc:=by exact hl10) (k:=?_))
      | (refine m_callv (d:=16) hm (hp:=pm0) (hc:=by exact hc) (k:=?_); clear hm; rintro _ I2 _ _ ⟨rfl, rfl⟩ hle hm)
      | refine op_move (k:=?_)
      | refine op_assign (k:=?_)
      | refine op_lss (k:=?_)
      | refine op_add (k:=?_)
      | refine wl_nil ?_
      | refine at_then_normal ?_
      | refine at_block_normal ?_
      | refine wc_seq ?_
      | refine wc_region ?_
      | refine wc_block ?_
      | refine wc_skip ?_
      | refine wc_cond_false (hf:=?_)
      | (refine wc_cond_dec (ht:=fun _ => ?_) (hf:=fun _ => ?_)<;> (try first | contradiction | (exfalso; omega))))
      all_goals try (exfalso; omega)
      refine at_round (⟨k + 1, I2⟩ : NI) (by exact ⟨rfl, rfl, rfl, rfl, trivial⟩) ⟨hm.left (H := []), hle1.trans hle, by dsimp only; omega, fun j it' hj hg' => ?_⟩ (by dsimp only; omega)
      rcases Nat.lt_or_ge j k with hjk | hjk
      · exact hno j it' hjk hg'
      · obtain rfl : j = k := by dsimp only at hj; omega
        rw [hg] at hg'
        obtain rfl := Option.some.inj hg'
        exact hb
  · obtain rfl : k = its.length := by omega
    repeat' (first
    | refine op_assign (k:=?_)
    | refine op_lss (k:=?_)
    | refine wl_nil ?_
    | refine at_then_normal ?_
    | refine at_then_exit ?_
    | refine at_block_exit ?_
    | refine wc_seq ?_
    | refine wc_region ?_
    | refine wc_exit ?_
    | refine wc_ret ?_
    | refine at_ret1 (h:=?_)
    | (refine wc_cond_dec (ht:=fun _ => ?_) (hf:=fun _ => ?_)<;> (try first | contradiction | (exfalso; omega))))
    all_goals try (exfalso; omega)
    exact ⟨I1, [], ⟨by rw [Sp.idxV_none hno], rfl⟩, hm.left (H := [])⟩
theorem n_find (k : Int) (n : List UInt8) (its : List Sp.Itm) (I : Imm) (a : Option Addr) (cp : Nat) (xs : List Value) (h : FE I its a cp xs) :
    CalM Tryd.prog 13 #[.agg [.slice a its.length cp].toArray, .int .i64 k, str n] I [] (fun v _ H' => v = .int .i64 (Sp.findV its k n) ∧ H' = []) := by
  refine CalM.of fun w E hm => enter (N := 11) Tryd.func13 rfl [(0, .agg [.slice a its.length cp].toArray), (1, .int .i64 k), (2, str n)] args3 rfl ?_
  repeat' (first
  | (refine m_box (d:=3) hm (k:=?_); clear hm; intro b3 _ hm)
  | (refine m_box (d:=4) hm (k:=?_); clear hm; intro b4 _ hm)
  | (refine m_box (d:=5) hm (k:=?_); clear hm; intro b5 _ hm)
  | refine m_load1 hm (k:=?_)
  | refine op_assign (k:=?_)
  | refine op_makeFunc (k:=?_)
  | refine op_fieldAddr (k:=?_)
  | refine wl_nil ?_
  | refine at_then_normal ?_
  | refine wc_seq ?_
  | refine wc_region ?_)
  obtain ⟨I2, hle2, hm2, hpn⟩ := hm.freezeO
  obtain ⟨I3, hle3, hm3, hpk⟩ := hm2.freezeO
  clear hm hm2
  have hm := hm3
  clear hm3
  have hc := n_index 22 [ptr b4, ptr b5] (Sp.itIs k n) its I3 a cp xs ((h.le hle2).le hle3) (fun I' m it cs hi => n_findC I' k n b4 b5 (hpk.le m) ((hpn.le hle3).le m) it cs hi)
  repeat' (first
  | (refine m_call (d:=10) hm (hc:=hc) (k:=?_); clear hm; rintro _ I4 _ _ ⟨rfl, rfl⟩ hle hm; have hleI4 := hle; try simp only [setn] at hm)
  | refine op_assign (k:=?_)
  | refine wl_nil ?_
  | refine at_then_normal ?_
  | refine wc_ret ?_
  | refine at_ret1 (h:=?_))
  exact ⟨I4, [], ⟨rfl, rfl⟩, hm.left (H := [])⟩
end Go.Proofs.YtghommdgmglmdaaDoor
end
section
namespace Go.Fw
open Go
theorem own_cut {w : World} {base e sz n m cp : Nat} {a : Option Addr} {xs : List Value} (ho : w.ownsRow base e sz (.slice a n cp) n xs) (hmn : m ≤ n) :
    w.ownsRow base e sz (.slice a m cp) m (xs.take (m * sz)) ∧ n ≤ cp ∧ (a = none ∨ ∃ g, a = some ⟨g, 0, none⟩) := by
  have h0 := ho.1
  have hle : m * sz ≤ n * sz := Nat.mul_le_mul_right _ hmn
  have hlen : (xs.take (m * sz)).length = m * sz := by rw [List.length_take]; omega
  rcases ho.2 with ⟨hv, hn⟩ | ⟨g, cap, cur, hv, hb, hg, hc, hcm, hs, ht⟩
  · obtain ⟨rfl, rfl, rfl⟩ := Value.slice.inj hv
    obtain rfl : m = 0 := by omega
    exact ⟨⟨hlen, .inl ⟨rfl, rfl⟩⟩, Nat.le_refl _, .inl rfl⟩
  · obtain ⟨rfl, _, rfl⟩ := Value.slice.inj hv
    refine ⟨⟨hlen, .inr ⟨g, cp, cur, rfl, hb, hg, by omega, hcm, hs, ?_⟩⟩, hc, .inr ⟨g, rfl⟩⟩
    rw [← ht, List.take_take, Nat.min_eq_left hle]
section
variable {P : Program} {N : Nat} {ds : List Deferred} {Q : Exit → Act → World → Prop} {l : Log} {w : World} {ops : Array Oper} {os : List Oper}
variable {d : Nat} {ty : TypeId} {pos : String} {af : Array Edge} {g : Option (Nat × Bool)} {t : TypeId} {x y : Operand} {E : Ent} {I : Imm} {H : List HItem}
end
end Go.Fw
end
section
namespace Go.Fw
open Go
theorem RowI.take {I : Imm} {e sz n m cp : Nat} {a : Option Addr} {xs : List Value} (h : RowI I e sz (.slice a n cp) n xs) (hmn : m ≤ n) : RowI I e sz (.slice a m cp) m (xs.take (m * sz)) := by
  obtain ⟨h0, a', cap, h1, h2, h3⟩ := h
  obtain ⟨rfl, _, rfl⟩ := Value.slice.inj h1
  have hle : m * sz ≤ n * sz := Nat.mul_le_mul_right _ hmn
  refine ⟨by rw [List.length_take]; omega, a, cp, rfl, by omega, fun hm => ?_⟩
  obtain ⟨b, off, c, fr, e1, e2, e3⟩ := h3 (by omega)
  refine ⟨b, off, c, fr, e1, e2, fun j u hj => e3 j u ?_⟩
  rw [List.getElem?_take] at hj
  split at hj
  · exact hj
  · cases hj
section
variable {P : Program} {N : Nat} {ds : List Deferred} {Q : Exit → Act → World → Prop} {l : Log} {w : World} {ops : Array Oper} {os : List Oper}
variable {d : Nat} {ty : TypeId} {pos : String} {af : Array Edge} {g : Option (Nat × Bool)} {t : TypeId} {x y : Operand} {E : Ent} {I : Imm} {H : List HItem}
end
end Go.Fw
end
section
namespace Go.Fw
open Go
section
variable {P : Program} {N : Nat} {ds : List Deferred} {Q : Exit → Act → World → Prop} {l l' : Log} {w w' : World} {ops : Array Oper} {os : List Oper}
variable {d : Nat} {ty : TypeId} {pos : String} {af : Array Edge} {g : Option (Nat × Bool)} {t t' : TypeId} {x y z : Operand}
variable {E : Ent} {I I' : Imm} {H H' R : List HItem}
/-- a row that is not empty lies in a block. -/
theorem Mem.rowAddr {e : TypeId} {sz n cap : Nat} {a : Option Addr} {xs : List Value} (hm : Mem E I (.row (.slice a n cap) e sz n xs :: H) w) (hn : 0 < n) : ∃ b, a = some ⟨b, 0, none⟩ := by
  obtain ⟨b, cp, cur, hv, _⟩ := hm.openRow hn
  injection hv with h1 _ _
  exact ⟨b, h1⟩
theorem Mem.rowLen {e : TypeId} {sz n : Nat} {v : Value} {xs : List Value} (hm : Mem E I (.row v e sz n xs :: H) w) : xs.length = n * sz := (hm.ok _ List.mem_cons_self).1
/-- a cell of an owned row is written. -/
theorem m_storeRow {by_ : Nat} [Elem P t 1 by_] {b off n cap sz : Nat} {e : TypeId} {xs : List Value} {v : Value} {dst : Option Nat} (hm : Mem E I (.row (.slice (some ⟨b, 0, none⟩) n cap) e sz n xs :: H) w) (hd : dst = none) (hw : want ops l ⟨dst, .store t x y, ty, pos, af, g⟩ = some true)
    (hx : ev l x = some (.pointer (some ⟨b, off, none⟩))) (hy : ev l y = some v) (hn1 : v.cells.toList = [v]) (h1 : v.oneCell' = true) (ho : off < xs.length)
    (k : ∀ w', Mem E I (.row (.slice (some ⟨b, 0, none⟩) n cap) e sz n (xs.set off v) :: H) w' → WL P N ds ops Q os l w') :
    WL P N ds ops Q (⟨dst, .store t x y, ty, pos, af, g⟩ :: os) l w := by
  have h0 := hm.rowLen
  rcases Nat.eq_zero_or_pos n with hn | hn
  · subst hn; rw [Nat.zero_mul] at h0; omega
  obtain ⟨b', cp, cur, hv, hm2, hcp, hcm, hs, ht⟩ := hm.openRow hn
  injection hv with e1 _ e3
  injection e1 with e1
  injection e1 with e1
  subst e1; subst e3
  obtain ⟨cL, rfl⟩ : ∃ cL : List Value, cur = cL.toArray := ⟨cur.toList, by simp⟩
  have hs' : cL.length = cap * sz := by simpa using hs
  have ht' : cL.take (n * sz) = xs := by simpa using ht
  have hle : n * sz ≤ cap * sz := Nat.mul_le_mul_right _ hcp
  refine m_store1 (i:=0) hm2 hd hw hx hy rfl hn1 (by rw [Nat.blt_eq]; omega) h1 (fun w2 hm3 => k w2 ?_)
  have hm4 : Mem E I (.obj b (.cells (cL.set off v).toArray e (0, 0)) :: H) w2 := hm3
  exact hm4.shutRow hcp hcm (by simpa using hs') (by simp only; rw [List.take_set, ht'])
end
/-! the parts of what is owned, one behind the other -/
end Go.Fw
end
