/- Own work: texts SpecSmall, SpecCnt, SpecAll, SpecRuns, SpecChange, one behind the other. -/
import Derived.Test.YthmdffgiockcbaaGreatDoorRb10
section
namespace Go.Sp
mutual
def Ex.small : Ex → Prop
  | .mk _ _ _ args _ _ => args.length ≤ 64 ∧ exsSmall args
def exsSmall : List Ex → Prop
  | [] => True
  | e :: es => e.small ∧ exsSmall es
 end
mutual
def Stm.small : Stm → Prop
  | .mk _ _ _ _ _ e thn els _ _ => e.small ∧ thn.length ≤ 64 ∧ stmsSmall thn ∧ els.length ≤ 64 ∧ stmsSmall els
def stmsSmall : List Stm → Prop
  | [] => True
  | e :: es => e.small ∧ stmsSmall es
 end
theorem exsSmall_snoc : ∀ {l : List Ex} {e : Ex}, exsSmall l → e.small → exsSmall (l ++ [e])
  | [], e, _, h => by rw [List.nil_append, exsSmall, exsSmall]; exact ⟨h, trivial⟩
  | a :: l, e, h, he => by
    rw [exsSmall] at h
    rw [List.cons_append, exsSmall]
    exact ⟨h.1, exsSmall_snoc h.2 he⟩
theorem stmsSmall_snoc : ∀ {l : List Stm} {e : Stm}, stmsSmall l → e.small → stmsSmall (l ++ [e])
  | [], e, _, h => by rw [List.nil_append, stmsSmall, stmsSmall]; exact ⟨h, trivial⟩
  | a :: l, e, h, he => by
    rw [stmsSmall] at h
    rw [List.cons_append, stmsSmall]
    exact ⟨h.1, stmsSmall_snoc h.2 he⟩
theorem exsSmall_get : ∀ {l : List Ex} {i : Nat} {e : Ex}, exsSmall l → l[i]? = some e → e.small
  | [], _, _, _, h => by simp at h
  | a :: l, 0, e, h, he => by
    rw [exsSmall] at h
    simp only [List.getElem?_cons_zero, Option.some.injEq] at he
    exact he ▸ h.1
  | a :: l, i + 1, e, h, he => by
    rw [exsSmall] at h
    exact exsSmall_get h.2 (by simpa using he)
theorem stmsSmall_get : ∀ {l : List Stm} {i : Nat} {e : Stm}, stmsSmall l → l[i]? = some e → e.small
  | [], _, _, _, h => by simp at h
  | a :: l, 0, e, h, he => by
    rw [stmsSmall] at h
    simp only [List.getElem?_cons_zero, Option.some.injEq] at he
    exact he ▸ h.1
  | a :: l, i + 1, e, h, he => by
    rw [stmsSmall] at h
    exact stmsSmall_get h.2 (by simpa using he)
theorem leaf_small (k n f t : Nat) (nm : List UInt8) : (Ex.mk k nm n [] f t).small := by rw [Ex.small, exsSmall]; exact ⟨by simp, trivial⟩
theorem small_expr (T : Src) : ∀ f, (∀ d s, (atom T f d s).1.small) ∧ (∀ d l s, l.length ≤ 5 → exsSmall l → (argL T f d l s).1.length ≤ 5 ∧ exsSmall (argL T f d l s).1) ∧ (∀ d m s, (expr T f d m s).1.small) ∧ (∀ d m e s, Ex.small e → (opL T f d m e s).1.small)
  | 0 => ⟨fun _ _ => by rw [atom]; exact leaf_small _ _ _ _ _, fun _ _ _ h1 h2 => by rw [argL]; exact ⟨h1, h2⟩, fun _ _ _ => by rw [expr]; exact leaf_small _ _ _ _ _, fun _ _ _ _ h => by rw [opL]; exact h⟩
  | f + 1 => by
    obtain ⟨hA, hL, hE, hO⟩ := small_expr T f
    refine ⟨fun d s => ?_, fun d l s h1 h2 => ?_, fun d m s => ?_, fun d m e s h => ?_⟩
    · rw [atom]
      dsimp only
      split
      · exact leaf_small _ _ _ _ _
      · split
        · exact leaf_small _ _ _ _ _
        · split
          · split <;> exact leaf_small _ _ _ _ _
          · split
            · exact hE _ _ _
            · split
              · exact leaf_small _ _ _ _ _
              · split
                · exact leaf_small _ _ _ _ _
                · have := hL (d + 1) [] s.next.next (by simp) (by rw [exsSmall]; trivial)
                  rw [Ex.small]
                  exact ⟨by omega, this.2⟩
    · rw [argL]
      split
      · exact ⟨h1, h2⟩
      · split
        · exact ⟨h1, h2⟩
        · rename_i h5
          have hs := exsSmall_snoc h2 (hE d 1 s)
          have hl : (l ++ [(expr T f d 1 s).1]).length ≤ 5 := by simp; omega
          try dsimp only
          split
          · exact hL _ _ _ hl hs
          · exact ⟨hl, hs⟩
    · rw [expr]
      try dsimp only
      exact hO _ _ _ _ (hA _ _)
    · rw [opL]
      try dsimp only
      split
      · exact h
      · refine hO _ _ _ _ ?_
        rw [Ex.small, exsSmall, exsSmall, exsSmall]
        exact ⟨by simp, h, hE _ _ _, trivial⟩
theorem stmsSmall_nil : stmsSmall [] := by rw [stmsSmall]; trivial
theorem simple_small (k a lb f t : Nat) (o : Bool) (nm : List UInt8) (e : Ex) (h : e.small) : (Stm.mk k nm a lb o e [] [] f t).small := by
  rw [Stm.small]; exact ⟨h, by simp, stmsSmall_nil, by simp, stmsSmall_nil⟩
theorem small_block (T : Src) : ∀ f, (∀ d s, (block T f d s).1.length ≤ 40 ∧ stmsSmall (block T f d s).1) ∧ (∀ d l s, l.length ≤ 40 → stmsSmall l → (stmL T f d l s).1.length ≤ 40 ∧ stmsSmall (stmL T f d l s).1) ∧ (∀ d s, (stm T f d s).1.small)
  | 0 => ⟨fun _ _ => by rw [block]; exact ⟨by simp, stmsSmall_nil⟩, fun _ _ _ h1 h2 => by rw [stmL]; exact ⟨h1, h2⟩, fun _ s => by rw [stm]; exact simple_small _ _ _ _ _ _ _ _ (leaf_small _ _ _ _ _)⟩
  | f + 1 => by
    obtain ⟨hB, hL, hS⟩ := small_block T f
    have hE := (small_expr T f).2.2.1
    refine ⟨fun d s => ?_, fun d l s h1 h2 => ?_, fun d s => ?_⟩
    · rw [block]
      split
      · exact ⟨by simp, stmsSmall_nil⟩
      · split
        · exact ⟨by simp, stmsSmall_nil⟩
        · dsimp only
          exact hL _ _ _ (by simp) stmsSmall_nil
    · rw [stmL]
      split
      · exact ⟨h1, h2⟩
      · split
        · exact ⟨h1, h2⟩
        · dsimp only
          exact hL _ _ _ (by simp; omega) (stmsSmall_snoc h2 (hS d s))
    · rw [stm]
      dsimp only
      have two : ∀ (k a lb f t : Nat) (o : Bool) (nm : List UInt8) (e : Ex) (b c : List Stm), e.small → b.length ≤ 40 ∧ stmsSmall b → c.length ≤ 40 ∧ stmsSmall c → (Stm.mk k nm a lb o e b c f t).small := fun k a lb f t o nm e b c h1 h2 h3 => by
        rw [Stm.small]; exact ⟨h1, by omega, h2.2, by omega, h3.2⟩
      have nil2 : ([] : List Stm).length ≤ 40 ∧ stmsSmall [] := ⟨by simp, stmsSmall_nil⟩
      repeat' split
      all_goals first
        | exact simple_small _ _ _ _ _ _ _ _ (hE _ _ _)
        | exact two _ _ _ _ _ _ _ _ _ _ (hE _ _ _) (hB _ _) (hB _ _)
        | exact two _ _ _ _ _ _ _ _ _ _ (hE _ _ _) (hB _ _) nil2
        | exact simple_small _ _ _ _ _ _ _ _ (leaf_small _ _ _ _ _)
theorem parL_few (T : Src) : ∀ (f : Nat) (l : List Par) (s : St), l.length ≤ 5 → (parL T f l s).1.length ≤ 5 ∧ (s.i ≤ T.l.length → s.i ≤ (parL T f l s).2.i ∧ (parL T f l s).2.i ≤ T.l.length ∧ (parL T f l s).2.ds.length ≤ s.ds.length + 2 * ((parL T f l s).2.i - s.i) + 3 * f)
  | 0, l, s, h => by rw [parL]; exact ⟨h, fun hi => ⟨Nat.le_refl _, hi, by dsimp only; omega⟩⟩
  | f + 1, l, s, h => by
    rw [parL]
    split
    · exact ⟨h, fun hi => ⟨Nat.le_refl _, hi, by dsimp only; omega⟩⟩
    · split
      · exact ⟨h, fun hi => ⟨Nat.le_refl _, hi, by simp [St.bad]; omega⟩⟩
      · dsimp only
        have g1 := goes_named T s
        have g2 := goes_need T (s.named T).2 [58]
        have g3 := goes_lab T ((s.named T).2.need T [58]).2
        have a1 := g1.le; have a2 := g1.top; have a3 := g1.ds
        have b1 := g2.le; have b2 := g2.top; have b3 := g2.ds
        have c1 := g3.le; have c2 := g3.top; have c3 := g3.ds
        split
        · exact ⟨h, fun hi => ⟨by dsimp only; omega, b2 (a2 hi), by dsimp only; omega⟩⟩
        · split
          · rename_i h5
            have h6 := is_lt h5
            have ih := parL_few T f (l ++ [⟨(s.named T).1, (lab T ((s.named T).2.need T [58]).2).1, (T.tok s.i).pos⟩]) (lab T ((s.named T).2.need T [58]).2).2.next (by simp; omega)
            refine ⟨ih.1, fun hi => ?_⟩
            have e1 : (lab T ((s.named T).2.need T [58]).2).2.next.i = (lab T ((s.named T).2.need T [58]).2).2.i + 1 := rfl
            have e2 : (lab T ((s.named T).2.need T [58]).2).2.next.ds.length = (lab T ((s.named T).2.need T [58]).2).2.ds.length := rfl
            obtain ⟨i1, i2, i3⟩ := ih.2 (by omega)
            exact ⟨by omega, i2, by omega⟩
          · exact ⟨by simp; omega, fun hi => ⟨by dsimp only; omega, c2 (b2 (a2 hi)), by dsimp only; omega⟩⟩
theorem sndL_few (T : Src) : ∀ (f : Nat) (l : List Rf) (s : St), l.length ≤ 5 → (sndL T f l s).1.length ≤ 5 ∧ (s.i ≤ T.l.length → s.i ≤ (sndL T f l s).2.i ∧ (sndL T f l s).2.i ≤ T.l.length ∧ (sndL T f l s).2.ds.length ≤ s.ds.length + 2 * ((sndL T f l s).2.i - s.i) + 3 * f)
  | 0, l, s, h => by rw [sndL]; exact ⟨h, fun hi => ⟨Nat.le_refl _, hi, by dsimp only; omega⟩⟩
  | f + 1, l, s, h => by
    rw [sndL]
    split
    · exact ⟨h, fun hi => ⟨Nat.le_refl _, hi, by simp [St.bad]; omega⟩⟩
    · dsimp only
      have g1 := goes_named T s
      have a1 := g1.le; have a2 := g1.top; have a3 := g1.ds
      split
      · rename_i h5
        have h6 := is_lt h5
        have ih := sndL_few T f (l ++ [⟨(s.named T).1, (T.tok s.i).pos⟩]) (s.named T).2.next (by simp; omega)
        refine ⟨ih.1, fun hi => ?_⟩
        have e1 : (s.named T).2.next.i = (s.named T).2.i + 1 := rfl
        have e2 : (s.named T).2.next.ds.length = (s.named T).2.ds.length := rfl
        obtain ⟨i1, i2, i3⟩ := ih.2 (by omega)
        exact ⟨by omega, i2, by omega⟩
      · exact ⟨by simp; omega, fun hi => ⟨by dsimp only; omega, a2 hi, by dsimp only; omega⟩⟩
structure Itm.small (it : Itm) : Prop where
  params : it.params.length ≤ 5
  sends : it.sends.length ≤ 5
  body : it.body.length ≤ 40
  stms : stmsSmall it.body
  diags : it.diags.length ≤ 40000000
theorem fnItm_small (T : Src) (at_ : Int) (size : Nat) (s : St) (hT : T.l.length ≤ 1048576) (hi : s.i ≤ T.l.length) (hd : s.ds = []) :
    (fnItm T at_ size s).1.params.length ≤ 5 ∧ (fnItm T at_ size s).1.sends.length ≤ 5 ∧ (fnItm T at_ size s).1.body.length ≤ 40 ∧ stmsSmall (fnItm T at_ size s).1.body ∧ (fnItm T at_ size s).2.ds.length ≤ 39000000 := by
  rw [fnItm]
  dsimp only
  have g1 := goes_named T s
  generalize s.named T = r at g1 ⊢
  have g2 := goes_need T r.2 [40]
  generalize r.2.need T [40] = s1 at g2 ⊢
  have p := parL_few T 6 [] s1.2 (by simp)
  generalize parL T 6 [] s1.2 = r2 at p ⊢
  have g3 := goes_need T r2.2 [41]
  generalize r2.2.need T [41] = s3 at g3 ⊢
  have g4 := goes_need T s3.2 [58]
  generalize s3.2.need T [58] = s4 at g4 ⊢
  have g5 := goes_lab T s4.2
  generalize lab T s4.2 = r5 at g5 ⊢
  have hd0 : s.ds.length = 0 := by rw [hd]; rfl
  have a2 := g1.top hi; have a3 := g1.ds; have a1 := g1.le
  have b2 := g2.top a2; have b3 := g2.ds; have b1 := g2.le
  obtain ⟨p1, p2⟩ := p
  obtain ⟨p3, p4, p5⟩ := p2 b2
  have c2 := g3.top p4; have c3 := g3.ds; have c1 := g3.le
  have d2 := g4.top c2; have d3 := g4.ds; have d1 := g4.le
  have e2 := g5.top d2; have e3 := g5.ds; have e1 := g5.le
  have q : ∀ r6 : List Rf × St, r6 = (if T.is r5.2.i [115, 101, 110, 100, 115] = true then sndL T 6 [] r5.2.next else ([], r5.2)) → r6.1.length ≤ 5 ∧ r6.2.i ≤ T.l.length ∧ r6.2.ds.length ≤ r5.2.ds.length + 2 * (T.l.length) + 18 := fun r6 h => by
    by_cases hs : T.is r5.2.i [115, 101, 110, 100, 115] = true
    · rw [if_pos hs] at h
      have hlt := is_lt hs
      have q := sndL_few T 6 [] r5.2.next (by simp)
      have f1 : r5.2.next.i = r5.2.i + 1 := rfl
      have f2 : r5.2.next.ds.length = r5.2.ds.length := rfl
      obtain ⟨q3, q4, q5⟩ := q.2 (by omega)
      rw [h]
      exact ⟨q.1, q4, by omega⟩
    · rw [if_neg hs] at h
      rw [h]
      exact ⟨by simp, e2, by dsimp only; omega⟩
  obtain ⟨r6, h6⟩ : ∃ r6, r6 = (if T.is r5.2.i [115, 101, 110, 100, 115] = true then sndL T 6 [] r5.2.next else ([], r5.2)) := ⟨_, rfl⟩
  obtain ⟨q1, q2, q3⟩ := q r6 h6
  rw [← h6]
  have hb := (small_block T (fuel T)).1 0 r6.2
  have gb := (goes_block T (fuel T)).1 0 r6.2
  have h1 := gb.ds
  have h2 := gb.top q2
  exact ⟨p1, q1, hb.1, hb.2, by omega⟩
theorem itemQ_small (T : Src) (at_ : Int) (size : Nat) (hT : T.l.length ≤ 1048576) :
    (itemQ T at_ size).1.params.length ≤ 5 ∧ (itemQ T at_ size).1.sends.length ≤ 5 ∧ (itemQ T at_ size).1.body.length ≤ 40 ∧ stmsSmall (itemQ T at_ size).1.body ∧ (itemQ T at_ size).2.ds.length ≤ 39000000 := by
  rw [itemQ]
  split
  · rename_i h
    exact fnItm_small T at_ size ⟨1, []⟩ hT (is_lt h) rfl
  · split
    · rename_i h
      have hlt := is_lt h
      rw [chItm]
      dsimp only
      have g1 := goes_named T ⟨1, []⟩
      generalize (⟨1, []⟩ : St).named T = r at g1 ⊢
      have g2 := goes_need T r.2 [58]
      generalize r.2.need T [58] = s1 at g2 ⊢
      have g3 := goes_lab T s1.2
      generalize lab T s1.2 = r2 at g3 ⊢
      have g4 := goes_need T r2.2 [59]
      generalize r2.2.need T [59] = s3 at g4 ⊢
      have a2 := g1.top hlt; have a3 := g1.ds; have a1 := g1.le
      have b2 := g2.top a2; have b3 := g2.ds; have b1 := g2.le
      have c2 := g3.top b2; have c3 := g3.ds; have c1 := g3.le
      have d2 := g4.top c2; have d3 := g4.ds; have d1 := g4.le
      dsimp only [List.length_nil] at a1 a3
      exact ⟨by simp, by simp, by simp, stmsSmall_nil, by omega⟩
    · exact ⟨by simp, by simp, by simp, stmsSmall_nil, by simp [St.bad]⟩
theorem item_small (src : List UInt8) (at_ : Int) (h : src.length ≤ 1048576) : (item src at_).small := by
  have hl := toks_len src
  rw [item_eq]
  have hT : (Src.mk (tokens src) src.length).l.length ≤ 1048576 := by dsimp only; omega
  generalize Src.mk (tokens src) src.length = T at hT ⊢
  obtain ⟨h1, h2, h3, h4, h5⟩ := itemQ_small T at_ src.length hT
  rw [itemT]
  refine ⟨h1, h2, h3, h4, ?_⟩
  dsimp only
  split
  · simp [St.bad]; omega
  · omega
theorem item_at (src : List UInt8) (at_ : Int) : (item src at_).at_ = at_ := by
  rw [item_eq]
  show (itemQ _ at_ _).1.at_ = at_
  rw [itemQ]
  split
  · rfl
  · split <;> rfl
theorem small_args {e : Ex} (h : e.small) : e.args.length ≤ 64 ∧ exsSmall e.args := by
  cases e with
  | mk k n m a f t => rw [Ex.small] at h; exact h
theorem size_args {e a : Ex} (h : a ∈ e.args) : SizeOf.sizeOf a < SizeOf.sizeOf e := by
  cases e with
  | mk k n m l f t =>
    have h' : a ∈ l := h
    have := List.sizeOf_lt_of_mem h'
    simp only [Ex.mk.sizeOf_spec]
    omega
theorem small_parts {s : Stm} (h : s.small) : s.e.small ∧ s.thn.length ≤ 64 ∧ stmsSmall s.thn ∧ s.els.length ≤ 64 ∧ stmsSmall s.els := by
  cases s with
  | mk k n a l o e t x f u => rw [Stm.small] at h; exact h
theorem size_thn {s : Stm} : SizeOf.sizeOf s.thn < SizeOf.sizeOf s ∧ SizeOf.sizeOf s.els < SizeOf.sizeOf s := by
  cases s with
  | mk k n a l o e t x f u =>
    simp only [Stm.mk.sizeOf_spec, Stm.thn, Stm.els]
    omega
theorem sizeL_mem {l : List Stm} {s : Stm} (h : s ∈ l) : SizeOf.sizeOf s < SizeOf.sizeOf l := List.sizeOf_lt_of_mem h
end Go.Sp
end
section
namespace Go.Sp
mutual
def Ex.cnt : Ex → Nat
  | .mk _ _ _ args _ _ => exsCnt args + 1
def exsCnt : List Ex → Nat
  | [] => 0
  | e :: es => e.cnt + exsCnt es
 end
mutual
def Stm.cnt : Stm → Nat
  | .mk _ _ _ _ _ e thn els _ _ => e.cnt + stmsCnt thn + stmsCnt els + 1
def stmsCnt : List Stm → Nat
  | [] => 0
  | x :: xs => x.cnt + stmsCnt xs
 end
theorem exsCnt_app : ∀ (l r : List Ex), exsCnt (l ++ r) = exsCnt l + exsCnt r
  | [], r => by rw [exsCnt]; simp
  | e :: l, r => by rw [List.cons_append, exsCnt, exsCnt, exsCnt_app l r]; omega
theorem stmsCnt_app : ∀ (l r : List Stm), stmsCnt (l ++ r) = stmsCnt l + stmsCnt r
  | [], r => by rw [stmsCnt]; simp
  | e :: l, r => by rw [List.cons_append, stmsCnt, stmsCnt, stmsCnt_app l r]; omega
theorem exsCnt_one (e : Ex) : exsCnt [e] = e.cnt := by rw [exsCnt, exsCnt]; omega
theorem stmsCnt_one (e : Stm) : stmsCnt [e] = e.cnt := by rw [stmsCnt, stmsCnt]; omega
theorem leaf_cnt (k n f t : Nat) (nm : List UInt8) : (Ex.mk k nm n [] f t).cnt = 1 := by rw [Ex.cnt, exsCnt]
theorem need_le (T : Src) (s : St) (w : List UInt8) : s.i ≤ (s.need T w).2.i := (goes_need T s w).le
theorem cnt_expr (T : Src) : ∀ f, (∀ d s, (atom T f d s).1.cnt ≤ 2 * ((atom T f d s).2.i - s.i) + 1) ∧ (∀ d l s, exsCnt (argL T f d l s).1 ≤ exsCnt l + 2 * ((argL T f d l s).2.i - s.i) + 1) ∧
    (∀ d m s, (expr T f d m s).1.cnt ≤ 2 * ((expr T f d m s).2.i - s.i) + 1) ∧ (∀ d m e s, (opL T f d m e s).1.cnt ≤ e.cnt + 2 * ((opL T f d m e s).2.i - s.i))
  | 0 => ⟨fun _ _ => by rw [atom]; show (Ex.mk 0 [] 0 [] 0 0).cnt ≤ _; rw [leaf_cnt]; omega, fun _ _ _ => by rw [argL]; dsimp only; omega,
      fun _ _ _ => by rw [expr]; show (Ex.mk 0 [] 0 [] 0 0).cnt ≤ _; rw [leaf_cnt]; omega, fun _ _ _ _ => by rw [opL]; dsimp only; omega⟩
  | f + 1 => by
    obtain ⟨hA, hL, hE, hO⟩ := cnt_expr T f
    obtain ⟨gA, gL, gE, gO⟩ := goes_expr T f
    refine ⟨fun d s => ?_, fun d l s => ?_, fun d m s => ?_, fun d m e s => ?_⟩
    · rw [atom]
      dsimp only
      split
      · rw [none_]; dsimp only; rw [leaf_cnt]; omega
      · split
        · rw [none_]; dsimp only; rw [leaf_cnt]; omega
        · split
          · split
            · dsimp only; rw [leaf_cnt]; omega
            · dsimp only; rw [leaf_cnt]; omega
          · split
            · have h1 := hE (d + 1) 1 s.next
              have h2 := (gE (d + 1) 1 s.next).le
              have h3 := need_le T (expr T f (d + 1) 1 s.next).2 [41]
              rw [next_i] at h1 h2
              dsimp only
              omega
            · split
              · rw [none_]; dsimp only; rw [leaf_cnt]; omega
              · split
                · dsimp only; rw [leaf_cnt]; omega
                · have h1 := hL (d + 1) [] s.next.next
                  have h2 := (gL (d + 1) [] s.next.next).le
                  have h3 := need_le T (argL T f (d + 1) [] s.next.next).2 [41]
                  rw [next_i, next_i] at h1 h2
                  rw [exsCnt] at h1
                  dsimp only
                  rw [Ex.cnt]
                  omega
    · rw [argL]
      split
      · dsimp only; omega
      · split
        · dsimp only; omega
        · have h1 := hE d 1 s
          have h2 := (gE d 1 s).le
          try dsimp only
          split
          · have h3 := hL d (l ++ [(expr T f d 1 s).1]) (expr T f d 1 s).2.next
            have h4 := (gL d (l ++ [(expr T f d 1 s).1]) (expr T f d 1 s).2.next).le
            rw [next_i] at h3 h4
            rw [exsCnt_app, exsCnt_one] at h3
            omega
          · dsimp only
            rw [exsCnt_app, exsCnt_one]
            omega
    · rw [expr]
      try dsimp only
      have h1 := hA d s
      have h2 := (gA d s).le
      have h3 := hO d m (atom T f d s).1 (atom T f d s).2
      have h4 := (gO d m (atom T f d s).1 (atom T f d s).2).le
      omega
    · rw [opL]
      try dsimp only
      split
      · dsimp only; omega
      · have h1 := hE d (tight (T.tok s.i).text + 1) s.next
        have h2 := (gE d (tight (T.tok s.i).text + 1) s.next).le
        rw [next_i] at h1 h2
        generalize expr T f d (tight (T.tok s.i).text + 1) s.next = r at h1 h2 ⊢
        have h3 := hO d m (.mk 3 (T.tok s.i).text 0 [e, r.1] e.fr (max r.1.to e.to)) r.2
        have h4 := (gO d m (.mk 3 (T.tok s.i).text 0 [e, r.1] e.fr (max r.1.to e.to)) r.2).le
        rw [Ex.cnt, exsCnt, exsCnt_one] at h3
        omega
theorem cnt_block (T : Src) : ∀ f, (∀ d s, stmsCnt (block T f d s).1 ≤ 8 * ((block T f d s).2.i - s.i)) ∧ (∀ d l s, stmsCnt (stmL T f d l s).1 ≤ stmsCnt l + 8 * ((stmL T f d l s).2.i - s.i)) ∧
    (∀ d s, (stm T f d s).1.cnt ≤ 8 * max ((stm T f d s).2.i - s.i) 1)
  | 0 => ⟨fun _ _ => by rw [block]; dsimp only; rw [stmsCnt]; omega, fun _ _ _ => by rw [stmL]; dsimp only; omega,
      fun _ s => by rw [stm]; show (Stm.mk 0 [] 0 0 false (.mk 0 [] 0 [] 0 0) [] [] 0 0).cnt ≤ _; rw [Stm.cnt, leaf_cnt, stmsCnt]; omega⟩
  | f + 1 => by
    obtain ⟨hB, hL, hS⟩ := cnt_block T f
    obtain ⟨gB, gL, gS⟩ := goes_block T f
    have hE := (cnt_expr T f).2.2.1
    have gE := (goes_expr T f).2.2.1
    refine ⟨fun d s => ?_, fun d l s => ?_, fun d s => ?_⟩
    · rw [block]
      split
      · dsimp only; rw [stmsCnt]; omega
      · split
        · dsimp only; rw [stmsCnt]; omega
        · have h1 := hL (d + 1) [] s.next
          have h2 := (gL (d + 1) [] s.next).le
          have h3 := need_le T (stmL T f (d + 1) [] s.next).2 [125]
          rw [next_i] at h1 h2
          rw [stmsCnt] at h1
          try dsimp only
          omega
    · rw [stmL]
      split
      · dsimp only; omega
      · split
        · dsimp only; omega
        · have h1 := hS d s
          have h2 := (gS d s).le
          try dsimp only
          split
          · rename_i he
            have h3 := hL d (l ++ [(stm T f d s).1]) (stm T f d s).2.next
            have h4 := (gL d (l ++ [(stm T f d s).1]) (stm T f d s).2.next).le
            rw [next_i] at h3 h4
            rw [stmsCnt_app, stmsCnt_one] at h3
            omega
          · rename_i he
            have h3 := hL d (l ++ [(stm T f d s).1]) (stm T f d s).2
            have h4 := (gL d (l ++ [(stm T f d s).1]) (stm T f d s).2).le
            rw [stmsCnt_app, stmsCnt_one] at h3
            omega
    · rw [stm]
      dsimp only
      split
      · have h1 := (goes_named T s.next).le
        rw [next_i] at h1
        generalize s.next.named T = r at h1 ⊢
        generalize hr1 : (if (!T.is r.2.i [58]) = true then (0, r.2) else lab T r.2.next) = r1
        have h2 : r.2.i ≤ r1.2.i := by
          rw [← hr1]
          split
          · exact Nat.le_refl _
          · have := (goes_lab T r.2.next).le
            rw [next_i] at this
            omega
        have h3 := need_le T r1.2 [61]
        have h4 := hE d 1 (r1.2.need T [61]).2
        have h5 := (gE d 1 (r1.2.need T [61]).2).le
        have h6 := need_le T (expr T f d 1 (r1.2.need T [61]).2).2 [59]
        try dsimp only
        rw [Stm.cnt, stmsCnt]
        omega
      · split
        · have h1 := hE d 1 s.next
          have h2 := (gE d 1 s.next).le
          rw [next_i] at h1 h2
          generalize expr T f d 1 s.next = r at h1 h2 ⊢
          have h3 := hB d r.2
          have h4 := (gB d r.2).le
          generalize block T f d r.2 = r1 at h3 h4 ⊢
          split
          · have h5 := hB d r1.2.next
            have h6 := (gB d r1.2.next).le
            rw [next_i] at h5 h6
            dsimp only
            try dsimp only
            rw [Stm.cnt]
            omega
          · dsimp only
            try dsimp only
            rw [Stm.cnt, stmsCnt]
            omega
        · split
          · have h1 := hE d 1 s.next
            have h2 := (gE d 1 s.next).le
            rw [next_i] at h1 h2
            generalize expr T f d 1 s.next = r at h1 h2 ⊢
            have h3 := hB d r.2
            have h4 := (gB d r.2).le
            try dsimp only
            rw [Stm.cnt, stmsCnt]
            omega
          · split
            · have h1 := (goes_named T s.next).le
              rw [next_i] at h1
              generalize s.next.named T = r at h1 ⊢
              have h4 := hE d 1 r.2
              have h5 := (gE d 1 r.2).le
              have h6 := need_le T (expr T f d 1 r.2).2 [59]
              try dsimp only
              rw [Stm.cnt, stmsCnt]
              omega
            · split
              · have h4 := hE d 1 s.next
                have h5 := (gE d 1 s.next).le
                have h6 := need_le T (expr T f d 1 s.next).2 [59]
                rw [next_i] at h4 h5
                try dsimp only
                rw [Stm.cnt, stmsCnt]
                omega
              · split
                · split
                  · have h4 := hE d 1 s.next.next
                    have h5 := (gE d 1 s.next.next).le
                    have h6 := need_le T (expr T f d 1 s.next.next).2 [59]
                    rw [next_i, next_i] at h4 h5
                    try dsimp only
                    rw [Stm.cnt, stmsCnt]
                    omega
                  · have h4 := hE d 1 s
                    have h5 := (gE d 1 s).le
                    have h6 := need_le T (expr T f d 1 s).2 [59]
                    try dsimp only
                    rw [Stm.cnt, stmsCnt]
                    omega
                · rw [Stm.cnt, stmsCnt]
                  show (Ex.mk 0 [] 0 [] 0 0).cnt + 0 + 0 + 1 ≤ _
                  rw [leaf_cnt]
                  omega
theorem need_top {T : Src} {s : St} (w : List UInt8) (h : s.i ≤ T.l.length) : (s.need T w).2.i ≤ T.l.length := (goes_need T s w).top h
theorem item_cnt (src : List UInt8) (at_ : Int) : stmsCnt (item src at_).body ≤ 8 * src.length := by
  have htl : (tokens src).length ≤ src.length := toks_len src
  rw [item]
  generalize hT : (⟨tokens src, src.length⟩ : Src) = T
  have hTl : T.l.length ≤ src.length := by rw [← hT]; exact htl
  dsimp only
  split
  · rename_i hfn
    have h0 := is_lt hfn
    dsimp only [fnItm]
    have h1 := (goes_named T ⟨1, []⟩).top (show 1 ≤ _ by omega)
    generalize (⟨1, []⟩ : St).named T = r at h1 ⊢
    have h2 := need_top [40] h1
    generalize (r.2.need T [40]).2 = s1 at h2 ⊢
    have h3 := ((parL_few T 6 [] s1 (by simp)).2 h2).2.1
    generalize parL T 6 [] s1 = r2 at h3 ⊢
    have h4 := need_top [41] h3
    generalize (r2.2.need T [41]).2 = s3 at h4 ⊢
    have h5 := need_top [58] h4
    generalize (s3.need T [58]).2 = s4 at h5 ⊢
    have h6 := (goes_lab T s4).top h5
    generalize lab T s4 = r5 at h6 ⊢
    generalize hr6 : (if T.is r5.2.i [115, 101, 110, 100, 115] = true then sndL T 6 [] r5.2.next else ([], r5.2)) = r6
    have h7 : r6.2.i ≤ T.l.length := by
      rw [← hr6]
      split
      · rename_i hs
        have := is_lt hs
        exact ((sndL_few T 6 [] r5.2.next (by simp)).2 (by rw [next_i]; omega)).2.1
      · exact h6
    have h8 := (cnt_block T (fuel T)).1 0 r6.2
    have h9 := ((goes_block T (fuel T)).1 0 r6.2).top h7
    omega
  · split
    · dsimp only [chItm]
      rw [stmsCnt]; omega
    · dsimp only
      rw [stmsCnt]; omega
end Go.Sp
end
section
namespace Go.Sp
abbrev PE := Nat → List UInt8 → Nat → Nat → Nat → Nat → Prop
abbrev PS := Nat → List UInt8 → Nat → Nat → Bool → Nat → Nat → Prop
mutual
def Ex.all (p : PE) : Ex → Prop
  | .mk k nm n args f t => p k nm n args.length f t ∧ exsAll p args
def exsAll (p : PE) : List Ex → Prop
  | [] => True
  | e :: es => e.all p ∧ exsAll p es
 end
mutual
def Stm.all (p : PE) (q : PS) : Stm → Prop
  | .mk k nm a lb o e thn els f t => q k nm a lb o f t ∧ e.all p ∧ stmsAll p q thn ∧ stmsAll p q els
def stmsAll (p : PE) (q : PS) : List Stm → Prop
  | [] => True
  | x :: xs => x.all p q ∧ stmsAll p q xs
 end
theorem exsAll_app {p : PE} : ∀ {l r : List Ex}, exsAll p l → exsAll p r → exsAll p (l ++ r)
  | [], r, _, h => h
  | e :: l, r, h, g => by
    rw [exsAll] at h
    rw [List.cons_append, exsAll]
    exact ⟨h.1, exsAll_app h.2 g⟩
theorem exsAll_one {p : PE} {e : Ex} (h : e.all p) : exsAll p [e] := by rw [exsAll, exsAll]; exact ⟨h, trivial⟩
theorem exsAll_nil {p : PE} : exsAll p [] := by rw [exsAll]; trivial
theorem stmsAll_nil {p : PE} {q : PS} : stmsAll p q [] := by rw [stmsAll]; trivial
theorem stmsAll_app {p : PE} {q : PS} : ∀ {l r : List Stm}, stmsAll p q l → stmsAll p q r → stmsAll p q (l ++ r)
  | [], r, _, h => h
  | e :: l, r, h, g => by
    rw [stmsAll] at h
    rw [List.cons_append, stmsAll]
    exact ⟨h.1, stmsAll_app h.2 g⟩
theorem stmsAll_one {p : PE} {q : PS} {e : Stm} (h : e.all p q) : stmsAll p q [e] := by rw [stmsAll, stmsAll]; exact ⟨h, trivial⟩
theorem exsAll_get {p : PE} : ∀ {l : List Ex} {i : Nat} {e : Ex}, exsAll p l → l[i]? = some e → e.all p
  | [], _, _, _, h => by simp at h
  | a :: l, 0, e, h, hg => by
    rw [exsAll] at h
    simp only [List.getElem?_cons_zero, Option.some.injEq] at hg
    subst hg; exact h.1
  | a :: l, i + 1, e, h, hg => by
    rw [exsAll] at h
    rw [List.getElem?_cons_succ] at hg
    exact exsAll_get h.2 hg
theorem stmsAll_get {p : PE} {q : PS} : ∀ {l : List Stm} {i : Nat} {e : Stm}, stmsAll p q l → l[i]? = some e → e.all p q
  | [], _, _, _, h => by simp at h
  | a :: l, 0, e, h, hg => by
    rw [stmsAll] at h
    simp only [List.getElem?_cons_zero, Option.some.injEq] at hg
    subst hg; exact h.1
  | a :: l, i + 1, e, h, hg => by
    rw [stmsAll] at h
    rw [List.getElem?_cons_succ] at hg
    exact stmsAll_get h.2 hg
theorem all_leaf {p : PE} {k n f t : Nat} {nm : List UInt8} (h : p k nm n 0 f t) : (Ex.mk k nm n [] f t).all p := by rw [Ex.all]; exact ⟨h, exsAll_nil⟩
theorem Ex.all_node {p : PE} {e : Ex} (h : e.all p) : p e.kind e.name e.n e.args.length e.fr e.to ∧ exsAll p e.args := by
  cases e; rw [Ex.all] at h; exact h
theorem Stm.all_node {p : PE} {q : PS} {e : Stm} (h : e.all p q) : q e.kind e.name e.at_ e.label e.opn e.fr e.to ∧ e.e.all p ∧ stmsAll p q e.thn ∧ stmsAll p q e.els := by
  cases e; rw [Stm.all] at h; exact h
mutual
theorem Ex.all_mono {p q : PE} (h : ∀ k nm n m f t, p k nm n m f t → q k nm n m f t) : ∀ (e : Ex), e.all p → e.all q
  | .mk k nm n args f t, ha => by rw [Ex.all] at ha ⊢; exact ⟨h _ _ _ _ _ _ ha.1, exsAll_mono h args ha.2⟩
theorem exsAll_mono {p q : PE} (h : ∀ k nm n m f t, p k nm n m f t → q k nm n m f t) : ∀ (l : List Ex), exsAll p l → exsAll q l
  | [], _ => exsAll_nil
  | e :: l, ha => by rw [exsAll] at ha ⊢; exact ⟨Ex.all_mono h e ha.1, exsAll_mono h l ha.2⟩
 end
mutual
theorem Stm.all_mono {p q : PE} {r s : PS} (h : ∀ k nm n m f t, p k nm n m f t → q k nm n m f t) (g : ∀ k nm a l o f t, r k nm a l o f t → s k nm a l o f t) : ∀ (e : Stm), e.all p r → e.all q s
  | .mk k nm a lb o e thn els f t, ha => by rw [Stm.all] at ha ⊢; exact ⟨g _ _ _ _ _ _ _ ha.1, Ex.all_mono h e ha.2.1, stmsAll_mono h g thn ha.2.2.1, stmsAll_mono h g els ha.2.2.2⟩
theorem stmsAll_mono {p q : PE} {r s : PS} (h : ∀ k nm n m f t, p k nm n m f t → q k nm n m f t) (g : ∀ k nm a l o f t, r k nm a l o f t → s k nm a l o f t) : ∀ (l : List Stm), stmsAll p r l → stmsAll q s l
  | [], _ => stmsAll_nil
  | e :: l, ha => by rw [stmsAll] at ha ⊢; exact ⟨Stm.all_mono h g e ha.1, stmsAll_mono h g l ha.2⟩
 end
structure AtE (T : Src) (p : PE) : Prop where
  zero : p 0 [] 0 0 0 0
  bad : ∀ i, p 5 [] 0 0 (T.tok i).pos (T.tok i).pos
  num : ∀ i n, n ≤ 1000000000 → (T.tok i).kind = 2 → p 1 [] n 0 (T.tok i).pos ((T.tok i).pos + (T.tok i).text.length)
  var : ∀ i, name (T.tok i).text = true → p 2 (T.tok i).text 0 0 (T.tok i).pos ((T.tok i).pos + (T.tok i).text.length)
  call : ∀ i j m, name (T.tok i).text = true → m ≤ 5 → p 4 (T.tok i).text 0 m (T.tok i).pos (T.endOf j)
  op : ∀ i k1 n1 v1 m1 f1 t1 k2 n2 v2 m2 f2 t2, tight (T.tok i).text ≠ 0 → p k1 n1 v1 m1 f1 t1 → p k2 n2 v2 m2 f2 t2 → p 3 (T.tok i).text 0 2 f1 (max t2 t1)
theorem all_expr {T : Src} {p : PE} (h : AtE T p) : ∀ f, (∀ d s, (atom T f d s).1.all p) ∧ (∀ d l s, l.length ≤ 5 → exsAll p l → (argL T f d l s).1.length ≤ 5 ∧ exsAll p (argL T f d l s).1) ∧
    (∀ d m s, (expr T f d m s).1.all p) ∧ (∀ d m e s, e.all p → (opL T f d m e s).1.all p)
  | 0 => ⟨fun _ _ => by rw [atom]; exact all_leaf h.zero, fun _ _ _ h1 h2 => by rw [argL]; exact ⟨h1, h2⟩, fun _ _ _ => by rw [expr]; exact all_leaf h.zero, fun _ _ _ _ h1 => by rw [opL]; exact h1⟩
  | f + 1 => by
    obtain ⟨hA, hL, hE, hO⟩ := all_expr h f
    refine ⟨fun d s => ?_, fun d l s h1 h2 => ?_, fun d m s => ?_, fun d m e s h1 => ?_⟩
    · rw [atom]
      dsimp only
      split
      · exact all_leaf (h.bad _)
      · split
        · exact all_leaf (h.bad _)
        · split
          · rename_i hk
            split
            · exact all_leaf (h.num _ 0 (by omega) hk)
            · exact all_leaf (h.num _ _ (by omega) hk)
          · split
            · exact hE _ _ _
            · split
              · exact all_leaf (h.bad _)
              · rename_i hn
                have hn' : name (T.tok s.i).text = true := by simpa using hn
                split
                · exact all_leaf (h.var _ hn')
                · obtain ⟨h1, h2⟩ := hL (d + 1) [] s.next.next (by simp) exsAll_nil
                  dsimp only
                  rw [Ex.all]
                  exact ⟨h.call _ _ _ hn' h1, h2⟩
    · rw [argL]
      split
      · exact ⟨h1, h2⟩
      · split
        · exact ⟨h1, h2⟩
        · have h3 := hE d 1 s
          have h4 : (l ++ [(expr T f d 1 s).1]).length ≤ 5 := by simp; omega
          have h5 := exsAll_app h2 (exsAll_one h3)
          dsimp only
          split
          · exact hL _ _ _ h4 h5
          · exact ⟨h4, h5⟩
    · rw [expr]
      try dsimp only
      exact hO _ _ _ _ (hA d s)
    · rw [opL]
      try dsimp only
      split
      · exact h1
      · rename_i ht
        refine hO _ _ _ _ ?_
        have h3 := hE d (tight (T.tok s.i).text + 1) s.next
        generalize (expr T f d (tight (T.tok s.i).text + 1) s.next).1 = r at h3 ⊢
        cases e with
        | mk k1 n1 v1 a1 f1 t1 =>
        cases r with
        | mk k2 n2 v2 a2 f2 t2 =>
        have g1 := h1
        have g3 := h3
        rw [Ex.all] at g1 g3
        rw [Ex.all]
        exact ⟨h.op _ _ _ _ _ _ _ _ _ _ _ _ _ (by omega) g1.1 g3.1, exsAll_app (exsAll_one h1) (exsAll_one h3)⟩
structure AtS (T : Src) (q : PS) : Prop where
  zero : q 0 [] 0 0 false 0 0
  let_ : ∀ i (s : St) lb o j, lb ≤ 255 → q 1 (s.named T).1 (T.tok s.i).pos lb o (T.tok i).pos (max (T.endOf j) (T.tok i).pos)
  set : ∀ i j, name (T.tok i).text = true → q 2 (T.tok i).text (T.tok i).pos 0 false (T.tok i).pos (max (T.endOf j) (T.tok i).pos)
  plain : ∀ k i j, (k = 3 ∨ k = 4 ∨ k = 6 ∨ k = 7 ∨ k = 8) → q k [] 0 0 false (T.tok i).pos (max (T.endOf j) (T.tok i).pos)
  send : ∀ i (s : St) j, q 5 (s.named T).1 (T.tok s.i).pos 0 false (T.tok i).pos (max (T.endOf j) (T.tok i).pos)
theorem tag_lt (a : Nat) (ha : a < 256) (q : Nat) (hq : q < 8) (h : bit a q = false) : a + 2 ^ q < 256 := by
  have key : ∀ a < 256, ∀ q < 8, bit a q = false → a + 2 ^ q < 256 := by decide +kernel
  exact key a ha q hq h
theorem labL_lt (T : Src) : ∀ (f n : Nat) (s : St), n < 256 → (labL T f n s).1 < 256
  | 0, n, s, h => h
  | f + 1, n, s, h => by
    rw [labL]
    split
    · exact h
    · dsimp only
      split
      · exact h
      · rename_i h2
        generalize hqd : ((T.tok s.i).text.getD 0 0).toNat - 97 = q
        have hq : q < 8 := by
          simp only [tagB, Bool.not_eq_true, Bool.not_eq_false', Bool.and_eq_true, decide_eq_true_eq] at h2
          omega
        cases hb : bit n q with
        | true =>
          simp only [if_true]
          split
          · exact labL_lt T f _ _ h
          · split
            · exact labL_lt T f _ _ h
            · exact h
        | false =>
          have hn := tag_lt n h q hq hb
          simp only [Bool.false_eq_true, if_false]
          split
          · exact labL_lt T f _ _ hn
          · split
            · exact labL_lt T f _ _ hn
            · exact hn
theorem lab_lt (T : Src) (s : St) : (lab T s).1 < 256 := by
  rw [lab]
  split
  · exact labL_lt T _ _ _ (by decide)
  · dsimp only; omega
theorem all_block {T : Src} {p : PE} {q : PS} (h : AtE T p) (g : AtS T q) : ∀ f, (∀ d s, stmsAll p q (block T f d s).1) ∧ (∀ d l s, stmsAll p q l → stmsAll p q (stmL T f d l s).1) ∧ (∀ d s, (stm T f d s).1.all p q)
  | 0 => ⟨fun _ _ => by rw [block]; exact stmsAll_nil, fun _ _ _ h1 => by rw [stmL]; exact h1, fun _ s => by
      rw [stm]
      show (Stm.mk 0 [] 0 0 false (.mk 0 [] 0 [] 0 0) [] [] 0 0).all p q
      rw [Stm.all]; exact ⟨g.zero, all_leaf h.zero, stmsAll_nil, stmsAll_nil⟩⟩
  | f + 1 => by
    obtain ⟨hB, hL, hS⟩ := all_block h g f
    have hE := (all_expr h f).2.2.1
    refine ⟨fun d s => ?_, fun d l s h1 => ?_, fun d s => ?_⟩
    · rw [block]
      split
      · exact stmsAll_nil
      · split
        · exact stmsAll_nil
        · dsimp only
          exact hL _ _ _ stmsAll_nil
    · rw [stmL]
      split
      · exact h1
      · split
        · exact h1
        · dsimp only
          exact hL _ _ _ (stmsAll_app h1 (stmsAll_one (hS d s)))
    · rw [stm]
      dsimp only
      split
      · rw [Stm.all]
        refine ⟨g.let_ s.i s.next _ _ _ ?_, hE _ _ _, stmsAll_nil, stmsAll_nil⟩
        split
        · dsimp only; omega
        · exact Nat.le_of_lt_succ (lab_lt T _)
      · split
        · split
          · dsimp only; rw [Stm.all]; exact ⟨g.plain _ _ _ (.inl rfl), hE _ _ _, hB _ _, hB _ _⟩
          · dsimp only; rw [Stm.all]; exact ⟨g.plain _ _ _ (.inl rfl), hE _ _ _, hB _ _, stmsAll_nil⟩
        · split
          · rw [Stm.all]; exact ⟨g.plain _ _ _ (.inr (.inl rfl)), hE _ _ _, hB _ _, stmsAll_nil⟩
          · split
            · rw [Stm.all]; exact ⟨g.send s.i s.next _, hE _ _ _, stmsAll_nil, stmsAll_nil⟩
            · split
              · rw [Stm.all]; exact ⟨g.plain _ _ _ (.inr (.inr (.inl rfl))), hE _ _ _, stmsAll_nil, stmsAll_nil⟩
              · split
                · rename_i hn
                  split
                  · rw [Stm.all]; exact ⟨g.set _ _ hn, hE _ _ _, stmsAll_nil, stmsAll_nil⟩
                  · rw [Stm.all]; exact ⟨g.plain _ _ _ (.inr (.inr (.inr (.inl rfl)))), hE _ _ _, stmsAll_nil, stmsAll_nil⟩
                · rw [Stm.all]
                  refine ⟨g.plain _ _ _ (.inr (.inr (.inr (.inr rfl)))), ?_, stmsAll_nil, stmsAll_nil⟩
                  exact all_leaf h.zero
theorem all_parL {T : Src} {r : Par → Prop} (h : ∀ (s : St) lb, lb ≤ 255 → r ⟨(s.named T).1, lb, (T.tok s.i).pos⟩) : ∀ (f : Nat) (l : List Par) (s : St), (∀ x ∈ l, r x) → ∀ x ∈ (parL T f l s).1, r x
  | 0, l, s, h1 => by rw [parL]; exact h1
  | f + 1, l, s, h1 => by
    rw [parL]
    split
    · exact h1
    · split
      · exact h1
      · dsimp only
        split
        · exact h1
        · have h2 : ∀ lb, lb ≤ 255 → ∀ x ∈ l ++ [⟨(s.named T).1, lb, (T.tok s.i).pos⟩], r x := fun lb hl x hx => by
            rcases List.mem_append.1 hx with hx | hx
            · exact h1 x hx
            · obtain rfl := List.mem_singleton.1 hx
              exact h s lb hl
          have h3 := fun s => Nat.le_of_lt_succ (lab_lt T s)
          split
          · exact all_parL h f _ _ (h2 _ (h3 _))
          · exact h2 _ (h3 _)
theorem all_sndL {T : Src} {r : Rf → Prop} (h : ∀ (s : St), r ⟨(s.named T).1, (T.tok s.i).pos⟩) : ∀ (f : Nat) (l : List Rf) (s : St), (∀ x ∈ l, r x) → ∀ x ∈ (sndL T f l s).1, r x
  | 0, l, s, h1 => by rw [sndL]; exact h1
  | f + 1, l, s, h1 => by
    rw [sndL]
    split
    · exact h1
    · dsimp only
      have h2 : ∀ x ∈ l ++ [⟨(s.named T).1, (T.tok s.i).pos⟩], r x := fun x hx => by
        rcases List.mem_append.1 hx with hx | hx
        · exact h1 x hx
        · obtain rfl := List.mem_singleton.1 hx
          exact h s
      split
      · exact all_sndL h f _ _ h2
      · exact h2
structure ItAll (T : Src) (p : PE) (q : PS) (r : Par → Prop) (t : Rf → Prop) (it : Itm) : Prop where
  body : stmsAll p q it.body
  params : ∀ x ∈ it.params, r x
  sends : ∀ x ∈ it.sends, t x
  few : it.params.length ≤ 5 ∧ it.sends.length ≤ 5 ∧ it.body.length ≤ 40
  label : it.label ≤ 255
  kind : 1 ≤ it.kind ∧ it.kind ≤ 3
  mark : (it.name = [] ∧ ((∃ i, it.mark = (T.tok i).pos) ∨ it.mark = 0)) ∨ ∃ s : St, it.name = (s.named T).1 ∧ it.mark = (T.tok s.i).pos
  bad : it.kind = 3 → it.name = [] ∧ it.label = 0 ∧ it.params = [] ∧ it.sends = [] ∧ it.body = []
  chan : it.kind = 1 → it.params = [] ∧ it.sends = [] ∧ it.body = []
theorem item_all {src : List UInt8} {p : PE} {q : PS} {r : Par → Prop} {t : Rf → Prop} (at_ : Int) (h : AtE ⟨tokens src, src.length⟩ p) (g : AtS ⟨tokens src, src.length⟩ q)
    (hr : ∀ (s : St) lb, lb ≤ 255 → r ⟨(s.named ⟨tokens src, src.length⟩).1, lb, ((⟨tokens src, src.length⟩ : Src).tok s.i).pos⟩)
    (ht : ∀ (s : St), t ⟨(s.named ⟨tokens src, src.length⟩).1, ((⟨tokens src, src.length⟩ : Src).tok s.i).pos⟩) : ItAll ⟨tokens src, src.length⟩ p q r t (item src at_) := by
  rw [item]
  generalize (⟨tokens src, src.length⟩ : Src) = T at h g hr ht ⊢
  dsimp only
  split
  · dsimp only [fnItm]
    have h6 : ∀ (c : Bool) (y z : St), ∀ x ∈ (if c = true then sndL T 6 [] y else ([], z)).1, t x := fun c y z => by
      split
      · exact all_sndL ht _ _ _ (by simp)
      · simp
    have l6 : ∀ (c : Bool) (y z : St), (if c = true then sndL T 6 [] y else ([], z)).1.length ≤ 5 := fun c y z => by
      split
      · exact (sndL_few T 6 [] _ (by simp)).1
      · simp
    exact ⟨(all_block h g _).1 _ _, all_parL hr _ _ _ (by simp), h6 _ _ _, ⟨(parL_few T 6 [] _ (by simp)).1, l6 _ _ _, ((small_block T _).1 _ _).1⟩, Nat.le_of_lt_succ (lab_lt T _), ⟨by simp, by simp⟩, .inr ⟨⟨1, []⟩, rfl, rfl⟩, fun h => (by simp at h), fun h => (by simp at h)⟩
  · split
    · dsimp only [chItm]
      exact ⟨stmsAll_nil, by simp, by simp, ⟨by simp, by simp, by simp⟩, Nat.le_of_lt_succ (lab_lt T _), ⟨by simp, by simp⟩, .inr ⟨⟨1, []⟩, rfl, rfl⟩, fun h => (by simp at h), fun _ => ⟨rfl, rfl, rfl⟩⟩
    · dsimp only
      exact ⟨stmsAll_nil, by simp, by simp, ⟨by simp, by simp, by simp⟩, by simp, ⟨by simp, by simp⟩, .inl ⟨rfl, .inr rfl⟩, fun _ => ⟨rfl, rfl, rfl, rfl, rfl⟩, fun h => (by simp at h)⟩
def labS : PS := fun _ _ _ l _ _ _ => l < 256
def anyP : PE := fun _ _ _ _ _ _ => True
end Go.Sp
end
section
namespace Go.Sp
inductive Runs (T : Src) : St → St → Prop where
  | refl (s : St) : Runs T s s
  | bad {s r : St} (e : Nat) : Runs T s r → Runs T s (r.bad T e)
  | next {s r : St} : Runs T s r → Runs T s r.next
theorem Runs.trans {T : Src} {s r q : St} (h : Runs T s r) (g : Runs T r q) : Runs T s q := by
  induction g with
  | refl => exact h
  | bad e _ ih => exact .bad e ih
  | next _ ih => exact .next ih
theorem Runs.on {T : Src} {s r : St} (h : Runs T s r) : s.i ≤ r.i := by
  induction h with
  | refl => exact Nat.le_refl _
  | bad e _ ih => exact ih
  | next _ ih => exact Nat.le_succ_of_le ih
theorem bad_ne (T : Src) (s : St) (e : Nat) : (s.bad T e).ds ≠ [] := by simp [St.bad]
theorem Runs.told {T : Src} {s r : St} (h : Runs T s r) (hs : s.ds ≠ []) : r.ds ≠ [] := by
  induction h with
  | refl => exact hs
  | bad e _ _ => exact bad_ne _ _ _
  | next _ ih => exact ih
theorem Runs.clean {T : Src} {s r : St} (h : Runs T s r) (hr : r.ds = []) : s.ds = [] := by
  cases hs : s.ds with
  | nil => rfl
  | cons a l => exact absurd hr (h.told (by rw [hs]; simp))
theorem runs_bad (T : Src) (s : St) (e : Nat) : Runs T s (s.bad T e) := .bad e (.refl s)
theorem runs_next (T : Src) (s : St) : Runs T s s.next := .next (.refl s)
theorem runs_need (T : Src) (s : St) (w : List UInt8) : Runs T s (s.need T w).2 := by
  rw [St.need]; split
  · exact runs_next T s
  · exact runs_bad T s 2
theorem runs_named (T : Src) (s : St) : Runs T s (s.named T).2 := by
  rw [St.named]; split
  · exact runs_next T s
  · split
    · exact .next (runs_bad T s 7)
    · exact runs_bad T s 2
theorem runs_labL (T : Src) : ∀ (f n : Nat) (s : St), Runs T s (labL T f n s).2
  | 0, n, s => .refl s
  | f + 1, n, s => by
    rw [labL]; split
    · exact runs_next T s
    · dsimp only
      split
      · exact runs_bad T s 2
      · generalize (if bit n ((T.tok s.i).text.getD 0 0 |>.toNat |> (· - 97)) = true then n else n + 2 ^ ((T.tok s.i).text.getD 0 0 |>.toNat |> (· - 97))) = n1
        have g : Runs T s (if bit n ((T.tok s.i).text.getD 0 0 |>.toNat |> (· - 97)) = true then s.bad T 7 else s).next := by
          split
          · exact .next (runs_bad T s 7)
          · exact runs_next T s
        generalize (if bit n ((T.tok s.i).text.getD 0 0 |>.toNat |> (· - 97)) = true then s.bad T 7 else s).next = s2 at g
        split
        · exact g.trans (runs_labL T f n1 s2)
        · split
          · exact (Runs.next g).trans (runs_labL T f n1 s2.next)
          · exact g.trans (runs_bad T s2 2)
theorem runs_lab (T : Src) (s : St) : Runs T s (lab T s).2 := by
  rw [lab]; split
  · exact (runs_next T s).trans (runs_labL T _ 0 s.next)
  · exact runs_bad T s 2
theorem runs_expr (T : Src) : ∀ f, (∀ d s, Runs T s (atom T f d s).2) ∧ (∀ d l s, Runs T s (argL T f d l s).2) ∧ (∀ d m s, Runs T s (expr T f d m s).2) ∧ (∀ d m e s, Runs T s (opL T f d m e s).2)
  | 0 => ⟨fun _ _ => by rw [atom]; exact .refl _, fun _ _ _ => by rw [argL]; exact .refl _, fun _ _ _ => by rw [expr]; exact .refl _, fun _ _ _ _ => by rw [opL]; exact .refl _⟩
  | f + 1 => by
    obtain ⟨hA, hL, hE, hO⟩ := runs_expr T f
    refine ⟨fun d s => ?_, fun d l s => ?_, fun d m s => ?_, fun d m e s => ?_⟩
    · rw [atom]
      dsimp only
      split
      · exact runs_bad T s 2
      · split
        · exact runs_bad T s 12
        · split
          · split
            · exact .next (runs_bad T s 3)
            · exact runs_next T s
          · split
            · exact ((runs_next T s).trans (hE _ _ _)).trans (runs_need T _ _)
            · split
              · exact runs_bad T s 2
              · split
                · exact runs_next T s
                · exact ((Runs.next (runs_next T s)).trans (hL _ _ _)).trans (runs_need T _ _)
    · rw [argL]
      split
      · exact .refl _
      · split
        · exact runs_bad T s 5
        · try dsimp only
          split
          · exact (Runs.next (hE _ _ _)).trans (hL _ _ _)
          · exact hE _ _ _
    · rw [expr]
      try dsimp only
      exact (hA d s).trans (hO _ _ _ _)
    · rw [opL]
      try dsimp only
      split
      · exact .refl _
      · exact ((runs_next T s).trans (hE _ _ _)).trans (hO _ _ _ _)
theorem runs_block (T : Src) : ∀ f, (∀ d s, Runs T s (block T f d s).2) ∧ (∀ d l s, Runs T s (stmL T f d l s).2) ∧ (∀ d s, Runs T s (stm T f d s).2)
  | 0 => ⟨fun _ _ => by rw [block]; exact .refl _, fun _ _ _ => by rw [stmL]; exact .refl _, fun _ s => by rw [stm]; exact .refl _⟩
  | f + 1 => by
    obtain ⟨hB, hL, hS⟩ := runs_block T f
    have hE := (runs_expr T f).2.2.1
    refine ⟨fun d s => ?_, fun d l s => ?_, fun d s => ?_⟩
    · rw [block]
      split
      · exact runs_bad T s 2
      · split
        · exact (runs_next T s).trans (runs_bad T _ 12)
        · dsimp only
          exact ((runs_next T s).trans (hL _ _ _)).trans (runs_need T _ _)
    · rw [stmL]
      split
      · exact .refl _
      · split
        · exact runs_bad T s 5
        · dsimp only
          split
          · exact (Runs.next (hS d s)).trans (hL _ _ _)
          · exact (hS d s).trans (hL _ _ _)
    · rw [stm]
      dsimp only
      split
      · have g1 := runs_named T s.next
        have g2 : Runs T (s.next.named T).2 (if (!T.is (s.next.named T).2.i [58]) = true then ((0 : Nat), (s.next.named T).2) else lab T (s.next.named T).2.next).2 := by
          split
          · exact .refl _
          · exact (runs_next T _).trans (runs_lab T _)
        exact (((((runs_next T s).trans g1).trans g2).trans (runs_need T _ _)).trans (hE _ _ _)).trans (runs_need T _ _)
      · split
        · have g1 := ((runs_next T s).trans (hE d 1 s.next)).trans (hB d (expr T f d 1 s.next).2)
          split
          · exact (Runs.next g1).trans (hB d _)
          · exact g1
        · split
          · exact ((runs_next T s).trans (hE d 1 s.next)).trans (hB d (expr T f d 1 s.next).2)
          · split
            · exact (((runs_next T s).trans (runs_named T s.next)).trans (hE d 1 _)).trans (runs_need T _ _)
            · split
              · exact ((runs_next T s).trans (hE d 1 s.next)).trans (runs_need T _ _)
              · split
                · split
                  · exact ((Runs.next (runs_next T s)).trans (hE d 1 _)).trans (runs_need T _ [59])
                  · exact (hE d 1 s).trans (runs_need T _ [59])
                · exact runs_bad T s 2
theorem runs_parL (T : Src) : ∀ (f : Nat) (l : List Par) (s : St), Runs T s (parL T f l s).2
  | 0, l, s => .refl _
  | f + 1, l, s => by
    rw [parL]
    split
    · exact .refl _
    · split
      · exact runs_bad T s 5
      · dsimp only
        have g := (runs_named T s).trans (runs_need T (s.named T).2 [58])
        split
        · exact g
        · have g2 := g.trans (runs_lab T _)
          split
          · exact (Runs.next g2).trans (runs_parL T f _ _)
          · exact g2
theorem runs_sndL (T : Src) : ∀ (f : Nat) (l : List Rf) (s : St), Runs T s (sndL T f l s).2
  | 0, l, s => .refl _
  | f + 1, l, s => by
    rw [sndL]
    split
    · exact runs_bad T s 5
    · dsimp only
      split
      · exact (Runs.next (runs_named T s)).trans (runs_sndL T f _ _)
      · exact runs_named T s
end Go.Sp
end
section
namespace Go.Sp
structure ItIn (s : List UInt8) (k : Nat) (it : Itm) : Prop where
  at0 : 0 ≤ it.at_
  size : 1 ≤ it.size
  top : it.at_ + it.size ≤ s.length
  ends : it.at_ + it.size = (match (fileItems s)[k + 1]? with | some j => j.at_ | none => (s.length : Int))
  diags : ∀ d ∈ it.diags, d.fr ≤ d.to ∧ d.to ≤ it.size
  small : it.small
  len : s.length ≤ 4000
end Go.Sp
end
