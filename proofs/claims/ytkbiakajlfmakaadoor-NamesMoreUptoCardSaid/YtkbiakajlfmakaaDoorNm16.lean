/- Own work: texts SpecSmall, PpO, PpP, FwTyM, PpQ, one behind the other. -/
import Derived.Test.YtkbiakajlfmakaaDoorNm15
section
namespace Go.Sp
mutual
def Ex.small : Ex → Prop
  | .mk _ _ _ args _ _ => args.length ≤ 64 ∧ exsSmall args
def exsSmall : List Ex → Prop
  | [] => True
  | e :: es => e.small ∧ exsSmall es
 end
mutual
def Stm.small : Stm → Prop
  | .mk _ _ _ _ _ e thn els _ _ => e.small ∧ thn.length ≤ 64 ∧ stmsSmall thn ∧ els.length ≤ 64 ∧ stmsSmall els
def stmsSmall : List Stm → Prop
  | [] => True
  | e :: es => e.small ∧ stmsSmall es
 end
theorem exsSmall_snoc : ∀ {l : List Ex} {e : Ex}, exsSmall l → e.small → exsSmall (l ++ [e])
  | [], e, _, h => by rw [List.nil_append, exsSmall, exsSmall]; exact ⟨h, trivial⟩
  | a :: l, e, h, he => by
    rw [exsSmall] at h
    rw [List.cons_append, exsSmall]
    exact ⟨h.1, exsSmall_snoc h.2 he⟩
theorem stmsSmall_snoc : ∀ {l : List Stm} {e : Stm}, stmsSmall l → e.small → stmsSmall (l ++ [e])
  | [], e, _, h => by rw [List.nil_append, stmsSmall, stmsSmall]; exact ⟨h, trivial⟩
  | a :: l, e, h, he => by
    rw [stmsSmall] at h
    rw [List.cons_append, stmsSmall]
    exact ⟨h.1, stmsSmall_snoc h.2 he⟩
theorem exsSmall_get : ∀ {l : List Ex} {i : Nat} {e : Ex}, exsSmall l → l[i]? = some e → e.small
  | [], _, _, _, h => by simp at h
  | a :: l, 0, e, h, he => by
    rw [exsSmall] at h
    simp only [List.getElem?_cons_zero, Option.some.injEq] at he
    exact he ▸ h.1
  | a :: l, i + 1, e, h, he => by
    rw [exsSmall] at h
    exact exsSmall_get h.2 (by simpa using he)
theorem stmsSmall_get : ∀ {l : List Stm} {i : Nat} {e : Stm}, stmsSmall l → l[i]? = some e → e.small
  | [], _, _, _, h => by simp at h
  | a :: l, 0, e, h, he => by
    rw [stmsSmall] at h
    simp only [List.getElem?_cons_zero, Option.some.injEq] at he
    exact he ▸ h.1
  | a :: l, i + 1, e, h, he => by
    rw [stmsSmall] at h
    exact stmsSmall_get h.2 (by simpa using he)
theorem leaf_small (k n f t : Nat) (nm : List UInt8) : (Ex.mk k nm n [] f t).small := by rw [Ex.small, exsSmall]; exact ⟨by simp, trivial⟩
theorem small_expr (T : Src) : ∀ f, (∀ d s, (atom T f d s).1.small) ∧ (∀ d l s, l.length ≤ 5 → exsSmall l → (argL T f d l s).1.length ≤ 5 ∧ exsSmall (argL T f d l s).1) ∧ (∀ d m s, (expr T f d m s).1.small) ∧ (∀ d m e s, Ex.small e → (opL T f d m e s).1.small)
  | 0 => ⟨fun _ _ => by rw [atom]; exact leaf_small _ _ _ _ _, fun _ _ _ h1 h2 => by rw [argL]; exact ⟨h1, h2⟩, fun _ _ _ => by rw [expr]; exact leaf_small _ _ _ _ _, fun _ _ _ _ h => by rw [opL]; exact h⟩
  | f + 1 => by
    obtain ⟨hA, hL, hE, hO⟩ := small_expr T f
    refine ⟨fun d s => ?_, fun d l s h1 h2 => ?_, fun d m s => ?_, fun d m e s h => ?_⟩
    · rw [atom]
      dsimp only
      split
      · exact leaf_small _ _ _ _ _
      · split
        · exact leaf_small _ _ _ _ _
        · split
          · split <;> exact leaf_small _ _ _ _ _
          · split
            · exact hE _ _ _
            · split
              · exact leaf_small _ _ _ _ _
              · split
                · exact leaf_small _ _ _ _ _
                · have := hL (d + 1) [] s.next.next (by simp) (by rw [exsSmall]; trivial)
                  rw [Ex.small]
                  exact ⟨by omega, this.2⟩
    · rw [argL]
      split
      · exact ⟨h1, h2⟩
      · split
        · exact ⟨h1, h2⟩
        · rename_i h5
          have hs := exsSmall_snoc h2 (hE d 1 s)
          have hl : (l ++ [(expr T f d 1 s).1]).length ≤ 5 := by simp; omega
          try dsimp only
          split
          · exact hL _ _ _ hl hs
          · exact ⟨hl, hs⟩
    · rw [expr]
      try dsimp only
      exact hO _ _ _ _ (hA _ _)
    · rw [opL]
      try dsimp only
      split
      · exact h
      · refine hO _ _ _ _ ?_
        rw [Ex.small, exsSmall, exsSmall, exsSmall]
        exact ⟨by simp, h, hE _ _ _, trivial⟩
theorem stmsSmall_nil : stmsSmall [] := by rw [stmsSmall]; trivial
theorem simple_small (k a lb f t : Nat) (o : Bool) (nm : List UInt8) (e : Ex) (h : e.small) : (Stm.mk k nm a lb o e [] [] f t).small := by
  rw [Stm.small]; exact ⟨h, by simp, stmsSmall_nil, by simp, stmsSmall_nil⟩
theorem small_block (T : Src) : ∀ f, (∀ d s, (block T f d s).1.length ≤ 40 ∧ stmsSmall (block T f d s).1) ∧ (∀ d l s, l.length ≤ 40 → stmsSmall l → (stmL T f d l s).1.length ≤ 40 ∧ stmsSmall (stmL T f d l s).1) ∧ (∀ d s, (stm T f d s).1.small)
  | 0 => ⟨fun _ _ => by rw [block]; exact ⟨by simp, stmsSmall_nil⟩, fun _ _ _ h1 h2 => by rw [stmL]; exact ⟨h1, h2⟩, fun _ s => by rw [stm]; exact simple_small _ _ _ _ _ _ _ _ (leaf_small _ _ _ _ _)⟩
  | f + 1 => by
    obtain ⟨hB, hL, hS⟩ := small_block T f
    have hE := (small_expr T f).2.2.1
    refine ⟨fun d s => ?_, fun d l s h1 h2 => ?_, fun d s => ?_⟩
    · rw [block]
      split
      · exact ⟨by simp, stmsSmall_nil⟩
      · split
        · exact ⟨by simp, stmsSmall_nil⟩
        · dsimp only
          exact hL _ _ _ (by simp) stmsSmall_nil
    · rw [stmL]
      split
      · exact ⟨h1, h2⟩
      · split
        · exact ⟨h1, h2⟩
        · dsimp only
          exact hL _ _ _ (by simp; omega) (stmsSmall_snoc h2 (hS d s))
    · rw [stm]
      dsimp only
      have two : ∀ (k a lb f t : Nat) (o : Bool) (nm : List UInt8) (e : Ex) (b c : List Stm), e.small → b.length ≤ 40 ∧ stmsSmall b → c.length ≤ 40 ∧ stmsSmall c → (Stm.mk k nm a lb o e b c f t).small := fun k a lb f t o nm e b c h1 h2 h3 => by
        rw [Stm.small]; exact ⟨h1, by omega, h2.2, by omega, h3.2⟩
      have nil2 : ([] : List Stm).length ≤ 40 ∧ stmsSmall [] := ⟨by simp, stmsSmall_nil⟩
      repeat' split
      all_goals first
        | exact simple_small _ _ _ _ _ _ _ _ (hE _ _ _)
        | exact two _ _ _ _ _ _ _ _ _ _ (hE _ _ _) (hB _ _) (hB _ _)
        | exact two _ _ _ _ _ _ _ _ _ _ (hE _ _ _) (hB _ _) nil2
        | exact simple_small _ _ _ _ _ _ _ _ (leaf_small _ _ _ _ _)
theorem parL_few (T : Src) : ∀ (f : Nat) (l : List Par) (s : St), l.length ≤ 5 → (parL T f l s).1.length ≤ 5 ∧ (s.i ≤ T.l.length → s.i ≤ (parL T f l s).2.i ∧ (parL T f l s).2.i ≤ T.l.length ∧ (parL T f l s).2.ds.length ≤ s.ds.length + 2 * ((parL T f l s).2.i - s.i) + 3 * f)
  | 0, l, s, h => by rw [parL]; exact ⟨h, fun hi => ⟨Nat.le_refl _, hi, by dsimp only; omega⟩⟩
  | f + 1, l, s, h => by
    rw [parL]
    split
    · exact ⟨h, fun hi => ⟨Nat.le_refl _, hi, by dsimp only; omega⟩⟩
    · split
      · exact ⟨h, fun hi => ⟨Nat.le_refl _, hi, by simp [St.bad]; omega⟩⟩
      · dsimp only
        have g1 := goes_named T s
        have g2 := goes_need T (s.named T).2 [58]
        have g3 := goes_lab T ((s.named T).2.need T [58]).2
        have a1 := g1.le; have a2 := g1.top; have a3 := g1.ds
        have b1 := g2.le; have b2 := g2.top; have b3 := g2.ds
        have c1 := g3.le; have c2 := g3.top; have c3 := g3.ds
        split
        · exact ⟨h, fun hi => ⟨by dsimp only; omega, b2 (a2 hi), by dsimp only; omega⟩⟩
        · split
          · rename_i h5
            have h6 := is_lt h5
            have ih := parL_few T f (l ++ [⟨(s.named T).1, (lab T ((s.named T).2.need T [58]).2).1, (T.tok s.i).pos⟩]) (lab T ((s.named T).2.need T [58]).2).2.next (by simp; omega)
            refine ⟨ih.1, fun hi => ?_⟩
            have e1 : (lab T ((s.named T).2.need T [58]).2).2.next.i = (lab T ((s.named T).2.need T [58]).2).2.i + 1 := rfl
            have e2 : (lab T ((s.named T).2.need T [58]).2).2.next.ds.length = (lab T ((s.named T).2.need T [58]).2).2.ds.length := rfl
            obtain ⟨i1, i2, i3⟩ := ih.2 (by omega)
            exact ⟨by omega, i2, by omega⟩
          · exact ⟨by simp; omega, fun hi => ⟨by dsimp only; omega, c2 (b2 (a2 hi)), by dsimp only; omega⟩⟩
theorem sndL_few (T : Src) : ∀ (f : Nat) (l : List Rf) (s : St), l.length ≤ 5 → (sndL T f l s).1.length ≤ 5 ∧ (s.i ≤ T.l.length → s.i ≤ (sndL T f l s).2.i ∧ (sndL T f l s).2.i ≤ T.l.length ∧ (sndL T f l s).2.ds.length ≤ s.ds.length + 2 * ((sndL T f l s).2.i - s.i) + 3 * f)
  | 0, l, s, h => by rw [sndL]; exact ⟨h, fun hi => ⟨Nat.le_refl _, hi, by dsimp only; omega⟩⟩
  | f + 1, l, s, h => by
    rw [sndL]
    split
    · exact ⟨h, fun hi => ⟨Nat.le_refl _, hi, by simp [St.bad]; omega⟩⟩
    · dsimp only
      have g1 := goes_named T s
      have a1 := g1.le; have a2 := g1.top; have a3 := g1.ds
      split
      · rename_i h5
        have h6 := is_lt h5
        have ih := sndL_few T f (l ++ [⟨(s.named T).1, (T.tok s.i).pos⟩]) (s.named T).2.next (by simp; omega)
        refine ⟨ih.1, fun hi => ?_⟩
        have e1 : (s.named T).2.next.i = (s.named T).2.i + 1 := rfl
        have e2 : (s.named T).2.next.ds.length = (s.named T).2.ds.length := rfl
        obtain ⟨i1, i2, i3⟩ := ih.2 (by omega)
        exact ⟨by omega, i2, by omega⟩
      · exact ⟨by simp; omega, fun hi => ⟨by dsimp only; omega, a2 hi, by dsimp only; omega⟩⟩
structure Itm.small (it : Itm) : Prop where
  params : it.params.length ≤ 5
  sends : it.sends.length ≤ 5
  body : it.body.length ≤ 40
  stms : stmsSmall it.body
  diags : it.diags.length ≤ 40000000
theorem fnItm_small (T : Src) (at_ : Int) (size : Nat) (s : St) (hT : T.l.length ≤ 1048576) (hi : s.i ≤ T.l.length) (hd : s.ds = []) :
    (fnItm T at_ size s).1.params.length ≤ 5 ∧ (fnItm T at_ size s).1.sends.length ≤ 5 ∧ (fnItm T at_ size s).1.body.length ≤ 40 ∧ stmsSmall (fnItm T at_ size s).1.body ∧ (fnItm T at_ size s).2.ds.length ≤ 39000000 := by
  rw [fnItm]
  dsimp only
  have g1 := goes_named T s
  generalize s.named T = r at g1 ⊢
  have g2 := goes_need T r.2 [40]
  generalize r.2.need T [40] = s1 at g2 ⊢
  have p := parL_few T 6 [] s1.2 (by simp)
  generalize parL T 6 [] s1.2 = r2 at p ⊢
  have g3 := goes_need T r2.2 [41]
  generalize r2.2.need T [41] = s3 at g3 ⊢
  have g4 := goes_need T s3.2 [58]
  generalize s3.2.need T [58] = s4 at g4 ⊢
  have g5 := goes_lab T s4.2
  generalize lab T s4.2 = r5 at g5 ⊢
  have hd0 : s.ds.length = 0 := by rw [hd]; rfl
  have a2 := g1.top hi; have a3 := g1.ds; have a1 := g1.le
  have b2 := g2.top a2; have b3 := g2.ds; have b1 := g2.le
  obtain ⟨p1, p2⟩ := p
  obtain ⟨p3, p4, p5⟩ := p2 b2
  have c2 := g3.top p4; have c3 := g3.ds; have c1 := g3.le
  have d2 := g4.top c2; have d3 := g4.ds; have d1 := g4.le
  have e2 := g5.top d2; have e3 := g5.ds; have e1 := g5.le
  have q : ∀ r6 : List Rf × St, r6 = (if T.is r5.2.i [115, 101, 110, 100, 115] = true then sndL T 6 [] r5.2.next else ([], r5.2)) → r6.1.length ≤ 5 ∧ r6.2.i ≤ T.l.length ∧ r6.2.ds.length ≤ r5.2.ds.length + 2 * (T.l.length) + 18 := fun r6 h => by
    by_cases hs : T.is r5.2.i [115, 101, 110, 100, 115] = true
    · rw [if_pos hs] at h
      have hlt := is_lt hs
      have q := sndL_few T 6 [] r5.2.next (by simp)
      have f1 : r5.2.next.i = r5.2.i + 1 := rfl
      have f2 : r5.2.next.ds.length = r5.2.ds.length := rfl
      obtain ⟨q3, q4, q5⟩ := q.2 (by omega)
      rw [h]
      exact ⟨q.1, q4, by omega⟩
    · rw [if_neg hs] at h
      rw [h]
      exact ⟨by simp, e2, by dsimp only; omega⟩
  obtain ⟨r6, h6⟩ : ∃ r6, r6 = (if T.is r5.2.i [115, 101, 110, 100, 115] = true then sndL T 6 [] r5.2.next else ([], r5.2)) := ⟨_, rfl⟩
  obtain ⟨q1, q2, q3⟩ := q r6 h6
  rw [← h6]
  have hb := (small_block T (fuel T)).1 0 r6.2
  have gb := (goes_block T (fuel T)).1 0 r6.2
  have h1 := gb.ds
  have h2 := gb.top q2
  exact ⟨p1, q1, hb.1, hb.2, by omega⟩
theorem itemQ_small (T : Src) (at_ : Int) (size : Nat) (hT : T.l.length ≤ 1048576) :
    (itemQ T at_ size).1.params.length ≤ 5 ∧ (itemQ T at_ size).1.sends.length ≤ 5 ∧ (itemQ T at_ size).1.body.length ≤ 40 ∧ stmsSmall (itemQ T at_ size).1.body ∧ (itemQ T at_ size).2.ds.length ≤ 39000000 := by
  rw [itemQ]
  split
  · rename_i h
    exact fnItm_small T at_ size ⟨1, []⟩ hT (is_lt h) rfl
  · split
    · rename_i h
      have hlt := is_lt h
      rw [chItm]
      dsimp only
      have g1 := goes_named T ⟨1, []⟩
      generalize (⟨1, []⟩ : St).named T = r at g1 ⊢
      have g2 := goes_need T r.2 [58]
      generalize r.2.need T [58] = s1 at g2 ⊢
      have g3 := goes_lab T s1.2
      generalize lab T s1.2 = r2 at g3 ⊢
      have g4 := goes_need T r2.2 [59]
      generalize r2.2.need T [59] = s3 at g4 ⊢
      have a2 := g1.top hlt; have a3 := g1.ds; have a1 := g1.le
      have b2 := g2.top a2; have b3 := g2.ds; have b1 := g2.le
      have c2 := g3.top b2; have c3 := g3.ds; have c1 := g3.le
      have d2 := g4.top c2; have d3 := g4.ds; have d1 := g4.le
      dsimp only [List.length_nil] at a1 a3
      exact ⟨by simp, by simp, by simp, stmsSmall_nil, by omega⟩
    · exact ⟨by simp, by simp, by simp, stmsSmall_nil, by simp [St.bad]⟩
theorem item_small (src : List UInt8) (at_ : Int) (h : src.length ≤ 1048576) : (item src at_).small := by
  have hl := toks_len src
  rw [item_eq]
  have hT : (Src.mk (tokens src) src.length).l.length ≤ 1048576 := by dsimp only; omega
  generalize Src.mk (tokens src) src.length = T at hT ⊢
  obtain ⟨h1, h2, h3, h4, h5⟩ := itemQ_small T at_ src.length hT
  rw [itemT]
  refine ⟨h1, h2, h3, h4, ?_⟩
  dsimp only
  split
  · simp [St.bad]; omega
  · omega
theorem item_at (src : List UInt8) (at_ : Int) : (item src at_).at_ = at_ := by
  rw [item_eq]
  show (itemQ _ at_ _).1.at_ = at_
  rw [itemQ]
  split
  · rfl
  · split <;> rfl
theorem item_size (src : List UInt8) (at_ : Int) : (item src at_).size = src.length := by
  rw [item_eq]
  show (itemQ _ at_ _).1.size = src.length
  rw [itemQ]
  split
  · rfl
  · split <;> rfl
end Go.Sp
end
section
namespace Go.Proofs.YtkbiakajlfmakaaDoor
open Go.Fw
theorem _root_.Go.Fw.RowI.none {I : Imm} {ty : TypeId} {sz n cp : Nat} {us : List Value} (h : RowI I ty sz (.slice none n cp) n us) : n = 0 := by
  obtain ⟨_, a, cap, e1, _, e3⟩ := h
  rcases Nat.eq_zero_or_pos n with h0 | h0
  · exact h0
  · obtain ⟨b, off, c, fr, f1, _⟩ := e3 h0
    injection e1 with e1
    rw [f1] at e1; cases e1
/-- a slice like one that was there. -/
abbrev ToRow (ty : TypeId) (sz n : Nat) (us : List Value) : Value → Imm → List HItem → Prop := fun v I' H' => H' = [] ∧ ∃ a cp, v = .slice a n cp ∧ RowI I' ty sz (.slice a n cp) n us
set_option maxHeartbeats 2000000 in
theorem p_cloneP (I : Imm) (a : Option Addr) (n cp : Nat) (us : List Value) (hr : RowI I 60 3 (.slice a n cp) n us) (h1 : us.all (·.oneCell') = true) (hn : n ≤ 1099511627776) :
    CalM Tryd.prog 42 #[.slice a n cp] I [] (ToRow 60 3 n us) := by
  refine CalM.of fun w E hm => enter (N := 8) Tryd.func42 rfl [(0, .slice a n cp)] args1 rfl ?_
  cases a with
  | none =>
    have h0 : n = 0 := hr.none
    subst h0
    have hu : us = [] := List.eq_nil_of_length_eq_zero (by have := hr.len; simpa using this)
    subst hu
    repeat' (first
      | (refine op_eql_nilslice (by rfl) (by rfl) (by rfl) (by rfl) ?_)
      | refine op_move (by rfl) (by rfl) (by rfl) ?_
      | refine op_assign (by rfl) (by rfl) (by rfl) ?_
      | refine wl_nil ?_
      | refine at_then_normal ?_
      | refine at_then_ret ?_
      | refine wc_seq ?_
      | refine wc_region ?_
      | refine wc_ret ?_
      | refine at_ret1 (by rfl) (by rfl) ?_
      | refine wc_cond_true (by rfl) ?_)
    exact ⟨I, [], ⟨rfl, none, 0, rfl, rowI_nil _ _ _ _ _⟩, hm⟩
  | some ad =>
    repeat' (first
      | (refine op_eql_nilslice (by rfl) (by rfl) (by rfl) (by rfl) ?_)
      | (refine m_buildRow hm (by rfl) (by rfl) (by rfl) (by rfl) (by rfl) (by rfl) (by rfl) (by rfl) (by rfl) ?_; clear hm; intro bb _ hm)
      | (refine m_appendR hm (by rfl) (by rfl) (by rfl) (by rfl) (by first | exact gt0 | exact gt1 | exact gt2 | exact gt3 | exact gt4 | exact gt5 | exact gt6) hr h1 (by omega) (by omega) ?_; clear hm; intro a2 cp2 _ hm; try simp only [setn] at hm)
      | refine op_move (by rfl) (by rfl) (by rfl) ?_
      | refine op_assign (by rfl) (by rfl) (by rfl) ?_
      | refine wl_nil ?_
      | refine at_then_normal ?_
      | refine wc_seq ?_
      | refine wc_region ?_
      | refine wc_skip ?_
      | refine wc_ret ?_
      | refine at_ret1 (by rfl) (by rfl) ?_
      | refine wc_cond_false (by rfl) ?_)
    simp only [Nat.zero_add] at hm ⊢
    obtain ⟨I3, hle3, hm3, hrow3⟩ := (hm.front 0 rfl).freeze
    exact ⟨I3, [], ⟨rfl, a2, cp2, rfl, hrow3⟩, hm3.left (H := [])⟩
set_option maxHeartbeats 2000000 in
theorem p_cloneR (I : Imm) (a : Option Addr) (n cp : Nat) (us : List Value) (hr : RowI I 75 2 (.slice a n cp) n us) (h1 : us.all (·.oneCell') = true) (hn : n ≤ 1099511627776) :
    CalM Tryd.prog 43 #[.slice a n cp] I [] (ToRow 75 2 n us) := by
  refine CalM.of fun w E hm => enter (N := 8) Tryd.func43 rfl [(0, .slice a n cp)] args1 rfl ?_
  cases a with
  | none =>
    have h0 : n = 0 := hr.none
    subst h0
    have hu : us = [] := List.eq_nil_of_length_eq_zero (by have := hr.len; simpa using this)
    subst hu
    repeat' (first
      | (refine op_eql_nilslice (by rfl) (by rfl) (by rfl) (by rfl) ?_)
      | refine op_move (by rfl) (by rfl) (by rfl) ?_
      | refine op_assign (by rfl) (by rfl) (by rfl) ?_
      | refine wl_nil ?_
      | refine at_then_normal ?_
      | refine at_then_ret ?_
      | refine wc_seq ?_
      | refine wc_region ?_
      | refine wc_ret ?_
      | refine at_ret1 (by rfl) (by rfl) ?_
      | refine wc_cond_true (by rfl) ?_)
    exact ⟨I, [], ⟨rfl, none, 0, rfl, rowI_nil _ _ _ _ _⟩, hm⟩
  | some ad =>
    repeat' (first
      | (refine op_eql_nilslice (by rfl) (by rfl) (by rfl) (by rfl) ?_)
      | (refine m_buildRow hm (by rfl) (by rfl) (by rfl) (by rfl) (by rfl) (by rfl) (by rfl) (by rfl) (by rfl) ?_; clear hm; intro bb _ hm)
      | (refine m_appendR hm (by rfl) (by rfl) (by rfl) (by rfl) (by first | exact gt0 | exact gt1 | exact gt2 | exact gt3 | exact gt4 | exact gt5 | exact gt6) hr h1 (by omega) (by omega) ?_; clear hm; intro a2 cp2 _ hm; try simp only [setn] at hm)
      | refine op_move (by rfl) (by rfl) (by rfl) ?_
      | refine op_assign (by rfl) (by rfl) (by rfl) ?_
      | refine wl_nil ?_
      | refine at_then_normal ?_
      | refine wc_seq ?_
      | refine wc_region ?_
      | refine wc_skip ?_
      | refine wc_ret ?_
      | refine at_ret1 (by rfl) (by rfl) ?_
      | refine wc_cond_false (by rfl) ?_)
    simp only [Nat.zero_add] at hm ⊢
    obtain ⟨I3, hle3, hm3, hrow3⟩ := (hm.front 0 rfl).freeze
    exact ⟨I3, [], ⟨rfl, a2, cp2, rfl, hrow3⟩, hm3.left (H := [])⟩
set_option maxHeartbeats 2000000 in
theorem p_cloneD (I : Imm) (a : Option Addr) (n cp : Nat) (us : List Value) (hr : RowI I 116 4 (.slice a n cp) n us) (h1 : us.all (·.oneCell') = true) (hn : n ≤ 1099511627776) :
    CalM Tryd.prog 120 #[.slice a n cp] I [] (ToRow 116 4 n us) := by
  refine CalM.of fun w E hm => enter (N := 8) Tryd.func120 rfl [(0, .slice a n cp)] args1 rfl ?_
  cases a with
  | none =>
    have h0 : n = 0 := hr.none
    subst h0
    have hu : us = [] := List.eq_nil_of_length_eq_zero (by have := hr.len; simpa using this)
    subst hu
    repeat' (first
      | (refine op_eql_nilslice (by rfl) (by rfl) (by rfl) (by rfl) ?_)
      | refine op_move (by rfl) (by rfl) (by rfl) ?_
      | refine op_assign (by rfl) (by rfl) (by rfl) ?_
      | refine wl_nil ?_
      | refine at_then_normal ?_
      | refine at_then_ret ?_
      | refine wc_seq ?_
      | refine wc_region ?_
      | refine wc_ret ?_
      | refine at_ret1 (by rfl) (by rfl) ?_
      | refine wc_cond_true (by rfl) ?_)
    exact ⟨I, [], ⟨rfl, none, 0, rfl, rowI_nil _ _ _ _ _⟩, hm⟩
  | some ad =>
    repeat' (first
      | (refine op_eql_nilslice (by rfl) (by rfl) (by rfl) (by rfl) ?_)
      | (refine m_buildRow hm (by rfl) (by rfl) (by rfl) (by rfl) (by rfl) (by rfl) (by rfl) (by rfl) (by rfl) ?_; clear hm; intro bb _ hm)
      | (refine m_appendR hm (by rfl) (by rfl) (by rfl) (by rfl) (by first | exact gt0 | exact gt1 | exact gt2 | exact gt3 | exact gt4 | exact gt5 | exact gt6) hr h1 (by omega) (by omega) ?_; clear hm; intro a2 cp2 _ hm; try simp only [setn] at hm)
      | refine op_move (by rfl) (by rfl) (by rfl) ?_
      | refine op_assign (by rfl) (by rfl) (by rfl) ?_
      | refine wl_nil ?_
      | refine at_then_normal ?_
      | refine wc_seq ?_
      | refine wc_region ?_
      | refine wc_skip ?_
      | refine wc_ret ?_
      | refine at_ret1 (by rfl) (by rfl) ?_
      | refine wc_cond_false (by rfl) ?_)
    simp only [Nat.zero_add] at hm ⊢
    obtain ⟨I3, hle3, hm3, hrow3⟩ := (hm.front 0 rfl).freeze
    exact ⟨I3, [], ⟨rfl, a2, cp2, rfl, hrow3⟩, hm3.left (H := [])⟩
end Go.Proofs.YtkbiakajlfmakaaDoor
end
section
namespace Go.Sp
theorem small_args {e : Ex} (h : e.small) : e.args.length ≤ 64 ∧ exsSmall e.args := by
  cases e with
  | mk k n m a f t => rw [Ex.small] at h; exact h
theorem size_args {e a : Ex} (h : a ∈ e.args) : SizeOf.sizeOf a < SizeOf.sizeOf e := by
  cases e with
  | mk k n m l f t =>
    have h' : a ∈ l := h
    have := List.sizeOf_lt_of_mem h'
    simp only [Ex.mk.sizeOf_spec]
    omega
theorem small_parts {s : Stm} (h : s.small) : s.e.small ∧ s.thn.length ≤ 64 ∧ stmsSmall s.thn ∧ s.els.length ≤ 64 ∧ stmsSmall s.els := by
  cases s with
  | mk k n a l o e t x f u => rw [Stm.small] at h; exact h
theorem size_thn {s : Stm} : SizeOf.sizeOf s.thn < SizeOf.sizeOf s ∧ SizeOf.sizeOf s.els < SizeOf.sizeOf s := by
  cases s with
  | mk k n a l o e t x f u =>
    simp only [Stm.mk.sizeOf_spec, Stm.thn, Stm.els]
    omega
theorem sizeL_mem {l : List Stm} {s : Stm} (h : s ∈ l) : SizeOf.sizeOf s < SizeOf.sizeOf l := List.sizeOf_lt_of_mem h
end Go.Sp
namespace Go.Proofs.YtkbiakajlfmakaaDoor
open Go.Fw
structure CpX where
  k : Nat
  I : Imm
  a : Option Addr
  cp : Nat
  xs : List Value
/-- an expression like one that was there. -/
abbrev ToCpE (e : Sp.Ex) : Value → Imm → List HItem → Prop := fun v I' H' => H' = [] ∧ ∃ ea ec xs, v = .agg (exCells e ea ec).toArray ∧ RowI I' 120 6 (.slice ea e.args.length ec) e.args.length xs ∧ ExsAt I' e.args xs
set_option maxHeartbeats 4000000 in
theorem p_ownExpr : ∀ (n : Nat) (e : Sp.Ex), SizeOf.sizeOf e ≤ n → e.small → ∀ (I : Imm) (ea : Option Addr) (ec : Nat) (xs : List Value), RowI I 120 6 (.slice ea e.args.length ec) e.args.length xs → ExsAt I e.args xs →
    CalM Tryd.prog 155 #[.agg (exCells e ea ec).toArray] I [] (ToCpE e) := by
  intro n
  induction n with
  | zero => intro e h; cases e; simp at h
  | succ n ih =>
  intro e hsz hsm I ea ec xs hr hx
  obtain ⟨hal, hasm⟩ := Sp.small_args hsm
  refine CalM.of fun w E hm => enter (N := 22) Tryd.func155 rfl [(0, .agg (exCells e ea ec).toArray)] args1 rfl ?_
  repeat' (first
    | (refine m_box (d := 1) hm (by rfl) (by rfl) (by rfl) (by rfl) ?_; clear hm; intro b1 _ hm)
    | (refine m_allocS (d := 2) hm (by rfl) (by rfl) ?_; clear hm; intro b2 _ hm)
    | refine m_load1 hm (by rfl) (by rfl) (by rfl) (by first | exact gt0 | exact gt1 | exact gt2 | exact gt3 | exact gt4 | exact gt5 | exact gt6) (by rfl) ?_
    | refine op_move (by rfl) (by rfl) (by rfl) ?_
    | refine op_assign (by rfl) (by rfl) (by rfl) ?_
    | refine op_len_slice (by rfl) (by rfl) (by rfl) ?_
    | refine op_fieldAddr (by rfl) (by rfl) (by rfl) ?_
    | refine wl_nil ?_
    | refine at_then_normal ?_
    | refine wc_seq ?_
    | refine wc_region ?_
    | refine wc_block ?_)
  have hm := hm.nil 120 6
  refine wc_loop (fun x : CpX => [(1, ptr b1), (2, ptr b2), (3, .slice x.a x.k x.cp), (7, .slice ea e.args.length ec), (8, nt e.args.length), (9, nt x.k)])
    (fun x w' => Mem E x.I [argRow x.k x.a x.cp x.xs, .cell b2 ex0 120, .cell b1 (exCells e ea ec) 120] w' ∧ Le I x.I ∧ ExsAt x.I (e.args.take x.k) x.xs ∧ x.k ≤ e.args.length)
    (fun x => e.args.length - x.k) ⟨0, I, none, 0, []⟩ (by exact ⟨rfl, rfl, rfl, rfl, rfl, rfl, trivial⟩) ⟨hm, Le.refl _, .nil, Nat.zero_le _⟩ ?_
  clear hm
  rintro ⟨k, I1, a1, cp1, xs1⟩ w2 ⟨hm, hle1, hxs, hk⟩
  dsimp only at hm hle1 hxs hk ⊢
  by_cases hlt : k < e.args.length
  · have hg : e.args[k]? = some e.args[k] := List.getElem?_eq_getElem hlt
    have hme : e.args[k] ∈ e.args := List.getElem_mem hlt
    obtain ⟨ea2, ec2, xs2, hc2, hr2, hx2⟩ := (hx.get hg).out
    have hsm2 := Sp.exsSmall_get hasm hg
    have hsz2 := Sp.size_args hme
    generalize e.args[k] = y at hg hc2 hr2 hx2 hsm2 hsz2
    have hcall := fun (I' : Imm) (m : Le I I') => ih y (by omega) hsm2 I' ea2 ec2 xs2 (hr2.le m) (ExsAt.le m _ _ hx2)
    have htk : e.args.take (k + 1) = e.args.take k ++ [y] := by rw [List.take_add_one, hg]; rfl
    have hri := hr.le hle1
    repeat' (first
      | (refine i_indexAddr (by rfl) (by rfl) (by rfl) (by rfl) hri (by omega) (by omega) ?_; intro bt ot hpt; rw [show ((k : Int).toNat * 6) = k * 6 from rfl, hc2] at hpt)
      | (refine m_call hm (by rfl) (by rfl) (by rfl) (by first | exact pm0 | exact pm1_0 | exact pm1_1 | exact pm1_2 | exact pm1_3 | exact pm2_0 | exact pm2_1 | exact pm2_2 | exact pm2_3 | exact pm2_4 | exact pm3_0 | exact pm3_1 | exact pm3_2) (hcall _ hle1) ?_; clear hm; rintro _ I2 _ _ ⟨rfl, ea3, ec3, xs3, rfl, hr3, hx3⟩ hle hm; have hleI2 := hle; try simp only [setn] at hm)
      | (refine m_varS (d := 5) hm (by rfl) (by rfl) (by rfl) (by rfl) (by rfl) ?_; clear hm; intro b5 _ hm)
      | (refine m_push (d := 17) hm (by rfl) (by rfl) (by rfl) (by rfl) (by rfl) (by first | exact gt0 | exact gt1 | exact gt2 | exact gt3 | exact gt4 | exact gt5 | exact gt6) (by rfl) (by rfl) (by rfl) (by rfl) (by omega) (by omega) ?_; clear hm; intro a17 cp17 _ _ hm; try simp only [setn] at hm)
      | refine m_loadAll hm (by rfl) (by rfl) (by rfl) (by first | exact gt0 | exact gt1 | exact gt2 | exact gt3 | exact gt4 | exact gt5 | exact gt6) (by rfl) ?_
      | refine i_loadN hm (by rfl) (by rfl) (by rfl) (by assumption) (by rfl) ?_
      | refine op_move (by rfl) (by rfl) (by rfl) ?_
      | refine op_assign (by rfl) (by rfl) (by rfl) ?_
      | refine op_lss (by rfl) (by rfl) (by rfl) (by rfl) ?_
      | refine op_add (by rfl) (by rfl) (by rfl) (by rfl) (by omega) ?_
      | refine wl_nil ?_
      | refine at_then_normal ?_
      | refine at_block_normal ?_
      | refine wc_seq ?_
      | refine wc_region ?_
      | refine wc_block ?_
      | refine wc_skip ?_
      | (refine wc_cond_dec (by rfl) (fun _ => ?_) (fun _ => ?_) <;> (try first | contradiction | (exfalso; omega))))
    all_goals try (exfalso; omega)
    refine at_round (⟨k + 1, I2, _, _, _⟩ : CpX) (by exact ⟨rfl, rfl, rfl, rfl, rfl, rfl, trivial⟩) ⟨hm.tl, hle1.trans hleI2, ?_, by dsimp only; omega⟩ (by dsimp only; omega)
    dsimp only
    rw [htk]
    exact (ExsAt.le hleI2 _ _ hxs).snoc (exAt_cells hr3 hx3)
  · obtain rfl : k = e.args.length := by omega
    rw [List.take_length] at hxs
    repeat' (first
      | refine m_loadAll hm (by rfl) (by rfl) (by rfl) (by first | exact gt0 | exact gt1 | exact gt2 | exact gt3 | exact gt4 | exact gt5 | exact gt6) (by rfl) ?_
      | (refine m_storeAll hm (by rfl) (by rfl) (by rfl) (by rfl) (by first | exact gt0 | exact gt1 | exact gt2 | exact gt3 | exact gt4 | exact gt5 | exact gt6) (by rfl) (by rfl) (by rfl) ?_; clear hm; intro _ hm; try simp only [setn] at hm)
      | (refine m_store1 hm (by rfl) (by rfl) (by rfl) (by rfl) (by first | exact gt0 | exact gt1 | exact gt2 | exact gt3 | exact gt4 | exact gt5 | exact gt6) (by rfl) (by rfl) (by rfl) ?_; clear hm; intro _ hm; try simp only [setn] at hm)
      | refine m_ret_agg hm (by rfl) (by rfl) (by first | exact gt0 | exact gt1 | exact gt2 | exact gt3 | exact gt4 | exact gt5 | exact gt6) (by rfl) ?_
      | refine op_move (by rfl) (by rfl) (by rfl) ?_
      | refine op_lss (by rfl) (by rfl) (by rfl) (by rfl) ?_
      | refine op_fieldAddr (by rfl) (by rfl) (by rfl) ?_
      | refine wl_nil ?_
      | refine at_then_normal ?_
      | refine at_then_exit ?_
      | refine at_block_exit ?_
      | refine wc_seq ?_
      | refine wc_region ?_
      | refine wc_exit ?_
      | refine wc_ret ?_
      | (refine wc_cond_dec (by rfl) (fun _ => ?_) (fun _ => ?_) <;> (try first | contradiction | (exfalso; omega))))
    all_goals try (exfalso; omega)
    obtain ⟨I3, hle3, hm3, hrow3⟩ := (hm.front 0 rfl).freeze
    exact ⟨I3, [], ⟨rfl, a1, cp1, xs1, rfl, hrow3, ExsAt.le hle3 _ _ hxs⟩, hm3.left (H := [])⟩
/-- statements like those that were there. -/
abbrev ToCpS (l : List Sp.Stm) : Value → Imm → List HItem → Prop := fun v I' H' => H' = [] ∧ ∃ a c xs, v = .slice a l.length c ∧ RowI I' 122 15 (.slice a l.length c) l.length xs ∧ StsAt I' l xs
set_option maxHeartbeats 8000000 in
theorem p_ownStmts : ∀ (n : Nat) (l : List Sp.Stm), SizeOf.sizeOf l ≤ n → l.length ≤ 64 → Sp.stmsSmall l → ∀ (I : Imm) (a : Option Addr) (c : Nat) (xs : List Value), RowI I 122 15 (.slice a l.length c) l.length xs → StsAt I l xs →
    CalM Tryd.prog 121 #[.slice a l.length c] I [] (ToCpS l) := by
  intro n
  induction n with
  | zero => intro l h; cases l <;> simp at h
  | succ n ih =>
  intro l hsz hll hsm I a c xs hr hx
  refine CalM.of fun w E hm => enter (N := 30) Tryd.func121 rfl [(0, .slice a l.length c)] args1 rfl ?_
  repeat' (first
    | refine op_move (by rfl) (by rfl) (by rfl) ?_
    | refine op_assign (by rfl) (by rfl) (by rfl) ?_
    | refine op_len_slice (by rfl) (by rfl) (by rfl) ?_
    | refine wl_nil ?_
    | refine at_then_normal ?_
    | refine wc_seq ?_
    | refine wc_region ?_
    | refine wc_block ?_)
  have hm := hm.nil 122 15
  refine wc_loop (fun x : CpX => [(3, .slice x.a x.k x.cp), (6, .slice a l.length c), (7, nt l.length), (8, nt x.k)])
    (fun x w' => Mem E x.I [stRow x.k x.a x.cp x.xs] w' ∧ Le I x.I ∧ StsAt x.I (l.take x.k) x.xs ∧ x.k ≤ l.length)
    (fun x => l.length - x.k) ⟨0, I, none, 0, []⟩ (by exact ⟨rfl, rfl, rfl, rfl, trivial⟩) ⟨hm, Le.refl _, .nil, Nat.zero_le _⟩ ?_
  clear hm
  rintro ⟨k, I1, a1, cp1, xs1⟩ w2 ⟨hm, hle1, hxs, hk⟩
  dsimp only at hm hle1 hxs hk ⊢
  by_cases hlt : k < l.length
  · have hg : l[k]? = some l[k] := List.getElem?_eq_getElem hlt
    have hme := Sp.sizeL_mem (List.getElem_mem hlt)
    obtain ⟨ea2, ec2, ex2, a2, c2, xs2, a3, c3, xs3, hc2, hr2, hx2, hr3, hx3, hr4, hx4⟩ := (hx.get hg).out
    have hsm2 := Sp.stmsSmall_get hsm hg
    generalize l[k] = y at hg hc2 hr2 hx2 hr3 hx3 hr4 hx4 hsm2 hme
    obtain ⟨s1, s2, s3, s4, s5⟩ := Sp.small_parts hsm2
    obtain ⟨z1, z2⟩ := Sp.size_thn (s := y)
    have hce := fun (I' : Imm) (m : Le I I') => p_ownExpr (SizeOf.sizeOf y.e) y.e (Nat.le_refl _) s1 I' ea2 ec2 ex2 (hr2.le m) (ExsAt.le m _ _ hx2)
    have hct := fun (I' : Imm) (m : Le I I') => ih y.thn (by omega) s2 s3 I' a2 c2 xs2 (hr3.le m) (StsAt.le m _ _ hx3)
    have hcl := fun (I' : Imm) (m : Le I I') => ih y.els (by omega) s4 s5 I' a3 c3 xs3 (hr4.le m) (StsAt.le m _ _ hx4)
    have htk : l.take (k + 1) = l.take k ++ [y] := by rw [List.take_add_one, hg]; rfl
    have hri := hr.le hle1
    repeat' (first
      | (refine wc_mix_mem (id := 5) (hm.perm pm0) [([0,1,3,4,6,7],[2]),([9],[5]),([],[8])] 10 (by kernel_rfl) ?_; clear hm; intro wd hR hm)
      | (refine i_indexAddr (by rfl) (by rfl) (by rfl) (by rfl) hri (by omega) (by omega) ?_; intro bt ot hpt; rw [show ((k : Int).toNat * 15) = k * 15 from rfl, hc2] at hpt)
      | (refine mt_call (d := 14) hm (by rfl) (by rfl) (by rfl) (by first | exact pm0 | exact pm1_0 | exact pm1_1 | exact pm1_2 | exact pm1_3 | exact pm2_0 | exact pm2_1 | exact pm2_2 | exact pm2_3 | exact pm2_4 | exact pm3_0 | exact pm3_1 | exact pm3_2) (hce _ hle1) ?_; clear hm; rintro _ I2 _ _ ⟨rfl, ea3, ec3, ex3, rfl, hr5, hx5⟩ hle hm; have hleI2 := hle; try simp only [setn] at hm)
      | (refine mt_call (d := 17) hm (by rfl) (by rfl) (by rfl) (by first | exact pm0 | exact pm1_0 | exact pm1_1 | exact pm1_2 | exact pm1_3 | exact pm2_0 | exact pm2_1 | exact pm2_2 | exact pm2_3 | exact pm2_4 | exact pm3_0 | exact pm3_1 | exact pm3_2) (hct _ (hle1.trans hleI2)) ?_; clear hm; rintro _ I3 _ _ ⟨rfl, a4, c4, xs4, rfl, hr6, hx6⟩ hle hm; have hleI3 := hle; try simp only [setn] at hm)
      | (refine mt_call (d := 20) hm (by rfl) (by rfl) (by rfl) (by first | exact pm0 | exact pm1_0 | exact pm1_1 | exact pm1_2 | exact pm1_3 | exact pm2_0 | exact pm2_1 | exact pm2_2 | exact pm2_3 | exact pm2_4 | exact pm3_0 | exact pm3_1 | exact pm3_2) (hcl _ ((hle1.trans hleI2).trans hleI3)) ?_; clear hm; rintro _ I4 _ _ ⟨rfl, a5, c5, xs5, rfl, hr7, hx7⟩ hle hm; have hleI4 := hle; try simp only [setn] at hm)
      | refine mw_load1 hR (by rfl) (by rfl) (by rfl) (by first | exact gt0 | exact gt1 | exact gt2 | exact gt3 | exact gt4 | exact gt5 | exact gt6) (by rfl) ?_
      | refine mw_loadN hR (by rfl) (by rfl) (by rfl) (by first | exact gt0 | exact gt1 | exact gt2 | exact gt3 | exact gt4 | exact gt5 | exact gt6) (by rfl) (by rfl) ?_
      | refine wx_cons ?_
      | refine wv_nilX ?_
      | refine ws_nil ?_
      | refine at_X ?_
      | (refine wx_nil ?_; replace hm := hR.back hm; clear hR; try simp only [setn] at hm)
      | (refine m_varS (d := 5) hm (by rfl) (by rfl) (by rfl) (by rfl) (by rfl) ?_; clear hm; intro b5 _ hm)
      | (refine m_push (d := 27) hm (by rfl) (by rfl) (by rfl) (by rfl) (by rfl) (by first | exact gt0 | exact gt1 | exact gt2 | exact gt3 | exact gt4 | exact gt5 | exact gt6) (by rfl) (by rfl) (by rfl) (by rfl) (by omega) (by omega) ?_; clear hm; intro a27 cp27 _ _ hm; try simp only [setn] at hm)
      | refine m_loadAll hm (by rfl) (by rfl) (by rfl) (by first | exact gt0 | exact gt1 | exact gt2 | exact gt3 | exact gt4 | exact gt5 | exact gt6) (by rfl) ?_
      | refine i_loadN hm (by rfl) (by rfl) (by rfl) (by assumption) (by rfl) ?_
      | (refine m_store1 hm (by rfl) (by rfl) (by rfl) (by rfl) (by first | exact gt0 | exact gt1 | exact gt2 | exact gt3 | exact gt4 | exact gt5 | exact gt6) (by rfl) (by rfl) (by rfl) ?_; clear hm; intro _ hm; try simp only [setn] at hm)
      | (refine m_storeN hm (by rfl) (by rfl) (by rfl) (by rfl) (by first | exact gt0 | exact gt1 | exact gt2 | exact gt3 | exact gt4 | exact gt5 | exact gt6) (by rfl) (by rfl) (by rfl) ?_; clear hm; intro _ hm; try simp only [setn] at hm)
      | refine op_move (by rfl) (by rfl) (by rfl) ?_
      | refine op_assign (by rfl) (by rfl) (by rfl) ?_
      | refine op_lss (by rfl) (by rfl) (by rfl) (by rfl) ?_
      | refine op_add (by rfl) (by rfl) (by rfl) (by rfl) (by omega) ?_
      | refine op_fieldAddr (by rfl) (by rfl) (by rfl) ?_
      | refine wl_nil ?_
      | refine at_then_normal ?_
      | refine at_block_normal ?_
      | refine wc_seq ?_
      | refine wc_region ?_
      | refine wc_block ?_
      | refine wc_skip ?_
      | (refine wc_cond_dec (by rfl) (fun _ => ?_) (fun _ => ?_) <;> (try first | contradiction | (exfalso; omega)))
      | refine v_fieldAddr (by rfl) (by rfl) (by rfl) ?_)
    all_goals try (exfalso; omega)
    refine at_round (⟨k + 1, I4, _, _, _⟩ : CpX) (by exact ⟨rfl, rfl, rfl, rfl, trivial⟩) ⟨hm.tl, ((hle1.trans hleI2).trans hleI3).trans hleI4, ?_, by dsimp only; omega⟩ (by dsimp only; omega)
    dsimp only
    rw [htk]
    exact (StsAt.le ((hleI2.trans hleI3).trans hleI4) _ _ hxs).snoc (stAt_cells (hr5.le (hleI3.trans hleI4)) (ExsAt.le (hleI3.trans hleI4) _ _ hx5) (hr6.le hleI4) (StsAt.le hleI4 _ _ hx6) hr7 hx7)
  · obtain rfl : k = l.length := by omega
    rw [List.take_length] at hxs
    repeat' (first
      | refine op_move (by rfl) (by rfl) (by rfl) ?_
      | refine op_assign (by rfl) (by rfl) (by rfl) ?_
      | refine op_lss (by rfl) (by rfl) (by rfl) (by rfl) ?_
      | refine wl_nil ?_
      | refine at_then_normal ?_
      | refine at_then_exit ?_
      | refine at_block_exit ?_
      | refine wc_seq ?_
      | refine wc_region ?_
      | refine wc_exit ?_
      | refine wc_ret ?_
      | refine at_ret1 (by rfl) (by rfl) ?_
      | (refine wc_cond_dec (by rfl) (fun _ => ?_) (fun _ => ?_) <;> (try first | contradiction | (exfalso; omega))))
    all_goals try (exfalso; omega)
    obtain ⟨I3, hle3, hm3, hrow3⟩ := (hm.front 0 rfl).freeze
    exact ⟨I3, [], ⟨rfl, a1, cp1, xs1, rfl, hrow3, StsAt.le hle3 _ _ hxs⟩, hm3.left (H := [])⟩
end Go.Proofs.YtkbiakajlfmakaaDoor
end
section
namespace Go.Proofs.YtkbiakajlfmakaaDoor
open Go Go.Fw
instance : TyMap Tryd.prog 70 9 4 := ⟨by kernel_rfl⟩
instance : TyMap Tryd.prog 161 9 33 := ⟨by kernel_rfl⟩
instance : TyMap Tryd.prog 184 3 9 := ⟨by kernel_rfl⟩
instance : TyMap Tryd.prog 232 9 3 := ⟨by kernel_rfl⟩
end Go.Proofs.YtkbiakajlfmakaaDoor
end
section
namespace Go.Fw
open Go
section
variable {P : Program} {N : Nat} {ds : List Deferred} {Q : Exit → Act → World → Prop} {l : Log} {w : World} {ops : Array Oper} {os : List Oper}
variable {d : Nat} {ty : TypeId} {pos : String} {af : Array Edge} {g : Option (Nat × Bool)} {t t' : TypeId} {x y : Operand} {E : Ent} {I : Imm} {H : List HItem}
/-- whether there is such an entry. -/
def mhas (es : Ents) (s : List UInt8) : Bool := (es.find? (fun p => decide (p.1 = s))).isSome
theorem find_idx_isSome (es : Ents) (s : List UInt8) : (es.findIdx? (fun p => decide (p.1 = s))).isSome = mhas es s := by
  rw [mhas]
  induction es with
  | nil => rfl
  | cons p es ih =>
    rw [List.findIdx?_cons, List.find?_cons]
    cases hd : decide (p.1 = s) with
    | true => simp
    | false => simp [ih]
theorem m_lookup2 {kt et : TypeId} [TyMap P t kt et] [TyStr P kt] {i b : Nat} {es : Ents} {s : List UInt8} {zv : Value} (hm : Mem E I H w) (hw : want ops l ⟨some d, .lookup t x y true, ty, pos, af, g⟩ = some true) (hN : Nat.blt d N = true)
    (hx : ev l x = some (.map (some b))) (hy : ev l y = some (str s)) (hi : H[i]? = some (.mp b es)) (hn : (es.map (·.1)).Nodup) (hz : ∀ w, (zeroValue et).run P w = .ok zv w)
    (k : WL P N ds ops Q os ((d, .tuple #[mlook es s zv, .bool (mhas es s)]) :: l) w) :
    WL P N ds ops Q (⟨some d, .lookup t x y true, ty, pos, af, g⟩ :: os) l w :=
  wl_value rfl hw hN (fun a ha => by
    have h1 := run_underlying (P := P) (w := w) (TyMap.out (P := P) (t := t))
    have hk := TyStr.out (P := P) (t := kt)
    have h2 := run_findKey (P := P) (w := w) hk s es 0
    have h3 := fun b => run_checkKey (P := P) (w := w) hk s b
    have h4 := MapKept.run_getObj_map (P := P) (hm.get hi)
    have h5 := find_idx es s
    have h6 := find_idx_isSome es s
    rw [mlook, ← h5, ← h6]
    cases hf : es.findIdx? (fun p => decide (p.1 = s)) with
    | none =>
      rw [hf] at h2
      simp [execOp, Instr.lookup, ha.ev hx, ha.ev hy, h1, h4, h3, h2, hz]
    | some i =>
      rw [hf] at h2
      have hi : i < es.length := by
        have := List.findIdx?_eq_some_iff_getElem.1 hf
        exact this.1
      have hg : es[i]? = some es[i] := List.getElem?_eq_getElem hi
      simp only [Option.bind_some, hg, Option.map_some] at h2
      simp [execOp, Instr.lookup, ha.ev hx, ha.ev hy, h1, h4, h3, h2, hg]) k
theorem m_ret3_agg {fn : Func} {i tr u u2 n b : Nat} {tc : TypeId} [TyAgg P tc n] {c : List Value} {e : TypeId} {fr : Nat × Nat} {xv xv2 : Value} {Post : Value → World → Prop} (hm : Mem E I H w) (hr : fn.results = #[.cell tr tc, .tmp u, .tmp u2])
    (hx : lk l tr = some (.pointer (some ⟨b, 0, none⟩))) (hu : lk l u = some xv) (hu2 : lk l u2 = some xv2) (hb : H[i]? = some (.obj b (.cells c.toArray e fr))) (hl : c.length = n)
    (h : Post (.tuple #[.agg c.toArray, xv, xv2]) w) : At N [] (bodyPost P fn (Ret Post)) .ret l w :=
  ⟨fun a ha => ⟨ha.defs, _, by
    have hv := run_loadAgg (P := P) (t := tc) (off := 0) (vs := c) (hm.get hb) hl (fun j v hv => by simpa using hv)
    simp [results, hr, ha.vals tr _ hx, ha.vals u _ hu, ha.vals u2 _ hu2, asAddr, hv], h⟩⟩
end
end Go.Fw
namespace Go.Proofs.YtkbiakajlfmakaaDoor
open Go.Fw
theorem pars_one (l : List Sp.Par) : (l.flatMap encPar).all (·.oneCell') = true := by
  induction l with
  | nil => rfl
  | cons p l ih => rw [List.flatMap_cons, List.all_append, ih]; rfl
theorem rfs_one (l : List Sp.Rf) : (l.flatMap encRf).all (·.oneCell') = true := by
  induction l with
  | nil => rfl
  | cons p l ih => rw [List.flatMap_cons, List.all_append, ih]; rfl
theorem dgs_one (l : List Sp.Dg) : (l.flatMap encDg).all (·.oneCell') = true := by
  induction l with
  | nil => rfl
  | cons p l ih => rw [List.flatMap_cons, List.all_append, ih]; rfl
set_option maxHeartbeats 4000000 in
theorem p_own (it : Sp.Itm) (hs : it.small) (I : Imm) (cs : List Value) (hi : ItAt I it cs) : CalM Tryd.prog 88 #[.agg cs.toArray] I [] (ToIt it) := by
  obtain ⟨ap, cp, as_, cs', ab, cb, ad, cd, xb, rfl, r1, r2, r3, r4, r5⟩ := hi
  have k1 := hs.params
  have k2 := hs.sends
  have k3 := hs.diags
  have k4 := hs.body
  refine CalM.of fun w E hm => enter (N := 20) Tryd.func88 rfl [(0, .agg (itCells it.kind it.name it.label (.slice ap it.params.length cp) (.slice as_ it.sends.length cs') (.slice ab it.body.length cb) it.at_ it.size it.mark (.slice ad it.diags.length cd)).toArray)] args1 rfl ?_
  have c1 := fun (I' : Imm) (m : Le I I') => p_cloneP I' ap it.params.length cp _ (r1.le m) (pars_one _) (by omega)
  have c2 := fun (I' : Imm) (m : Le I I') => p_cloneR I' as_ it.sends.length cs' _ (r2.le m) (rfs_one _) (by omega)
  have c3 := fun (I' : Imm) (m : Le I I') => p_cloneD I' ad it.diags.length cd _ (r5.le m) (dgs_one _) (by omega)
  have c4 := fun (I' : Imm) (m : Le I I') => p_ownStmts (SizeOf.sizeOf it.body) it.body (Nat.le_refl _) (by omega) hs.stms I' ab cb xb (r3.le m) (StsAt.le m _ _ r4)
  repeat' (first
    | (refine wc_mix_mem (id := 1) (hm.perm pm0) [([0,1,3,4,6,7],[2]),([9],[5]),([],[8])] 10 (by kernel_rfl) ?_; clear hm; intro wd hR hm)
    | (refine mt_call (d := 5) hm (by rfl) (by rfl) (by rfl) (by first | exact pm0 | exact pm1_0 | exact pm1_1 | exact pm1_2 | exact pm1_3 | exact pm2_0 | exact pm2_1 | exact pm2_2 | exact pm2_3 | exact pm2_4 | exact pm3_0 | exact pm3_1 | exact pm3_2) (c1 _ (Le.refl _)) ?_; clear hm; rintro _ I2 _ _ ⟨rfl, a1, d1, rfl, s1⟩ hle hm; have hleI2 := hle; try simp only [setn] at hm)
    | (refine mt_call (d := 8) hm (by rfl) (by rfl) (by rfl) (by first | exact pm0 | exact pm1_0 | exact pm1_1 | exact pm1_2 | exact pm1_3 | exact pm2_0 | exact pm2_1 | exact pm2_2 | exact pm2_3 | exact pm2_4 | exact pm3_0 | exact pm3_1 | exact pm3_2) (c2 _ hleI2) ?_; clear hm; rintro _ I3 _ _ ⟨rfl, a2, d2, rfl, s2⟩ hle hm; have hleI3 := hle; try simp only [setn] at hm)
    | (refine mt_call (d := 11) hm (by rfl) (by rfl) (by rfl) (by first | exact pm0 | exact pm1_0 | exact pm1_1 | exact pm1_2 | exact pm1_3 | exact pm2_0 | exact pm2_1 | exact pm2_2 | exact pm2_3 | exact pm2_4 | exact pm3_0 | exact pm3_1 | exact pm3_2) (c3 _ (hleI2.trans hleI3)) ?_; clear hm; rintro _ I4 _ _ ⟨rfl, a3, d3, rfl, s3⟩ hle hm; have hleI4 := hle; try simp only [setn] at hm)
    | (refine m_call hm (by rfl) (by rfl) (by rfl) (by first | exact pm0 | exact pm1_0 | exact pm1_1 | exact pm1_2 | exact pm1_3 | exact pm2_0 | exact pm2_1 | exact pm2_2 | exact pm2_3 | exact pm2_4 | exact pm3_0 | exact pm3_1 | exact pm3_2) (c4 _ ((hleI2.trans hleI3).trans hleI4)) ?_; clear hm; rintro _ I5 _ _ ⟨rfl, a4, d4, xs4, rfl, s4, t4⟩ hle hm; have hleI5 := hle; try simp only [setn] at hm)
    | refine mw_load1 hR (by rfl) (by rfl) (by rfl) (by first | exact gt0 | exact gt1 | exact gt2 | exact gt3 | exact gt4 | exact gt5 | exact gt6) (by rfl) ?_
    | refine wx_cons ?_
    | refine wv_nilX ?_
    | refine ws_nil ?_
    | refine at_X ?_
    | (refine wx_nil ?_; replace hm := hR.back hm; clear hR; try simp only [setn] at hm)
    | (refine m_box (d := 1) hm (by rfl) (by rfl) (by rfl) (by rfl) ?_; clear hm; intro b1 _ hm)
    | (refine m_allocS (d := 2) hm (by rfl) (by rfl) ?_; clear hm; intro b2 _ hm)
    | refine m_load1 hm (by rfl) (by rfl) (by rfl) (by first | exact gt0 | exact gt1 | exact gt2 | exact gt3 | exact gt4 | exact gt5 | exact gt6) (by rfl) ?_
    | refine m_loadAll hm (by rfl) (by rfl) (by rfl) (by first | exact gt0 | exact gt1 | exact gt2 | exact gt3 | exact gt4 | exact gt5 | exact gt6) (by rfl) ?_
    | (refine m_storeAll hm (by rfl) (by rfl) (by rfl) (by rfl) (by first | exact gt0 | exact gt1 | exact gt2 | exact gt3 | exact gt4 | exact gt5 | exact gt6) (by rfl) (by rfl) (by rfl) ?_; clear hm; intro _ hm; try simp only [setn] at hm)
    | (refine m_store1 hm (by rfl) (by rfl) (by rfl) (by rfl) (by first | exact gt0 | exact gt1 | exact gt2 | exact gt3 | exact gt4 | exact gt5 | exact gt6) (by rfl) (by rfl) (by rfl) ?_; clear hm; intro _ hm; try simp only [setn] at hm)
    | refine m_ret_agg hm (by rfl) (by rfl) (by first | exact gt0 | exact gt1 | exact gt2 | exact gt3 | exact gt4 | exact gt5 | exact gt6) (by rfl) ?_
    | refine op_fieldAddr (by rfl) (by rfl) (by rfl) ?_
    | refine wl_nil ?_
    | refine at_then_normal ?_
    | refine wc_seq ?_
    | refine wc_region ?_
    | refine wc_ret ?_
    | refine v_fieldAddr (by rfl) (by rfl) (by rfl) ?_)
  exact ⟨I5, [], ⟨_, rfl, ⟨a1, d1, a2, d2, a4, d4, a3, d3, xs4, rfl, ((s1.le hleI3).le hleI4).le hleI5, (s2.le hleI4).le hleI5, s4, t4, s3.le hleI5⟩, rfl⟩, hm.left (H := [])⟩
end Go.Proofs.YtkbiakajlfmakaaDoor
end
