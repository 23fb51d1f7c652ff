/- Own work: texts SpecBad, SpecJoin, SpecCutoff, one behind the other. -/
import Derived.Test.YtjfkjpbkmpofkaaDoorMw18
section
namespace Go.Sp
/-- tokens are passed that are tokens, unless something was told. -/
inductive Well (T : Src) : St → St → Prop where
  | refl (s : St) : Well T s s
  | bad {s r : St} (e : Nat) : Well T s r → Well T s (r.bad T e)
  | next {s r : St} : Well T s r → (r.ds ≠ [] ∨ (T.tok r.i).kind ≠ 4) → Well T s r.next
theorem Well.trans {T : Src} {s r q : St} (h : Well T s r) (g : Well T r q) : Well T s q := by
  induction g with
  | refl => exact h
  | bad e _ ih => exact .bad e ih
  | next _ k ih => exact .next ih k
theorem well_bad (T : Src) (s : St) (e : Nat) : Well T s (s.bad T e) := .bad e (.refl s)
theorem well_next {T : Src} {s : St} (h : (T.tok s.i).kind ≠ 4) : Well T s s.next := .next (.refl s) (.inr h)
theorem Well.good {T : Src} {s r : St} (h : Well T s r) (h0 : r.ds = []) : ∀ j, s.i ≤ j → j < r.i → (T.tok j).kind ≠ 4 := by
  induction h with
  | refl => intro j h1 h2; omega
  | bad e _ _ => exact absurd h0 (bad_ne _ _ _)
  | @next r g k ih =>
    intro j h1 h2
    have h3 : r.ds = [] := h0
    rcases Nat.lt_or_ge j r.i with h4 | h4
    · exact ih h3 j h1 h4
    · obtain rfl : j = r.i := by have : j < r.i + 1 := h2; omega
      rcases k with k | k
      · exact absurd h3 k
      · exact k
/-- what is no token: one byte that is none. -/
structure BadT (T : Src) : Prop where
  out : ∀ i, (T.tok i).kind = 4 → ∃ c, (T.tok i).text = [c] ∧ isLetter c = false ∧ isDigit c = false ∧ isSign c = false
section
variable {T : Src}
def fine : List UInt8 → Bool
  | [] => true
  | c :: _ => isLetter c || isDigit c || isSign c
theorem BadT.ok (h : BadT T) {i : Nat} {w : List UInt8} (hw : (T.tok i).text = w) (hf : fine w = true) : (T.tok i).kind ≠ 4 := fun h4 => by
  obtain ⟨c, h1, h2, h3, h5⟩ := h.out i h4
  rw [hw] at h1
  subst h1
  simp [fine, h2, h3, h5] at hf
theorem BadT.is (h : BadT T) {i : Nat} {w : List UInt8} (hw : T.is i w = true) (hf : fine w = true) : (T.tok i).kind ≠ 4 := by
  simp only [Src.is, Bool.and_eq_true, decide_eq_true_eq] at hw
  exact h.ok hw.2 hf
theorem name_fine {t : List UInt8} (h : name t = true) : fine t = true := by
  cases t with
  | nil => rfl
  | cons c r =>
    simp only [name, Bool.and_eq_true] at h
    have h2 : isLetter c = true := by
      have := h.2
      simp only [word, Bool.and_eq_true] at this
      simp at this
      exact this.1.2
    simp [fine, h2]
theorem tag_fine {t : List UInt8} (h : tagB t = true) : fine t = true := by
  cases t with
  | nil => rfl
  | cons c r =>
    simp only [tagB, Bool.and_eq_true, decide_eq_true_eq, List.getD_cons_zero] at h
    simp only [fine, isLetter, Bool.or_eq_true, Bool.and_eq_true, decide_eq_true_eq]
    left; left; left; left
    omega
theorem tight_fine {t : List UInt8} (h : tight t ≠ 0) : fine t = true := by
  rw [tight] at h
  split at h
  · rename_i h1; rcases h1 with rfl | rfl <;> decide
  · split at h
    · rename_i h1; rcases h1 with rfl | rfl <;> decide
    · split at h
      · rename_i h1; subst h1; decide
      · exact absurd rfl h
theorem well_need (hB : BadT T) (s : St) (w : List UInt8) (hf : fine w = true) : Well T s (s.need T w).2 := by
  rw [St.need]; split
  · rename_i h; exact well_next (hB.is h hf)
  · exact well_bad T s 2
theorem well_named (hB : BadT T) (s : St) : Well T s (s.named T).2 := by
  rw [St.named]; split
  · rename_i h; exact well_next (hB.ok rfl (name_fine h))
  · split
    · exact .next (well_bad T s 7) (.inl (bad_ne _ _ _))
    · exact well_bad T s 2
theorem well_labL (hB : BadT T) : ∀ (f n : Nat) (s : St), Well T s (labL T f n s).2
  | 0, n, s => .refl s
  | f + 1, n, s => by
    rw [labL]; split
    · rename_i h; exact well_next (hB.is h (by decide))
    · dsimp only
      split
      · exact well_bad T s 2
      · rename_i h1 h2
        have hg : (T.tok s.i).kind ≠ 4 := hB.ok rfl (tag_fine (by simpa using h2))
        generalize (if bit n ((T.tok s.i).text.getD 0 0 |>.toNat |> (· - 97)) = true then n else n + 2 ^ ((T.tok s.i).text.getD 0 0 |>.toNat |> (· - 97))) = n1
        have g : Well T s (if bit n ((T.tok s.i).text.getD 0 0 |>.toNat |> (· - 97)) = true then s.bad T 7 else s).next := by
          split
          · exact .next (well_bad T s 7) (.inl (bad_ne _ _ _))
          · exact well_next hg
        generalize (if bit n ((T.tok s.i).text.getD 0 0 |>.toNat |> (· - 97)) = true then s.bad T 7 else s).next = s2 at g
        split
        · exact g.trans (well_labL hB f n1 s2)
        · split
          · rename_i h5; exact (Well.next g (.inr (hB.is h5 (by decide)))).trans (well_labL hB f n1 s2.next)
          · exact g.trans (well_bad T s2 2)
theorem well_lab (hB : BadT T) (s : St) : Well T s (lab T s).2 := by
  rw [lab]; split
  · rename_i h; exact (well_next (hB.is h (by decide))).trans (well_labL hB _ 0 s.next)
  · exact well_bad T s 2
theorem kind_ne {i : Nat} (h : (T.tok i).kind = 2) : (T.tok i).kind ≠ 4 := by omega
theorem well_expr (hB : BadT T) : ∀ f, (∀ d s, Well T s (atom T f d s).2) ∧ (∀ d l s, Well T s (argL T f d l s).2) ∧ (∀ d m s, Well T s (expr T f d m s).2) ∧ (∀ d m e s, Well T s (opL T f d m e s).2)
  | 0 => ⟨fun _ _ => by rw [atom]; exact .refl _, fun _ _ _ => by rw [argL]; exact .refl _, fun _ _ _ => by rw [expr]; exact .refl _, fun _ _ _ _ => by rw [opL]; exact .refl _⟩
  | f + 1 => by
    obtain ⟨hA, hL, hE, hO⟩ := well_expr hB f
    refine ⟨fun d s => ?_, fun d l s => ?_, fun d m s => ?_, fun d m e s => ?_⟩
    · rw [atom]
      dsimp only
      split
      · exact well_bad T s 2
      · split
        · exact well_bad T s 12
        · split
          · rename_i hk
            split
            · exact .next (well_bad T s 3) (.inl (bad_ne _ _ _))
            · exact well_next (kind_ne hk)
          · split
            · rename_i h4
              exact ((well_next (hB.ok h4 (by decide))).trans (hE _ _ _)).trans (well_need hB _ _ (by decide))
            · split
              · exact well_bad T s 2
              · rename_i h4 h5
                have hn := hB.ok (i := s.i) rfl (name_fine (by simpa using h5))
                split
                · exact well_next hn
                · rename_i h6
                  exact ((Well.next (well_next hn) (.inr (hB.is (by simpa using h6 : T.is (s.i + 1) [40] = true) (by decide)))).trans (hL _ _ _)).trans (well_need hB _ _ (by decide))
    · rw [argL]
      split
      · exact .refl _
      · split
        · exact well_bad T s 5
        · try dsimp only
          split
          · rename_i h5
            exact (Well.next (hE _ _ _) (.inr (hB.is h5 (by decide)))).trans (hL _ _ _)
          · exact hE _ _ _
    · rw [expr]
      try dsimp only
      exact (hA d s).trans (hO _ _ _ _)
    · rw [opL]
      try dsimp only
      split
      · exact .refl _
      · rename_i h5
        exact ((well_next (hB.ok (i := s.i) rfl (tight_fine (by omega)))).trans (hE _ _ _)).trans (hO _ _ _ _)
theorem atom_on (f d : Nat) (s : St) (h : name (T.tok s.i).text = true) : (atom T (f + 1) d s).2.ds ≠ [] ∨ s.i + 1 ≤ (atom T (f + 1) d s).2.i := by
  have hl := tok_lt (name_ne h)
  rw [atom]
  dsimp only
  rw [if_neg (by omega)]
  split
  · exact .inl (bad_ne _ _ _)
  · split
    · split
      · exact .inl (bad_ne _ _ _)
      · exact .inr (Nat.le_refl _)
    · split
      · have := (((runs_expr T f).2.2.1 (d + 1) 1 s.next).trans (runs_need T _ [41])).on
        exact .inr this
      · split
        · exact .inl (bad_ne _ _ _)
        · split
          · exact .inr (Nat.le_refl _)
          · have := (((runs_next T s.next).trans ((runs_expr T f).2.1 (d + 1) [] s.next.next)).trans (runs_need T _ [41])).on
            exact .inr this
/-- a statement goes on, or tells something. -/
theorem stm_on (f d : Nat) (s : St) : (stm T (f + 3) d s).2.ds ≠ [] ∨ s.i + 1 ≤ (stm T (f + 3) d s).2.i := by
  have hE := (runs_expr T (f + 2)).2.2.1
  have hB := (runs_block T (f + 2)).1
  rw [stm]
  dsimp only
  split
  · right
    have g2 : Runs T (s.next.named T).2 (if (!T.is (s.next.named T).2.i [58]) = true then ((0 : Nat), (s.next.named T).2) else lab T (s.next.named T).2.next).2 := by
      split
      · exact .refl _
      · exact (runs_next T _).trans (runs_lab T _)
    exact (((((runs_named T s.next).trans g2).trans (runs_need T _ _)).trans (hE _ _ _)).trans (runs_need T _ _)).on
  · split
    · right
      have g1 := (hE d 1 s.next).trans (hB d (expr T (f + 2) d 1 s.next).2)
      split
      · exact ((Runs.next g1).trans (hB d _)).on
      · exact g1.on
    · split
      · exact .inr ((hE d 1 s.next).trans (hB d (expr T (f + 2) d 1 s.next).2)).on
      · split
        · exact .inr (((runs_named T s.next).trans (hE d 1 _)).trans (runs_need T _ _)).on
        · split
          · exact .inr ((hE d 1 s.next).trans (runs_need T _ _)).on
          · split
            · rename_i hn
              split
              · exact .inr (((runs_next T s.next).trans (hE d 1 _)).trans (runs_need T _ [59])).on
              · have ha := atom_on (T := T) f d s hn
                have hr : Runs T (atom T (f + 1) d s).2 ((expr T (f + 2) d 1 s).2.need T [59]).2 := by
                  rw [expr]
                  exact ((runs_expr T (f + 1)).2.2.2 d 1 _ _).trans (runs_need T _ _)
                rcases ha with ha | ha
                · exact .inl (hr.told ha)
                · exact .inr (Nat.le_trans ha hr.on)
            · exact .inl (bad_ne _ _ _)
theorem well_block (hB : BadT T) : ∀ f, (∀ d s, 5 * (T.l.length - s.i) + 2 ≤ f → Well T s (block T f d s).2) ∧ (∀ d l s, 5 * (T.l.length - s.i) + 6 ≤ f → Well T s (stmL T f d l s).2) ∧ (∀ d s, 5 * (T.l.length - s.i) + 5 ≤ f → Well T s (stm T f d s).2)
  | 0 => ⟨fun _ _ h => by omega, fun _ _ _ h => by omega, fun _ s h => by omega⟩
  | f + 1 => by
    obtain ⟨hK, hL, hS⟩ := well_block hB f
    have hE := (well_expr hB f).2.2.1
    refine ⟨fun d s hf => ?_, fun d l s hf => ?_, fun d s hf => ?_⟩
    · rw [block]
      split
      · exact well_bad T s 2
      · rename_i h
        have h' : T.is s.i [123] = true := by simpa using h
        have hi := is_lt h'
        have hn : s.next.i = s.i + 1 := rfl
        have g := well_next (hB.is h' (by decide))
        split
        · exact g.trans (well_bad T _ 12)
        · dsimp only
          exact (g.trans (hL _ _ _ (by omega))).trans (well_need hB _ _ (by decide))
    · rw [stmL]
      split
      · exact .refl _
      · rename_i h
        have hi : s.i < T.l.length := by omega
        split
        · exact well_bad T s 5
        · dsimp only
          have hw := hS d s (by omega)
          have ho : (stm T f d s).2.ds ≠ [] ∨ s.i + 1 ≤ (stm T f d s).2.i := by
            obtain ⟨f', rfl⟩ : ∃ f', f = f' + 3 := ⟨f - 3, by omega⟩
            exact stm_on f' d s
          split
          · rename_i he
            have hn : (stm T f d s).2.next.i = s.i + 1 := by rw [next_i, he]
            refine (Well.next hw (.inl ?_)).trans (hL _ _ _ (by omega))
            rcases ho with ho | ho
            · exact ho
            · omega
          · rename_i he
            have := Runs.on ((runs_block T f).2.2 d s)
            exact hw.trans (hL _ _ _ (by omega))
    · have lt : ∀ t : List UInt8, t ≠ [] → (T.tok s.i).text = t → s.i < T.l.length := fun t ht e => tok_lt (by rw [e]; exact ht)
      have hn : s.next.i = s.i + 1 := rfl
      have up : ∀ {a b : St}, Runs T a b → a.i ≤ b.i := fun h => h.on
      have rE := (runs_expr T f).2.2.1
      rw [stm]
      dsimp only
      split
      · rename_i h
        have g1 := well_named hB s.next
        have g2 : Well T (s.next.named T).2 (if (!T.is (s.next.named T).2.i [58]) = true then ((0 : Nat), (s.next.named T).2) else lab T (s.next.named T).2.next).2 := by
          split
          · exact .refl _
          · rename_i h5
            exact (well_next (hB.is (by simpa using h5 : T.is (s.next.named T).2.i [58] = true) (by decide))).trans (well_lab hB _)
        exact (((((well_next (hB.ok h (by decide))).trans g1).trans g2).trans (well_need hB _ _ (by decide))).trans (hE _ _ _)).trans (well_need hB _ _ (by decide))
      · split
        · rename_i h
          have h0 := lt _ (by simp) h
          have u1 := up (rE d 1 s.next)
          have g1 := ((well_next (hB.ok h (by decide))).trans (hE d 1 s.next)).trans (hK d (expr T f d 1 s.next).2 (by omega))
          split
          · rename_i h5
            have u2 := up (((runs_block T f).1) d (expr T f d 1 s.next).2)
            have hn2 := next_i (block T f d (expr T f d 1 s.next).2).2
            exact (Well.next g1 (.inr (hB.is h5 (by decide)))).trans (hK d _ (by omega))
          · exact g1
        · split
          · rename_i h
            have h0 := lt _ (by simp) h
            have u1 := up (rE d 1 s.next)
            exact ((well_next (hB.ok h (by decide))).trans (hE d 1 s.next)).trans (hK d (expr T f d 1 s.next).2 (by omega))
          · split
            · rename_i h
              exact (((well_next (hB.ok h (by decide))).trans (well_named hB s.next)).trans (hE d 1 _)).trans (well_need hB _ _ (by decide))
            · split
              · rename_i h
                exact ((well_next (hB.ok h (by decide))).trans (hE d 1 s.next)).trans (well_need hB _ _ (by decide))
              · split
                · rename_i h
                  split
                  · rename_i h5
                    exact ((Well.next (well_next (hB.ok (i := s.i) rfl (name_fine h))) (.inr (hB.is h5 (by decide)))).trans (hE d 1 _)).trans (well_need hB _ [59] (by decide))
                  · exact (hE d 1 s).trans (well_need hB _ [59] (by decide))
                · exact well_bad T s 2
theorem well_parL (hB : BadT T) : ∀ (f : Nat) (l : List Par) (s : St), Well T s (parL T f l s).2
  | 0, l, s => .refl _
  | f + 1, l, s => by
    rw [parL]
    split
    · exact .refl _
    · split
      · exact well_bad T s 5
      · dsimp only
        have g := (well_named hB s).trans (well_need hB (s.named T).2 [58] (by decide))
        split
        · exact g
        · have g2 := g.trans (well_lab hB _)
          split
          · rename_i h5
            exact (Well.next g2 (.inr (hB.is h5 (by decide)))).trans (well_parL hB f _ _)
          · exact g2
theorem well_sndL (hB : BadT T) : ∀ (f : Nat) (l : List Rf) (s : St), Well T s (sndL T f l s).2
  | 0, l, s => .refl _
  | f + 1, l, s => by
    rw [sndL]
    split
    · exact well_bad T s 5
    · dsimp only
      split
      · rename_i h5
        exact (Well.next (well_named hB s) (.inr (hB.is h5 (by decide)))).trans (well_sndL hB f _ _)
      · exact well_named hB s
theorem well_fn (hB : BadT T) (at_ : Int) (size : Nat) (s : St) : Well T s (fnItm T at_ size s).2 := by
  rw [fnItm]
  dsimp only
  have g6 : ∀ r5 : Nat × St, Well T r5.2 (if T.is r5.2.i [115, 101, 110, 100, 115] = true then sndL T 6 [] r5.2.next else ([], r5.2)).2 := fun r5 => by
    split
    · rename_i h5
      exact (well_next (hB.is h5 (by decide))).trans (well_sndL hB _ _ _)
    · exact .refl _
  exact (((((((well_named hB s).trans (well_need hB _ _ (by decide))).trans (well_parL hB 6 [] _)).trans (well_need hB _ _ (by decide))).trans (well_need hB _ _ (by decide))).trans (well_lab hB _)).trans (g6 _)).trans ((well_block hB _).1 _ _ (by rw [fuel]; omega))
theorem well_ch (hB : BadT T) (at_ : Int) (size : Nat) (s : St) : Well T s (chItm T at_ size s).2 := by
  rw [chItm]
  dsimp only
  exact (((well_named hB s).trans (well_need hB _ _ (by decide))).trans (well_lab hB _)).trans (well_need hB _ _ (by decide))
end
theorem toks_bad (s : List UInt8) : BadT ⟨tokens s, s.length⟩ := ⟨fun i h4 => by
  rcases Nat.lt_or_ge i (tokens s).length with h | h
  · rw [Src.tok, List.getD_eq_getElem?_getD, List.getElem?_eq_getElem h] at h4 ⊢
    have ok := tokens_ok s _ (List.getElem_mem h)
    dsimp only [Option.getD_some] at h4 ⊢
    generalize (tokens s)[i] = t at ok h4 ⊢
    obtain ⟨o1, o2⟩ := ok.one
    have hne : s.drop t.pos ≠ [] := by
      intro e
      have := congrArg List.length e
      have := ok.pos
      simp at *
      omega
    rw [ok.text]
    rw [h4] at o1
    cases hd : s.drop t.pos with
    | nil => exact absurd hd hne
    | cons c r =>
      rw [hd] at o1 o2
      simp only [one] at o1 o2
      split at o1
      · cases o1
      · split at o1
        · cases o1
        · split at o1
          · cases o1
          · split at o1
            · cases o1
            · rename_i h1 h2 h3 h5
              rw [if_neg h1, if_neg h2, if_neg h3, if_neg h5] at o2
              split at o1
              · cases o1
              · rename_i h6
                rw [if_neg h6] at o2
                dsimp only at o2
                rw [o2]
                exact ⟨c, rfl, by simpa using h3, by simpa using h5, by simpa using h6⟩
  · rw [tok_end h] at h4; cases h4⟩
/-- an item with a token that is none has something wrong. -/
theorem item_bad (s : List UInt8) (at_ : Int) (h : ∃ t ∈ tokens s, t.kind = 4) : (item s at_).diags ≠ [] := by
  have hB := toks_bad s
  have key : ∀ q : Itm × St, Well ⟨tokens s, s.length⟩ ⟨1, []⟩ q.2 → ((⟨tokens s, s.length⟩ : Src).tok 0).kind ≠ 4 → (if q.2.i < (tokens s).length then q.2.bad ⟨tokens s, s.length⟩ 2 else q.2).ds ≠ [] := fun q hw h0 => by
    split
    · exact bad_ne _ _ _
    · rename_i hlt
      intro e
      obtain ⟨t, ht, hk⟩ := h
      obtain ⟨j, hj, rfl⟩ := List.mem_iff_getElem.1 ht
      have e2 : (⟨tokens s, s.length⟩ : Src).tok j = (tokens s)[j] := by rw [Src.tok, List.getD_eq_getElem?_getD, List.getElem?_eq_getElem hj]; rfl
      rcases Nat.eq_zero_or_pos j with h1 | h1
      · subst h1; rw [e2] at h0; exact h0 hk
      · exact hw.good e j h1 (by omega) (by rw [e2]; exact hk)
  rw [item]
  dsimp only
  split
  · rename_i h1
    exact key _ (well_fn hB _ _ _) (hB.is h1 (by decide))
  · split
    · rename_i h1 h2
      exact key _ (well_ch hB _ _ _) (hB.is h2 (by decide))
    · split
      · exact bad_ne _ _ _
      · exact bad_ne _ _ _
end Go.Sp
end
section
namespace Go.Sp
/-- a token, so much further on. -/
def shift (n : Nat) (t : Tok) : Tok := ⟨t.kind, t.text, t.pos + n⟩
def tk (s : List UInt8) (p : Nat) : List Tok := toks s.length s p
theorem tk_nil (p : Nat) : tk [] p = [] := rfl
theorem tk_step (s : List UInt8) (p : Nat) (hs : s ≠ []) : tk s p = (if (one s).1 > 0 then [⟨(one s).1, s.take (one s).2, p⟩] else []) ++ tk (s.drop (one s).2) (p + (one s).2) := by
  have hl := one_le s hs
  obtain ⟨f, hf⟩ : ∃ f, s.length = f + 1 := ⟨s.length - 1, by omega⟩
  have e : toks f (s.drop (one s).2) (p + (one s).2) = tk (s.drop (one s).2) (p + (one s).2) := toks_fuel _ _ _ _ (by simp; omega) (by simp)
  unfold tk at e ⊢
  rw [hf]
  simp only [toks, hs, if_false]
  rw [e]
  split <;> rfl
end Go.Sp
end
section
namespace Go.Sp
theorem tw_take (F : UInt8 → Bool) : ∀ (r : List UInt8) (m : Nat), (r.takeWhile F).length ≤ m → (r.take m).takeWhile F = r.takeWhile F
  | [], m, _ => by simp
  | c :: r, 0, h => by
    rw [List.takeWhile_cons] at h ⊢
    split at h
    · simp at h
    · rename_i hc; simp [hc]
  | c :: r, m + 1, h => by
    rw [List.take_succ_cons, List.takeWhile_cons, List.takeWhile_cons]
    rw [List.takeWhile_cons] at h
    split at h
    · rename_i hc
      rw [if_pos hc, if_pos hc, tw_take F r m (by simpa using h)]
    · rename_i hc; rw [if_neg hc, if_neg hc]
theorem one_take (s : List UInt8) (m : Nat) (hs : s ≠ []) (h : (one s).2 ≤ m) : one (s.take m) = one s := by
  cases s with
  | nil => exact absurd rfl hs
  | cons c r =>
    have hm : 1 ≤ m := Nat.le_trans (one_le (c :: r) hs).1 h
    obtain ⟨m, rfl⟩ : ∃ k, m = k + 1 := ⟨m - 1, by omega⟩
    rw [List.take_succ_cons]
    have key : ∀ F : UInt8 → Bool, run F r ≤ m + 1 → run F (r.take m) = run F r := fun F hF => by
      unfold run at hF ⊢
      rw [tw_take F r m (by omega)]
    simp only [one] at h ⊢
    by_cases h1 : isBlank c = true
    · rw [if_pos h1] at h ⊢; rw [key _ h, if_pos h1]
    · rw [if_neg h1] at h ⊢; rw [if_neg h1]
      by_cases h2 : c.toNat = 35
      · rw [if_pos h2] at h ⊢; rw [key _ h, if_pos h2]
      · rw [if_neg h2] at h ⊢; rw [if_neg h2]
        by_cases h3 : isLetter c = true
        · rw [if_pos h3] at h ⊢; rw [key _ h, if_pos h3]
        · rw [if_neg h3] at h ⊢; rw [if_neg h3]
          by_cases h4 : isDigit c = true
          · rw [if_pos h4] at h ⊢; rw [key _ h, if_pos h4]
          · rw [if_neg h4] at h ⊢; rw [if_neg h4]
theorem tk_cut : ∀ (k : Nat) (s : List UInt8) (p n : Nat) (t : Tok), s.length = k → (tk s p)[n]? = some t → p ≤ t.pos ∧ tk (s.take (t.pos - p)) p = (tk s p).take n := by
  intro k
  induction k using Nat.strongRecOn with
  | _ k ih =>
    intro s p n t hk ht
    by_cases hs : s = []
    · subst hs; rw [tk_nil] at ht; simp at ht
    have hl := one_le s hs
    have step := tk_step s p hs
    have rest : ∀ (n : Nat), (tk (s.drop (one s).2) (p + (one s).2))[n]? = some t → p ≤ t.pos ∧ tk (s.take (t.pos - p)) p = (if (one s).1 > 0 then [⟨(one s).1, s.take (one s).2, p⟩] else []) ++ (tk (s.drop (one s).2) (p + (one s).2)).take n := fun n hn => by
      obtain ⟨h1, h2⟩ := ih (s.drop (one s).2).length (by simp; omega) (s.drop (one s).2) (p + (one s).2) n t rfl hn
      refine ⟨by omega, ?_⟩
      have hm : (one s).2 ≤ t.pos - p := by omega
      have hne : s.take (t.pos - p) ≠ [] := by
        intro e
        have := congrArg List.length e
        simp at this
        rcases this with this | this
        · omega
        · exact hs this
      have e3 : ((s.drop (one s).2).take (t.pos - (p + (one s).2))) = (s.take (t.pos - p)).drop (one s).2 := by
        rw [List.drop_take]; congr 1; omega
      have e4 : (s.take (t.pos - p)).take (one s).2 = s.take (one s).2 := by rw [List.take_take, Nat.min_eq_left hm]
      rw [tk_step _ _ hne, one_take s _ hs hm, e4, ← e3, h2]
    rw [step] at ht ⊢
    by_cases hp : (one s).1 > 0
    · rw [if_pos hp] at ht rest ⊢
      cases n with
      | zero =>
        simp only [List.singleton_append, List.getElem?_cons_zero, Option.some.injEq] at ht
        subst ht
        exact ⟨Nat.le_refl _, by simp [tk_nil]⟩
      | succ n =>
        obtain ⟨h1, h2⟩ := rest n (by simpa using ht)
        exact ⟨h1, by rw [h2]; simp⟩
    · rw [if_neg hp] at ht rest ⊢
      exact rest n (by simpa using ht)
theorem tokens_cut (s : List UInt8) (n : Nat) (t : Tok) (h : (tokens s)[n]? = some t) : tokens (s.take t.pos) = (tokens s).take n := by
  have := (tk_cut _ s 0 n t rfl h).2
  rw [Nat.sub_zero] at this
  exact this
/-- the tokens ahead of the n-th. -/
structure Cut (T T' : Src) (n : Nat) : Prop where
  l : T'.l = T.l.take n
  lt : n < T.l.length
section
variable {T T' : Src} {n : Nat}
theorem Cut.len (C : Cut T T' n) : T'.l.length = n := by rw [C.l, List.length_take]; have := C.lt; omega
theorem Cut.tok (C : Cut T T' n) {i : Nat} (h : i < n) : T.tok i = T'.tok i := by
  have := C.lt
  rw [Src.tok, Src.tok, C.l, List.getD_eq_getElem?_getD, List.getD_eq_getElem?_getD, List.getElem?_take, if_pos h, List.getElem?_eq_getElem (by omega)]; rfl
theorem Cut.is (C : Cut T T' n) {i : Nat} (w : List UInt8) (h : i < n) : T.is i w = T'.is i w := by
  have h1 := C.lt
  have h2 := C.len
  rw [Src.is, Src.is, C.tok h, h2, decide_eq_true (by omega : i < T.l.length), decide_eq_true h]
theorem Cut.is_lt (C : Cut T T' n) {i : Nat} {w : List UInt8} (h : T'.is i w = true) : i < n := by have := Go.Sp.is_lt h; rwa [C.len] at this
theorem Cut.endOf (C : Cut T T' n) {i : Nat} (h : i ≤ n) : T.endOf i = T'.endOf i := by
  rw [Src.endOf, Src.endOf]
  by_cases h0 : i = 0
  · rw [if_pos h0, if_pos h0]
  · rw [if_neg h0, if_neg h0, C.tok (by omega)]
theorem need_is {s : St} {w : List UInt8} (h : (s.need T w).2.ds = []) : T.is s.i w = true := by
  rw [St.need] at h
  split at h
  · assumption
  · exact absurd h (bad_ne _ _ _)
theorem lock_need (C : Cut T T' n) {s : St} {w : List UInt8} (h : (s.need T' w).2.ds = []) : s.need T w = s.need T' w := by
  have h1 := need_is h
  rw [St.need, St.need, C.is w (C.is_lt h1), if_pos h1, if_pos h1]
theorem named_lt (C : Cut T T' n) {s : St} (h : (s.named T').2.ds = []) : s.i < n ∧ name (T'.tok s.i).text = true := by
  rw [St.named] at h
  split at h
  · rename_i h1
    have := tok_lt (name_ne h1)
    rw [C.len] at this
    exact ⟨this, h1⟩
  · split at h
    · exact absurd h (bad_ne _ _ _)
    · exact absurd h (bad_ne _ _ _)
theorem lock_named (C : Cut T T' n) {s : St} (h : (s.named T').2.ds = []) : s.named T = s.named T' := by
  obtain ⟨h1, h2⟩ := named_lt C h
  rw [St.named, St.named, C.tok h1, if_pos h2, if_pos h2]
theorem lock_labL (C : Cut T T' n) : ∀ (f' f k : Nat) (s : St), f' ≤ f → n + 1 ≤ f' + s.i → s.i ≤ n → (labL T' f' k s).2.ds = [] → labL T f k s = labL T' f' k s
  | 0, f, k, s, _, h1, h2, _ => by omega
  | f' + 1, f, k, s, hf, h1, h2, h => by
    obtain ⟨g, rfl⟩ : ∃ g, f = g + 1 := ⟨f - 1, by omega⟩
    have hs : s.i < n := by
      rcases Nat.lt_or_ge s.i n with h3 | h3
      · exact h3
      · exfalso
        have e1 : T'.is s.i [125] = false := by
          cases e : T'.is s.i [125] with
          | false => rfl
          | true => have := C.is_lt e; omega
        have e2 := tok_end (T := T') (i := s.i) (by rw [C.len]; omega)
        rw [labL, e1, if_neg (by simp)] at h
        dsimp only at h
        rw [e2, if_pos (by show (!tagB []) = true; decide)] at h
        exact bad_ne _ _ _ h
    rw [labL] at h
    rw [labL, labL, C.is [125] hs, C.tok hs]
    by_cases c1 : T'.is s.i [125] = true
    · rw [if_pos c1, if_pos c1]
    · rw [if_neg c1] at h
      rw [if_neg c1, if_neg c1]
      dsimp only at h ⊢
      by_cases c2 : (!tagB (T'.tok s.i).text) = true
      · rw [if_pos c2] at h; exact absurd h (bad_ne _ _ _)
      · rw [if_neg c2] at h
        rw [if_neg c2, if_neg c2]
        by_cases c3 : bit k (((T'.tok s.i).text.getD 0 0).toNat - 97) = true
        · exfalso
          simp only [if_pos c3] at h
          have gb : (s.bad T' 7).next.ds ≠ [] := bad_ne _ _ _
          split at h
          · exact ((runs_labL T' _ _ _).told gb) h
          · split at h
            · exact ((runs_labL T' _ _ (s.bad T' 7).next.next).told (by exact gb)) h
            · exact bad_ne _ _ _ h
        · simp only [if_neg c3] at h ⊢
          generalize k + 2 ^ (((T'.tok s.i).text.getD 0 0).toNat - 97) = k1 at h ⊢
          have en : s.next.i = s.i + 1 := rfl
          by_cases c4 : T'.is s.next.i [125] = true
          · have := C.is_lt c4
            rw [if_pos c4] at h
            rw [C.is [125] this, if_pos c4, if_pos c4]
            exact lock_labL C f' g k1 s.next (by omega) (by omega) (by omega) h
          · rw [if_neg c4] at h
            by_cases c5 : T'.is s.next.i [44] = true
            · have := C.is_lt c5
              have en2 : s.next.next.i = s.i + 2 := rfl
              rw [if_pos c5] at h
              rw [C.is [125] this, C.is [44] this, if_neg c4, if_neg c4, if_pos c5, if_pos c5]
              exact lock_labL C f' g k1 s.next.next (by omega) (by omega) (by omega) h
            · rw [if_neg c5] at h; exact absurd h (bad_ne _ _ _)
theorem lock_lab (C : Cut T T' n) {s : St} (h : (lab T' s).2.ds = []) : lab T s = lab T' s := by
  have h1 := C.len
  have h2 := C.lt
  rw [lab] at h
  split at h
  · rename_i c
    have c1 := C.is_lt c
    have en : s.next.i = s.i + 1 := rfl
    rw [lab, lab, C.is _ c1, if_pos c, if_pos c]
    exact lock_labL C _ _ 0 s.next (by omega) (by omega) (by omega) h
  · exact absurd h (bad_ne _ _ _)
theorem lock_expr (C : Cut T T' n) : ∀ f',
    (∀ f d s, f' ≤ f → 3 * (n - s.i) + 2 ≤ f' → (atom T' f' d s).2.ds = [] → (atom T' f' d s).2.i < n → atom T f d s = atom T' f' d s) ∧
    (∀ f d l s, f' ≤ f → 3 * (n - s.i) + 4 ≤ f' → (argL T' f' d l s).2.ds = [] → (argL T' f' d l s).2.i < n → argL T f d l s = argL T' f' d l s) ∧
    (∀ f d m s, f' ≤ f → 3 * (n - s.i) + 3 ≤ f' → (expr T' f' d m s).2.ds = [] → (expr T' f' d m s).2.i < n → expr T f d m s = expr T' f' d m s) ∧
    (∀ f d m e s, f' ≤ f → 3 * (n - s.i) + 1 ≤ f' → (opL T' f' d m e s).2.ds = [] → (opL T' f' d m e s).2.i < n → opL T f d m e s = opL T' f' d m e s)
  | 0 => ⟨fun _ _ _ _ h => by omega, fun _ _ _ _ _ h => by omega, fun _ _ _ _ _ h => by omega, fun _ _ _ _ _ _ h => by omega⟩
  | f' + 1 => by
    obtain ⟨hA, hL, hE, hO⟩ := lock_expr C f'
    have hlen := C.len
    have hlt := C.lt
    have R := runs_expr T' f'
    refine ⟨fun f d s hf hb h0 hn => ?_, fun f d l s hf hb h0 hn => ?_, fun f d m s hf hb h0 hn => ?_, fun f d m e s hf hb h0 hn => ?_⟩
    · obtain ⟨g, rfl⟩ : ∃ g, f = g + 1 := ⟨f - 1, by omega⟩
      have ho := ((runs_expr T' (f' + 1)).1 d s).on
      have hs : s.i < n := by omega
      have en : s.next.i = s.i + 1 := rfl
      have en2 : s.next.next.i = s.i + 2 := rfl
      rw [atom] at h0 hn
      rw [atom, atom]
      try dsimp only at h0 hn ⊢
      rw [C.tok hs]
      rw [if_neg (by omega : ¬ T'.l.length ≤ s.i)] at h0 hn ⊢
      rw [if_neg (by omega : ¬ T.l.length ≤ s.i)]
      by_cases h12 : 12 ≤ d
      · rw [if_pos h12] at h0; exact absurd h0 (bad_ne _ _ _)
      rw [if_neg h12] at h0 hn ⊢
      rw [if_neg h12]
      by_cases k2 : (T'.tok s.i).kind = 2
      · rw [if_pos k2] at h0 hn ⊢
        rw [if_pos k2]
        by_cases kb : 1000000000 < digits (T'.tok s.i).text
        · rw [if_pos kb] at h0; exact absurd h0 (bad_ne _ _ _)
        · rw [if_neg kb, if_neg kb]
      rw [if_neg k2] at h0 hn ⊢
      rw [if_neg k2]
      by_cases p40 : (T'.tok s.i).text = [40]
      · rw [if_pos p40] at h0 hn ⊢
        rw [if_pos p40]
        have c1 := (runs_need T' (expr T' f' (d + 1) 1 s.next).2 [41]).clean h0
        rw [hE g (d + 1) 1 s.next (by omega) (by omega) c1 (C.is_lt (need_is h0)), lock_need C h0]
      rw [if_neg p40] at h0 hn ⊢
      rw [if_neg p40]
      by_cases nm : (!name (T'.tok s.i).text) = true
      · rw [if_pos nm] at h0; exact absurd h0 (bad_ne _ _ _)
      rw [if_neg nm] at h0 hn ⊢
      rw [if_neg nm]
      by_cases pr : (!T'.is (s.i + 1) [40]) = true
      · rw [if_pos pr] at hn
        rw [C.is [40] (by dsimp only at hn; omega), if_pos pr, if_pos pr]
      · rw [if_neg pr] at h0 hn ⊢
        have p1 := C.is_lt (by simpa using pr : T'.is (s.i + 1) [40] = true)
        rw [C.is [40] p1, if_neg pr]
        have c1 := (runs_need T' (argL T' f' (d + 1) [] s.next.next).2 [41]).clean h0
        rw [hL g (d + 1) [] s.next.next (by omega) (by omega) c1 (C.is_lt (need_is h0)), lock_need C h0, C.endOf (by dsimp only at hn; omega)]
    · obtain ⟨g, rfl⟩ : ∃ g, f = g + 1 := ⟨f - 1, by omega⟩
      have ho := ((runs_expr T' (f' + 1)).2.1 d l s).on
      have hs : s.i < n := by omega
      rw [argL] at h0 hn
      rw [argL, argL]
      rw [C.is [41] hs]
      by_cases c1 : T'.is s.i [41] = true
      · rw [if_pos (.inr c1), if_pos (.inr c1)]
      have n1 : ¬ (T'.l.length ≤ s.i ∨ T'.is s.i [41] = true) := fun h => h.elim (fun h => by omega) c1
      have n2 : ¬ (T.l.length ≤ s.i ∨ T'.is s.i [41] = true) := fun h => h.elim (fun h => by omega) c1
      rw [if_neg n1] at h0 hn ⊢
      rw [if_neg n2]
      by_cases c5 : l.length = 5
      · rw [if_pos c5] at h0; exact absurd h0 (bad_ne _ _ _)
      rw [if_neg c5] at h0 hn ⊢
      rw [if_neg c5]
      try dsimp only at h0 hn ⊢
      by_cases c6 : T'.is (expr T' f' d 1 s).2.i [44] = true
      · rw [if_pos c6] at h0 hn ⊢
        have r1 := R.2.1 d (l ++ [(expr T' f' d 1 s).1]) (expr T' f' d 1 s).2.next
        have e0 : (expr T' f' d 1 s).2.ds = [] := r1.clean h0
        have u1 := (R.2.2.1 d 1 s).on
        have en : (expr T' f' d 1 s).2.next.i = (expr T' f' d 1 s).2.i + 1 := rfl
        rw [hE g d 1 s (by omega) (by omega) e0 (C.is_lt c6), C.is _ (C.is_lt c6), if_pos c6]
        exact hL g d _ _ (by omega) (by omega) h0 hn
      · rw [if_neg c6] at h0 hn ⊢
        rw [hE g d 1 s (by omega) (by omega) h0 hn, C.is _ hn, if_neg c6]
    · obtain ⟨g, rfl⟩ : ∃ g, f = g + 1 := ⟨f - 1, by omega⟩
      rw [expr] at h0 hn
      rw [expr, expr]
      try dsimp only at h0 hn ⊢
      have r1 := R.2.2.2 d m (atom T' f' d s).1 (atom T' f' d s).2
      have u1 := (R.1 d s).on
      have u2 := r1.on
      rw [hA g d s (by omega) (by omega) (r1.clean h0) (by omega)]
      exact hO g d m _ _ (by omega) (by omega) h0 hn
    · obtain ⟨g, rfl⟩ : ∃ g, f = g + 1 := ⟨f - 1, by omega⟩
      have ho := ((runs_expr T' (f' + 1)).2.2.2 d m e s).on
      have hs : s.i < n := by omega
      have en : s.next.i = s.i + 1 := rfl
      rw [opL] at h0 hn
      rw [opL, opL, C.tok hs]
      try dsimp only at h0 hn ⊢
      by_cases c1 : tight (T'.tok s.i).text < m ∨ tight (T'.tok s.i).text = 0
      · rw [if_pos c1, if_pos c1]
      rw [if_neg c1] at h0 hn ⊢
      rw [if_neg c1]
      generalize hx : expr T' f' d (tight (T'.tok s.i).text + 1) s.next = x at h0 hn ⊢
      have r0 := R.2.2.1 d (tight (T'.tok s.i).text + 1) s.next
      rw [hx] at r0
      have r1 := R.2.2.2 d m (.mk 3 (T'.tok s.i).text 0 [e, x.1] e.fr (max x.1.to e.to)) x.2
      have u1 := r0.on
      have u2 := r1.on
      have e3 := hE g d (tight (T'.tok s.i).text + 1) s.next (by omega) (by omega) (by rw [hx]; exact r1.clean h0) (by rw [hx]; omega)
      rw [hx] at e3
      rw [e3]
      exact hO g d m _ _ (by omega) (by omega) h0 hn
/-- a statement stands at a token, or tells something. -/
theorem lock_block (C : Cut T T' n) : ∀ f',
    (∀ f d s, f' ≤ f → 5 * (n - s.i) + 2 ≤ f' → (block T' f' d s).2.ds = [] → block T f d s = block T' f' d s) ∧
    (∀ f d l s, f' ≤ f → 5 * (n - s.i) + 6 ≤ f' → (stmL T' f' d l s).2.ds = [] → (stmL T' f' d l s).2.i < n → stmL T f d l s = stmL T' f' d l s) ∧
    (∀ f d s, f' ≤ f → 5 * (n - s.i) + 5 ≤ f' → (stm T' f' d s).2.ds = [] → (stm T' f' d s).2.i < n → stm T f d s = stm T' f' d s)
  | 0 => ⟨fun _ _ _ _ h => by omega, fun _ _ _ _ _ h => by omega, fun _ _ _ _ h => by omega⟩
  | f' + 1 => by
    obtain ⟨hK, hL, hS⟩ := lock_block C f'
    have hlen := C.len
    have hlt := C.lt
    have R := runs_block T' f'
    have rE := (runs_expr T' f').2.2.1
    have hE := (lock_expr C f').2.2.1
    refine ⟨fun f d s hf hb h0 => ?_, fun f d l s hf hb h0 hn => ?_, fun f d s hf hb h0 hn => ?_⟩
    · obtain ⟨g, rfl⟩ : ∃ g, f = g + 1 := ⟨f - 1, by omega⟩
      rw [block] at h0
      rw [block, block]
      by_cases c1 : (!T'.is s.i [123]) = true
      · rw [if_pos c1] at h0; exact absurd h0 (bad_ne _ _ _)
      rw [if_neg c1] at h0 ⊢
      have hs := C.is_lt (by simpa using c1 : T'.is s.i [123] = true)
      have en : s.next.i = s.i + 1 := rfl
      rw [C.is _ hs, if_neg c1]
      by_cases c2 : 12 ≤ d
      · rw [if_pos c2] at h0; exact absurd h0 (bad_ne _ _ _)
      rw [if_neg c2] at h0 ⊢
      rw [if_neg c2]
      dsimp only at h0 ⊢
      have k1 := (runs_need T' (stmL T' f' (d + 1) [] s.next).2 [125]).clean h0
      rw [hL g (d + 1) [] s.next (by omega) (by omega) k1 (C.is_lt (need_is h0)), lock_need C h0]
    · obtain ⟨g, rfl⟩ : ∃ g, f = g + 1 := ⟨f - 1, by omega⟩
      have ho := ((runs_block T' (f' + 1)).2.1 d l s).on
      have hs : s.i < n := by omega
      rw [stmL] at h0 hn
      rw [stmL, stmL, C.is [125] hs]
      by_cases c1 : T'.is s.i [125] = true
      · rw [if_pos (.inr c1), if_pos (.inr c1)]
      have n1 : ¬ (T'.l.length ≤ s.i ∨ T'.is s.i [125] = true) := fun h => h.elim (fun h => by omega) c1
      have n2 : ¬ (T.l.length ≤ s.i ∨ T'.is s.i [125] = true) := fun h => h.elim (fun h => by omega) c1
      rw [if_neg n1] at h0 hn ⊢
      rw [if_neg n2]
      by_cases c2 : 40 ≤ l.length
      · rw [if_pos c2] at h0; exact absurd h0 (bad_ne _ _ _)
      rw [if_neg c2] at h0 hn ⊢
      rw [if_neg c2]
      try dsimp only at h0 hn ⊢
      have r0 := (R.2.2 d s).on
      have on : (stm T' f' d s).2.ds ≠ [] ∨ s.i + 1 ≤ (stm T' f' d s).2.i := by
        obtain ⟨k, rfl⟩ : ∃ k, f' = k + 3 := ⟨f' - 3, by omega⟩
        exact stm_on k d s
      by_cases c3 : (stm T' f' d s).2.i = s.i
      · exfalso
        rw [if_pos c3] at h0
        have k1 : (stm T' f' d s).2.next.ds = [] := (R.2.1 d _ _).clean h0
        rcases on with on | on
        · exact on k1
        · omega
      rw [if_neg c3] at h0 hn ⊢
      have r1 := R.2.1 d (l ++ [(stm T' f' d s).1]) (stm T' f' d s).2
      have u1 := r1.on
      rw [hS g d s (by omega) (by omega) (r1.clean h0) (by omega), if_neg c3]
      exact hL g d _ _ (by omega) (by omega) h0 hn
    · obtain ⟨g, rfl⟩ : ∃ g, f = g + 1 := ⟨f - 1, by omega⟩
      have ho := ((runs_block T' (f' + 1)).2.2 d s).on
      have hs : s.i < n := by omega
      have en : s.next.i = s.i + 1 := rfl
      have en2 : s.next.next.i = s.i + 2 := rfl
      rw [stm] at h0 hn
      rw [stm, stm, C.tok hs]
      try dsimp only at h0 hn ⊢
      by_cases c1 : (T'.tok s.i).text = [108, 101, 116]
      · rw [if_pos c1] at h0 hn ⊢
        rw [if_pos c1]
        try dsimp only at h0 hn ⊢
        have q1 := runs_named T' s.next
        have q2 : Runs T' (s.next.named T').2 (if (!T'.is (s.next.named T').2.i [58]) = true then ((0 : Nat), (s.next.named T').2) else lab T' (s.next.named T').2.next).2 := by
          split
          · exact .refl _
          · exact (runs_next T' _).trans (runs_lab T' _)
        have k5 := (runs_need T' _ _).clean h0
        have k4 := (rE _ _ _).clean k5
        have k3 := (runs_need T' _ _).clean k4
        have k2 := q2.clean k3
        have u6 := (runs_need T' (expr T' f' d 1 ((if (!T'.is (s.next.named T').2.i [58]) = true then ((0 : Nat), (s.next.named T').2) else lab T' (s.next.named T').2.next).2.need T' [61]).2).2 [59]).on
        have u5 := (rE d 1 ((if (!T'.is (s.next.named T').2.i [58]) = true then ((0 : Nat), (s.next.named T').2) else lab T' (s.next.named T').2.next).2.need T' [61]).2).on
        have u4 := (runs_need T' (if (!T'.is (s.next.named T').2.i [58]) = true then ((0 : Nat), (s.next.named T').2) else lab T' (s.next.named T').2.next).2 [61]).on
        have u3 := q2.on
        have u2 := q1.on
        have e2 : (if (!T'.is (s.next.named T').2.i [58]) = true then ((0 : Nat), (s.next.named T').2) else lab T (s.next.named T').2.next) = (if (!T'.is (s.next.named T').2.i [58]) = true then ((0 : Nat), (s.next.named T').2) else lab T' (s.next.named T').2.next) := by
          by_cases c : (!T'.is (s.next.named T').2.i [58]) = true
          · rw [if_pos c, if_pos c]
          · rw [if_neg c] at k3
            rw [if_neg c, if_neg c, lock_lab C k3]
        rw [lock_named C k2, C.is [58] (by omega), e2, C.tok (i := s.i + 1) (by omega)]
        generalize (if (!T'.is (s.next.named T').2.i [58]) = true then ((0 : Nat), (s.next.named T').2) else lab T' (s.next.named T').2.next) = r1 at h0 hn k5 k4 k3 u6 u5 u4 u3 ⊢
        rw [lock_need C k4, hE g d 1 (r1.2.need T' [61]).2 (by omega) (by omega) k5 (C.is_lt (need_is h0)), lock_need C h0, C.endOf (by omega)]
      rw [if_neg c1] at h0 hn ⊢
      rw [if_neg c1]
      by_cases c2 : (T'.tok s.i).text = [105, 102]
      · rw [if_pos c2] at h0 hn ⊢
        rw [if_pos c2]
        try dsimp only at h0 hn ⊢
        have u1 := (rE d 1 s.next).on
        have u2 := (R.1 d (expr T' f' d 1 s.next).2).on
        by_cases c : T'.is (block T' f' d (expr T' f' d 1 s.next).2).2.i [101, 108, 115, 101] = true
        · have l1 := C.is_lt c
          rw [if_pos c] at h0 hn ⊢
          try dsimp only at h0 hn ⊢
          have en3 : (block T' f' d (expr T' f' d 1 s.next).2).2.next.i = (block T' f' d (expr T' f' d 1 s.next).2).2.i + 1 := rfl
          have k2 : (block T' f' d (expr T' f' d 1 s.next).2).2.ds = [] := (R.1 d (block T' f' d (expr T' f' d 1 s.next).2).2.next).clean h0
          have k1 := (R.1 d (expr T' f' d 1 s.next).2).clean k2
          rw [hE g d 1 s.next (by omega) (by omega) k1 (by omega), hK g d _ (by omega) (by omega) k2, C.is _ l1, if_pos c, hK g d _ (by omega) (by omega) h0, C.endOf (by omega)]
        · rw [if_neg c] at h0 hn ⊢
          try dsimp only at h0 hn ⊢
          have k1 := (R.1 d (expr T' f' d 1 s.next).2).clean h0
          rw [hE g d 1 s.next (by omega) (by omega) k1 (by omega), hK g d _ (by omega) (by omega) h0, C.is _ hn, if_neg c, C.endOf (by omega)]
      rw [if_neg c2] at h0 hn ⊢
      rw [if_neg c2]
      by_cases c3 : (T'.tok s.i).text = [119, 104, 105, 108, 101]
      · rw [if_pos c3] at h0 hn ⊢
        rw [if_pos c3]
        try dsimp only at h0 hn ⊢
        have u1 := (rE d 1 s.next).on
        have u2 := (R.1 d (expr T' f' d 1 s.next).2).on
        have k1 := (R.1 d (expr T' f' d 1 s.next).2).clean h0
        rw [hE g d 1 s.next (by omega) (by omega) k1 (by omega), hK g d _ (by omega) (by omega) h0, C.endOf (by omega)]
      rw [if_neg c3] at h0 hn ⊢
      rw [if_neg c3]
      by_cases c4 : (T'.tok s.i).text = [115, 101, 110, 100]
      · rw [if_pos c4] at h0 hn ⊢
        rw [if_pos c4]
        try dsimp only at h0 hn ⊢
        have k2 := (runs_need T' (expr T' f' d 1 (s.next.named T').2).2 [59]).clean h0
        have k1 := (rE d 1 (s.next.named T').2).clean k2
        have u1 := (runs_named T' s.next).on
        have u2 := (rE d 1 (s.next.named T').2).on
        have u3 := (runs_need T' (expr T' f' d 1 (s.next.named T').2).2 [59]).on
        rw [lock_named C k1, C.tok (i := s.i + 1) (by omega), hE g d 1 _ (by omega) (by omega) k2 (C.is_lt (need_is h0)), lock_need C h0, C.endOf (by omega)]
      rw [if_neg c4] at h0 hn ⊢
      rw [if_neg c4]
      by_cases c5 : (T'.tok s.i).text = [114, 101, 116, 117, 114, 110]
      · rw [if_pos c5] at h0 hn ⊢
        rw [if_pos c5]
        try dsimp only at h0 hn ⊢
        have k2 := (runs_need T' (expr T' f' d 1 s.next).2 [59]).clean h0
        rw [hE g d 1 _ (by omega) (by omega) k2 (C.is_lt (need_is h0)), lock_need C h0, C.endOf (by omega)]
      rw [if_neg c5] at h0 hn ⊢
      rw [if_neg c5]
      by_cases c6 : name (T'.tok s.i).text = true
      · rw [if_pos c6] at h0 hn ⊢
        rw [if_pos c6]
        by_cases c : T'.is (s.i + 1) [61] = true
        · rw [if_pos c] at h0 hn ⊢
          try dsimp only at h0 hn ⊢
          have k2 := (runs_need T' (expr T' f' d 1 s.next.next).2 [59]).clean h0
          rw [C.is _ (C.is_lt c), if_pos c, hE g d 1 _ (by omega) (by omega) k2 (C.is_lt (need_is h0)), lock_need C h0, C.endOf (by omega)]
        · rw [if_neg c] at h0 hn ⊢
          try dsimp only at h0 hn ⊢
          have k2 := (runs_need T' (expr T' f' d 1 s).2 [59]).clean h0
          have l1 := C.is_lt (need_is h0)
          have on : (expr T' f' d 1 s).2.ds ≠ [] ∨ s.i + 1 ≤ (expr T' f' d 1 s).2.i := by
            obtain ⟨k, rfl⟩ : ∃ k, f' = k + 2 := ⟨f' - 2, by omega⟩
            have ha := atom_on (T := T') k d s c6
            rw [expr]
            have hr := (runs_expr T' (k + 1)).2.2.2 d 1 (atom T' (k + 1) d s).1 (atom T' (k + 1) d s).2
            rcases ha with ha | ha
            · exact .inl (hr.told ha)
            · exact .inr (Nat.le_trans ha hr.on)
          have l2 : s.i + 1 < n := by
            rcases on with on | on
            · exact absurd k2 on
            · omega
          rw [C.is _ l2, if_neg c, hE g d 1 _ (by omega) (by omega) k2 l1, lock_need C h0, C.endOf (by omega)]
      rw [if_neg c6] at h0
      exact absurd h0 (bad_ne _ _ _)
theorem lock_parL (C : Cut T T' n) : ∀ (f : Nat) (l : List Par) (s : St), (parL T' f l s).2.ds = [] → (parL T' f l s).2.i < n → parL T f l s = parL T' f l s
  | 0, l, s, _, _ => rfl
  | f + 1, l, s, h0, hn => by
    have hlen := C.len
    have hlt := C.lt
    have ho := (runs_parL T' (f + 1) l s).on
    have hs : s.i < n := by omega
    rw [parL] at h0 hn
    rw [parL, parL, C.is [41] hs, C.tok hs]
    by_cases c1 : T'.is s.i [41] = true
    · rw [if_pos (.inr c1), if_pos (.inr c1)]
    have n1 : ¬ (T'.l.length ≤ s.i ∨ T'.is s.i [41] = true) := fun h => h.elim (fun h => by omega) c1
    have n2 : ¬ (T.l.length ≤ s.i ∨ T'.is s.i [41] = true) := fun h => h.elim (fun h => by omega) c1
    rw [if_neg n1] at h0 hn ⊢
    rw [if_neg n2]
    by_cases c2 : 5 ≤ l.length
    · rw [if_pos c2] at h0; exact absurd h0 (bad_ne _ _ _)
    rw [if_neg c2] at h0 hn ⊢
    rw [if_neg c2]
    dsimp only at h0 hn ⊢
    by_cases c3 : (!((s.named T').2.need T' [58]).1) = true
    · exfalso
      rw [if_pos c3] at h0
      have := need_is h0
      rw [St.need, if_pos this] at c3
      exact absurd c3 (by simp)
    rw [if_neg c3] at h0 hn ⊢
    have q1 := runs_lab T' ((s.named T').2.need T' [58]).2
    have q2 := runs_need T' (s.named T').2 [58]
    by_cases c4 : T'.is (lab T' ((s.named T').2.need T' [58]).2).2.i [44] = true
    · rw [if_pos c4] at h0 hn ⊢
      have k3 : (lab T' ((s.named T').2.need T' [58]).2).2.ds = [] := (runs_parL T' f _ (lab T' ((s.named T').2.need T' [58]).2).2.next).clean h0
      have k2 := q1.clean k3
      have k1 := q2.clean k2
      rw [lock_named C k1, lock_need C k2, if_neg c3, lock_lab C k3, C.is _ (C.is_lt c4), if_pos c4]
      exact lock_parL C f _ _ h0 hn
    · rw [if_neg c4] at h0 hn ⊢
      have k2 := q1.clean h0
      have k1 := q2.clean k2
      rw [lock_named C k1, lock_need C k2, if_neg c3, lock_lab C h0, C.is _ hn, if_neg c4]
theorem lock_sndL (C : Cut T T' n) : ∀ (f : Nat) (l : List Rf) (s : St), (sndL T' f l s).2.ds = [] → (sndL T' f l s).2.i < n → sndL T f l s = sndL T' f l s
  | 0, l, s, _, _ => rfl
  | f + 1, l, s, h0, hn => by
    have ho := (runs_sndL T' (f + 1) l s).on
    have hs : s.i < n := by omega
    rw [sndL] at h0 hn
    rw [sndL, sndL, C.tok hs]
    by_cases c2 : 5 ≤ l.length
    · rw [if_pos c2] at h0; exact absurd h0 (bad_ne _ _ _)
    rw [if_neg c2] at h0 hn ⊢
    rw [if_neg c2]
    dsimp only at h0 hn ⊢
    by_cases c4 : T'.is (s.named T').2.i [44] = true
    · rw [if_pos c4] at h0 hn ⊢
      have k1 : (s.named T').2.ds = [] := (runs_sndL T' f _ (s.named T').2.next).clean h0
      rw [lock_named C k1, C.is _ (C.is_lt c4), if_pos c4]
      exact lock_sndL C f _ _ h0 hn
    · rw [if_neg c4] at h0 hn ⊢
      rw [lock_named C h0, C.is _ hn, if_neg c4]
theorem block_is {f d : Nat} {s : St} (h : (block T' (f + 1) d s).2.ds = []) : T'.is s.i [123] = true := by
  rw [block] at h
  by_cases c1 : (!T'.is s.i [123]) = true
  · rw [if_pos c1] at h; exact absurd h (bad_ne _ _ _)
  · simpa using c1
theorem need_top (C : Cut T T' n) {s : St} {w : List UInt8} (h : (s.need T' w).2.ds = []) : (s.need T' w).2.i ≤ n := by
  have h1 := need_is h
  have := C.is_lt h1
  rw [St.need, if_pos h1]
  exact this
theorem block_top (C : Cut T T' n) {f d : Nat} {s : St} (h : (block T' (f + 1) d s).2.ds = []) : (block T' (f + 1) d s).2.i ≤ n := by
  rw [block] at h ⊢
  split at h
  · exact absurd h (bad_ne _ _ _)
  · rename_i c1
    rw [if_neg c1]
    split at h
    · exact absurd h (bad_ne _ _ _)
    · rename_i c2
      rw [if_neg c2]
      exact need_top C h
theorem lock_fn (C : Cut T T' n) (a a' : Int) (z z' : Nat) (s : St) (h0 : (fnItm T' a' z' s).2.ds = []) : (fnItm T a z s).2 = (fnItm T' a' z' s).2 := by
  have hlen := C.len
  have hlt := C.lt
  rw [fnItm] at h0
  rw [fnItm, fnItm]
  dsimp only at h0 ⊢
  have e8 : fuel T' = (8 * T'.l.length + 63) + 1 := rfl
  have r6 : ∀ r5 : Nat × St, Runs T' r5.2 (if T'.is r5.2.i [115, 101, 110, 100, 115] = true then sndL T' 6 [] r5.2.next else ([], r5.2)).2 := fun r5 => by
    split
    · exact (runs_next T' _).trans (runs_sndL T' _ _ _)
    · exact .refl _
  have k7 := (runs_block T' (fuel T')).1 0 _ |>.clean h0
  have k6 := (r6 _).clean k7
  have k5 := (runs_lab T' _).clean k6
  have k4 := (runs_need T' _ _).clean k5
  have k3 := (runs_need T' _ _).clean k4
  have k2 := (runs_parL T' _ _ _).clean k3
  have k1 := (runs_need T' _ _).clean k2
  rw [lock_named C k1, lock_need C k2, lock_parL C 6 [] _ k3 (C.is_lt (need_is k4)), lock_need C k4, lock_need C k5, lock_lab C k6]
  have hb : T'.is _ [123] = true := block_is (by rw [← e8]; exact h0)
  have lb := C.is_lt hb
  generalize lab T' (((parL T' 6 [] (((s.named T').2.need T' [40]).2)).2.need T' [41]).2.need T' [58]).2 = r5 at h0 hb lb k6 k7 ⊢
  have on := (r6 r5).on
  have e6 : (if T.is r5.2.i [115, 101, 110, 100, 115] = true then sndL T 6 [] r5.2.next else ([], r5.2)) = (if T'.is r5.2.i [115, 101, 110, 100, 115] = true then sndL T' 6 [] r5.2.next else ([], r5.2)) := by
    rw [C.is _ (by omega)]
    by_cases c : T'.is r5.2.i [115, 101, 110, 100, 115] = true
    · rw [if_pos c] at k7 lb
      rw [if_pos c, if_pos c, lock_sndL C 6 [] _ k7 lb]
    · rw [if_neg c, if_neg c]
  rw [e6]
  rw [(lock_block C (fuel T')).1 (fuel T) 0 _ (by rw [fuel, fuel]; omega) (by rw [fuel]; omega) h0]
theorem lock_ch (C : Cut T T' n) (a a' : Int) (z z' : Nat) (s : St) (h0 : (chItm T' a' z' s).2.ds = []) : (chItm T a z s).2 = (chItm T' a' z' s).2 := by
  rw [chItm] at h0
  rw [chItm, chItm]
  dsimp only at h0 ⊢
  have k3 := (runs_need T' _ _).clean h0
  have k2 := (runs_lab T' _).clean k3
  have k1 := (runs_need T' _ _).clean k2
  rw [lock_named C k1, lock_need C k2, lock_lab C k3, lock_need C h0]
end
/-- an item that ends too soon has something wrong. -/
theorem item_cut (s : List UInt8) (a a' : Int) (n : Nat) (t : Tok) (ht : (tokens s)[n]? = some t) (h : (item s a).diags = []) : (item (s.take t.pos) a').diags ≠ [] := by
  intro h'
  have hlt : n < (tokens s).length := (List.getElem?_eq_some_iff.1 ht).1
  have C : Cut ⟨tokens s, s.length⟩ ⟨tokens (s.take t.pos), (s.take t.pos).length⟩ n := ⟨tokens_cut s n t ht, hlt⟩
  rw [item_eq] at h h'
  have hT : (⟨tokens s, s.length⟩ : Src).l.length = (tokens s).length := rfl
  generalize (⟨tokens (s.take t.pos), (s.take t.pos).length⟩ : Src) = T' at C h'
  generalize (⟨tokens s, s.length⟩ : Src) = T at C h hT
  have hlen := C.len
  have h1 : (if (itemQ T a s.length).2.i < T.l.length then (itemQ T a s.length).2.bad T 2 else (itemQ T a s.length).2).ds = [] := h
  have h2 : (if (itemQ T' a' (s.take t.pos).length).2.i < T'.l.length then (itemQ T' a' (s.take t.pos).length).2.bad T' 2 else (itemQ T' a' (s.take t.pos).length).2).ds = [] := h'
  have top : ∀ q q' : Itm × St, q.2 = q'.2 → q'.2.i ≤ n → (if q.2.i < T.l.length then q.2.bad T 2 else q.2).ds = [] → False := fun q q' e hq hd => by
    rw [if_pos (by rw [e]; omega)] at hd
    exact bad_ne _ _ _ hd
  have told : ∀ q' : Itm × St, (if q'.2.i < T'.l.length then q'.2.bad T' 2 else q'.2).ds = [] → q'.2.ds = [] := fun q' hd => by
    split at hd
    · exact absurd hd (bad_ne _ _ _)
    · exact hd
  rw [itemQ] at h1 h2
  by_cases c1 : T'.is 0 [102, 110] = true
  · have l1 := C.is_lt c1
    rw [if_pos c1] at h2
    rw [C.is _ l1, if_pos c1] at h1
    have k := told _ h2
    have g : (fnItm T' a' (s.take t.pos).length ⟨1, []⟩).2.i ≤ n := by
      rw [fnItm] at k ⊢
      dsimp only at k ⊢
      exact block_top C (f := 8 * T'.l.length + 63) k
    exact top _ _ (lock_fn C a a' _ _ _ k) g h1
  · rw [if_neg c1] at h2
    by_cases c2 : T'.is 0 [99, 104, 97, 110] = true
    · have l1 := C.is_lt c2
      rw [if_pos c2] at h2
      rw [C.is _ l1, if_neg c1, C.is _ l1, if_pos c2] at h1
      have k := told _ h2
      have g : (chItm T' a' (s.take t.pos).length ⟨1, []⟩).2.i ≤ n := by
        rw [chItm] at k ⊢
        dsimp only at k ⊢
        exact need_top C k
      exact top _ _ (lock_ch C a a' _ _ _ k) g h1
    · rw [if_neg c2] at h2
      exact absurd (told _ h2) (bad_ne _ _ _)
end Go.Sp
end
