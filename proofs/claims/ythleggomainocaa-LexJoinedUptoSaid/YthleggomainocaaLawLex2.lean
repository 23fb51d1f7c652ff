/- Own work: the statements about chapter 2: 'alive' and 'gap', and LexWhole. -/
import Derived.Test.YthleggomainocaaLawLex
namespace Go.Sp
def gapF : Bool → List UInt8 → Bool
  | _, [] => true
  | note, c :: r => if c.toNat = 10 then gapF false r else if c.toNat = 35 then gapF true r else if !note && !isBlank c then false else gapF note r

theorem gapF_blanks (note : Bool) : ∀ (l : List UInt8), (∀ c ∈ l, isBlank c = true) → gapF note l = true
  | [], _ => rfl
  | c :: r, h => by
    have hc := h c (by simp)
    have hr := fun n => gapF_blanks n r (fun x hx => h x (by simp [hx]))
    rw [gapF]
    split
    · exact hr _
    · split
      · exact hr _
      · rw [hc]; simp [hr]
theorem gapF_note : ∀ (l : List UInt8), (∀ c ∈ l, noLine c = true) → gapF true l = true
  | [], _ => rfl
  | c :: r, h => by
    have hr := gapF_note r (fun x hx => h x (by simp [hx]))
    have hc := h c (by simp)
    simp only [noLine, decide_eq_true_eq] at hc
    rw [gapF, if_neg hc]
    split
    · exact hr
    · simp [hr]
/-- blanks, then what is a gap; a note, up to its line's end, then what is a gap. -/
theorem gapF_blanks_app : ∀ (l m : List UInt8), (∀ c ∈ l, isBlank c = true) → gapF false m = true → gapF false (l ++ m) = true
  | [], m, _, hm => hm
  | c :: r, m, h, hm => by
    have hc := h c (by simp)
    have hr := gapF_blanks_app r m (fun x hx => h x (by simp [hx])) hm
    have h35 : ¬ c.toNat = 35 := by simp only [isBlank, Bool.or_eq_true, decide_eq_true_eq] at hc; omega
    rw [List.cons_append, gapF]
    rw [hc]; simp [hr, h35]
theorem gapF_note_app : ∀ (l m : List UInt8), (∀ c ∈ l, noLine c = true) → (m = [] ∨ ∃ c r, m = c :: r ∧ c.toNat = 10) → gapF false m = true → gapF true (l ++ m) = true
  | [], m, _, hd, hm => by
    rcases hd with rfl | ⟨c, r, rfl, hc⟩
    · rfl
    · rw [gapF, if_pos hc] at hm
      rw [List.nil_append, gapF, if_pos hc]; exact hm
  | c :: r, m, h, hd, hm => by
    have hr := gapF_note_app r m (fun x hx => h x (by simp [hx])) hd hm
    have hc := h c (by simp)
    simp only [noLine, decide_eq_true_eq] at hc
    rw [List.cons_append, gapF, if_neg hc]
    split
    · exact hr
    · simp [hr]
theorem takeWhile_all (F : UInt8 → Bool) (l : List UInt8) : ∀ c ∈ l.takeWhile F, F c = true := by
  intro c hc
  induction l with
  | nil => simp at hc
  | cons a l ih =>
    rw [List.takeWhile_cons] at hc
    split at hc
    · rcases List.mem_cons.1 hc with rfl | h
      · assumption
      · exact ih h
    · simp at hc
theorem take_tw (F : UInt8 → Bool) (l : List UInt8) : l.take (l.takeWhile F).length = l.takeWhile F := by
  induction l with
  | nil => rfl
  | cons a l ih => rw [List.takeWhile_cons]; split <;> simp [ih]
theorem drop_tw (F : UInt8 → Bool) (l : List UInt8) : l.drop (l.takeWhile F).length = l.dropWhile F := by
  induction l with
  | nil => rfl
  | cons a l ih => rw [List.takeWhile_cons, List.dropWhile_cons]; split <;> simp [ih]
/-- what no token is, is a gap; and what is a gap behind it makes one with it. -/
theorem one_gap (s m : List UInt8) (k : Nat) (hs : s ≠ []) (h0 : (one s).1 = 0) (hm : m = (s.drop (one s).2).take k) (hg : gapF false m = true) : gapF false (s.take (one s).2 ++ m) = true := by
  cases s with
  | nil => exact absurd rfl hs
  | cons c r =>
    simp only [one] at h0 hm ⊢
    split at h0
    · rename_i hb
      rw [if_pos hb] at hm ⊢
      refine gapF_blanks_app _ _ (fun x hx => ?_) hg
      simp only [run, Nat.add_comm 1, List.take_succ_cons] at hx
      rw [take_tw] at hx
      rcases List.mem_cons.1 hx with rfl | h
      · exact hb
      · exact takeWhile_all _ _ _ h
    · rename_i hb
      split at h0
      · rename_i h35
        rw [if_neg hb, if_pos h35] at hm ⊢
        simp only [run, Nat.add_comm 1, List.take_succ_cons, List.drop_succ_cons] at hm ⊢
        rw [take_tw, List.cons_append, gapF, if_neg (by omega), if_pos h35]
        refine gapF_note_app _ _ (takeWhile_all _ _) ?_ hg
        rw [drop_tw] at hm
        cases hd : r.dropWhile noLine with
        | nil => rw [hd] at hm; exact .inl (by simpa using hm)
        | cons a t =>
          have ha : ¬ noLine a = true := by
            have := List.head?_dropWhile_not noLine r
            rw [hd] at this
            simpa using this
          rw [hd] at hm
          cases k with
          | zero => exact .inl (by simpa using hm)
          | succ k => exact .inr ⟨a, t.take k, by simpa using hm, by simpa [noLine] using ha⟩
      · split at h0
        · simp at h0
        · split at h0
          · simp at h0
          · split at h0 <;> simp at h0
/-- between two places, from token to token. -/
inductive Whole (s : List UInt8) : Nat → List Tok → Prop
  | nil {a : Nat} : a ≤ s.length → gapF false (s.drop a) = true → Whole s a []
  | cons {a : Nat} {t : Tok} {l : List Tok} : TokOk s t → a ≤ t.pos → gapF false ((s.drop a).take (t.pos - a)) = true → Whole s (t.pos + t.text.length) l → Whole s a (t :: l)
theorem whole_back (s : List UInt8) (k n : Nat) (l : List Tok) (hne : s.drop k ≠ []) (hn : n = (one (s.drop k)).2) (h0 : (one (s.drop k)).1 = 0) (hkn : k + n ≤ s.length) (h : Whole s (k + n) l) : Whole s k l := by
  subst hn
  cases h with
  | nil h1 h2 =>
    refine .nil (by omega) ?_
    have := one_gap (s.drop k) (s.drop (k + (one (s.drop k)).2)) s.length hne h0 (by rw [List.drop_drop, List.take_of_length_le (by simp)]) h2
    rwa [← List.drop_drop, List.take_append_drop] at this
  | cons h1 h2 h3 h4 =>
    rename_i t l
    refine .cons h1 (by omega) ?_ h4
    have := one_gap (s.drop k) _ (t.pos - (k + (one (s.drop k)).2)) hne h0 (by rw [List.drop_drop]) h3
    rwa [← List.drop_drop, ← List.take_add, show (one (s.drop k)).2 + (t.pos - (k + (one (s.drop k)).2)) = t.pos - k by omega] at this
theorem toksAt_whole (s : List UInt8) : ∀ (n k : Nat), s.length - k = n → k ≤ s.length → Whole s k (toksAt s k) := by
  intro n
  induction n using Nat.strongRecOn with
  | _ n ih =>
    intro k hn hk
    by_cases h : k < s.length
    · have hne : s.drop k ≠ [] := by simp; omega
      have hl := one_le _ hne
      simp only [List.length_drop] at hl
      have h1 := ih (s.length - (k + (one (s.drop k)).2)) (by omega) _ rfl (by omega)
      have hmem := (toksAt_mem s _ k rfl)
      rw [toksAt_step s k h] at hmem ⊢
      split
      · rename_i hp
        rw [if_pos hp] at hmem
        have h2 := (hmem _ (List.mem_append_left _ (List.mem_singleton.2 rfl))).2
        have hlen : ((s.drop k).take (one (s.drop k)).2).length = (one (s.drop k)).2 := by simp; omega
        refine .cons h2 (Nat.le_refl _) (by simp [gapF]) ?_
        dsimp only
        rw [hlen]
        exact h1
      · rw [List.nil_append]
        exact whole_back s k _ _ hne rfl (by omega) (by omega) h1
    · rw [toksAt_end s k (by omega)]
      refine .nil hk ?_
      rw [List.drop_eq_nil_of_le (by omega)]; rfl
theorem tokens_whole (s : List UInt8) : Whole s 0 (tokens s) := by rw [tokens_eq]; exact toksAt_whole s _ 0 rfl (by omega)
end Go.Sp
