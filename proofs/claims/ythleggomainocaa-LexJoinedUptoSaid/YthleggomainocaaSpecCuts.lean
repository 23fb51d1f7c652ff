/- Own work: where tokens stand; where items begin. -/
import Derived.Test.YthleggomainocaaSpecLex
namespace Go.Sp

theorem one_kind (s : List UInt8) : (one s).1 ≤ 4 := by
  cases s with
  | nil => simp [one]
  | cons c r =>
    simp only [one]
    repeat' split
    all_goals simp
structure TokOk (s : List UInt8) (t : Tok) : Prop where
  pos : t.pos < s.length
  len : 1 ≤ t.text.length
  fit : t.pos + t.text.length ≤ s.length
  text : t.text = (s.drop t.pos).take t.text.length
  one : t.kind = (one (s.drop t.pos)).1 ∧ t.text.length = (one (s.drop t.pos)).2
  kind : 1 ≤ t.kind ∧ t.kind ≤ 4
theorem toksAt_mem (s : List UInt8) : ∀ (n k : Nat), s.length - k = n → ∀ t ∈ toksAt s k, k ≤ t.pos ∧ TokOk s t := by
  intro n
  induction n using Nat.strongRecOn with
  | _ n ih =>
    intro k hn t ht
    by_cases h : k < s.length
    · rw [toksAt_step s k h] at ht
      have hne : s.drop k ≠ [] := by simp; omega
      have hl := one_le _ hne
      simp only [List.length_drop] at hl
      rcases List.mem_append.1 ht with h1 | h1
      · split at h1
        · rename_i hk
          simp at h1
          subst h1
          have hlen : ((s.drop k).take (one (s.drop k)).2).length = (one (s.drop k)).2 := by simp; omega
          exact ⟨Nat.le_refl _, ⟨h, by rw [hlen]; omega, by rw [hlen]; dsimp only; omega, by rw [hlen], ⟨rfl, hlen⟩, ⟨hk, one_kind _⟩⟩⟩
        · simp at h1
      · obtain ⟨h2, h3⟩ := ih (s.length - (k + (one (s.drop k)).2)) (by omega) _ rfl t h1
        exact ⟨by omega, h3⟩
    · rw [toksAt_end s k (by omega)] at ht
      simp at ht
theorem tokens_ok (s : List UInt8) (t : Tok) (ht : t ∈ tokens s) : TokOk s t := by
  rw [tokens_eq] at ht
  exact (toksAt_mem s _ 0 rfl t ht).2
/-- one behind the other. -/
theorem toksAt_sorted (s : List UInt8) : ∀ (n k : Nat), s.length - k = n → (toksAt s k).Pairwise (fun a b => a.pos + a.text.length ≤ b.pos) := by
  intro n
  induction n using Nat.strongRecOn with
  | _ n ih =>
    intro k hn
    by_cases h : k < s.length
    · have hne : s.drop k ≠ [] := by simp; omega
      have hl := one_le _ hne
      simp only [List.length_drop] at hl
      have h1 := ih (s.length - (k + (one (s.drop k)).2)) (by omega) _ rfl
      rw [toksAt_step s k h]
      split
      · rw [List.singleton_append, List.pairwise_cons]
        refine ⟨fun t ht => ?_, h1⟩
        have := (toksAt_mem s _ _ rfl t ht).1
        simp; omega
      · exact h1
    · rw [toksAt_end s k (by omega)]; exact List.Pairwise.nil
theorem tokens_sorted (s : List UInt8) : (tokens s).Pairwise (fun a b => a.pos + a.text.length ≤ b.pos) := by rw [tokens_eq]; exact toksAt_sorted s _ 0 rfl

def wFn : List UInt8 := [102, 110]
def wChan : List UInt8 := [99, 104, 97, 110]
def begins (s : List UInt8) (t : Tok) : Bool := decide (t.kind = 1) && (decide (t.text = wFn) || decide (t.text = wChan)) && (decide (t.pos = 0) || decide ((s.getD (t.pos - 1) 0).toNat = 10))
def cutStep (s : List UInt8) (acc : List Nat) (t : Tok) : List Nat := if begins s t = true ∨ acc = [] then acc ++ [t.pos] else acc
def cuts (s : List UInt8) : List Nat := (tokens s).foldl (cutStep s) []
theorem cutStep_ne (s : List UInt8) (acc : List Nat) (t : Tok) : cutStep s acc t ≠ [] := by
  unfold cutStep
  split
  · simp
  · rename_i h; exact fun e => h (.inr e)
theorem cutStep_len (s : List UInt8) (acc : List Nat) (t : Tok) : acc.length ≤ (cutStep s acc t).length ∧ (cutStep s acc t).length ≤ acc.length + 1 := by
  unfold cutStep
  split <;> simp
theorem fold_take {α β : Type} (f : β → α → β) (b : β) (l : List α) (k : Nat) (a : α) (h : l[k]? = some a) : (l.take (k + 1)).foldl f b = f ((l.take k).foldl f b) a := by
  rw [List.take_add_one, h]
  simp
/-- a word that begins an item is a word. -/
theorem word_kind {s : List UInt8} {t : Tok} (h : TokOk s t) (ht : t.text = wFn ∨ t.text = wChan) : t.kind = 1 := by
  have h1 := h.one.1
  have hc : s.getD t.pos 0 = 102 ∨ s.getD t.pos 0 = 99 := by
    have h2 := h.text
    have h3 := drop_cons s t.pos h.pos
    have hl := h.len
    obtain ⟨m, hm⟩ : ∃ m, t.text.length = m + 1 := ⟨t.text.length - 1, by omega⟩
    rw [h3, hm, List.take_succ_cons] at h2
    rcases ht with e | e <;> rw [e] at h2
    · left; injection h2 with e1 _; exact e1.symm
    · right; injection h2 with e1 _; exact e1.symm
  rw [h1, one_cons s t.pos h.pos]
  rcases hc with e | e <;> rw [e] <;> rfl
/-- the reference's way: the first one, and words behind a line's end. -/
def rcutStep (s : List UInt8) (x : Nat × List Nat) (t : Tok) : Nat × List Nat :=
  (x.1 + 1, if x.1 = 0 ∨ ((t.text = wFn ∨ t.text = wChan) ∧ (s.getD (t.pos - 1) 0).toNat = 10) then x.2 ++ [t.pos] else x.2)
theorem rcuts_take (s : List UInt8) : ∀ k, k ≤ (tokens s).length → ((tokens s).take k).foldl (rcutStep s) (0, []) = (k, ((tokens s).take k).foldl (cutStep s) [])
  | 0, _ => by simp
  | k + 1, hk => by
    have hg : (tokens s)[k]? = some (tokens s)[k] := List.getElem?_eq_getElem (by omega)
    rw [fold_take _ _ _ _ _ hg, fold_take _ _ _ _ _ hg, rcuts_take s k (by omega)]
    have hok := tokens_ok s _ (List.getElem_mem (show k < (tokens s).length by omega))
    generalize hacc : ((tokens s).take k).foldl (cutStep s) [] = acc
    unfold rcutStep cutStep
    dsimp only
    congr 1
    by_cases h0 : k = 0
    · subst h0
      simp at hacc
      subst hacc
      simp
    · have hne : acc ≠ [] := by
        obtain ⟨j, rfl⟩ : ∃ j, k = j + 1 := ⟨k - 1, by omega⟩
        rw [fold_take _ _ _ _ _ (List.getElem?_eq_getElem (show j < (tokens s).length by omega))] at hacc
        rw [← hacc]; exact cutStep_ne _ _ _
      have hp : (tokens s)[k].pos ≠ 0 := by
        have h1 := List.pairwise_iff_getElem.1 (tokens_sorted s) 0 k (by omega) (by omega) (by omega)
        have h2 := (tokens_ok s _ (List.getElem_mem (show 0 < (tokens s).length by omega))).len
        omega
      have hk1 := fun h => word_kind hok h
      generalize (tokens s)[k] = t at hok hp hk1
      have : (k = 0 ∨ ((t.text = wFn ∨ t.text = wChan) ∧ (s.getD (t.pos - 1) 0).toNat = 10)) ↔ (begins s t = true ∨ acc = []) := by
        simp only [begins, Bool.and_eq_true, Bool.or_eq_true, decide_eq_true_eq]
        constructor
        · rintro (h | ⟨h1, h2⟩)
          · exact absurd h h0
          · exact .inl ⟨⟨hk1 h1, h1⟩, .inr h2⟩
        · rintro (⟨⟨_, h1⟩, h2⟩ | h)
          · exact .inr ⟨h1, h2.resolve_left hp⟩
          · exact absurd h hne
      simp only [this]
def rcuts (s : List UInt8) : List Nat := ((tokens s).foldl (rcutStep s) (0, [])).2
theorem rcuts_eq (s : List UInt8) : rcuts s = cuts s := by
  have := rcuts_take s (tokens s).length (Nat.le_refl _)
  rw [List.take_length] at this
  rw [rcuts, this, cuts]
end Go.Sp
