/- Own work: the tokens of two texts with a line's end between. -/
import Derived.Test.YthleggomainocaaSpecCuts
namespace Go.Sp
/-- a token, so much further on. -/
def shift (n : Nat) (t : Tok) : Tok := ⟨t.kind, t.text, t.pos + n⟩
def tk (s : List UInt8) (p : Nat) : List Tok := toks s.length s p
theorem tk_nil (p : Nat) : tk [] p = [] := rfl
theorem tk_step (s : List UInt8) (p : Nat) (hs : s ≠ []) : tk s p = (if (one s).1 > 0 then [⟨(one s).1, s.take (one s).2, p⟩] else []) ++ tk (s.drop (one s).2) (p + (one s).2) := by
  have hl := one_le s hs
  obtain ⟨f, hf⟩ : ∃ f, s.length = f + 1 := ⟨s.length - 1, by omega⟩
  have e : toks f (s.drop (one s).2) (p + (one s).2) = tk (s.drop (one s).2) (p + (one s).2) := toks_fuel _ _ _ _ (by simp; omega) (by simp)
  unfold tk at e ⊢
  rw [hf]
  simp only [toks, hs, if_false]
  rw [e]
  split <;> rfl
theorem tk_blanks (t : List UInt8) (q : Nat) : tk t q = tk (t.drop (t.takeWhile isBlank).length) (q + (t.takeWhile isBlank).length) := by
  cases t with
  | nil => rfl
  | cons c r =>
    by_cases hb : isBlank c = true
    · have h1 : one (c :: r) = (0, (List.takeWhile isBlank (c :: r)).length) := by
        simp only [one, hb, if_true, run, List.takeWhile_cons, List.length_cons, Nat.add_comm 1]
      rw [tk_step _ _ (by simp), h1]
      simp
    · rw [List.takeWhile_cons, if_neg hb]; simp
theorem tk_shift (n : Nat) : ∀ (f : Nat) (s : List UInt8) (p : Nat), toks f s (p + n) = (toks f s p).map (shift n)
  | 0, _, _ => rfl
  | f + 1, s, p => by
    simp only [toks]
    split
    · rfl
    · split
      · rw [List.map_cons, ← tk_shift n f, show p + n + (one s).2 = p + (one s).2 + n by omega]; rfl
      · rw [← tk_shift n f, show p + n + (one s).2 = p + (one s).2 + n by omega]
theorem tw_stop (F : UInt8 → Bool) (a : UInt8) (t : List UInt8) (ha : F a = false) (r : List UInt8) : (r ++ a :: t).takeWhile F = r.takeWhile F := by
  induction r with
  | nil => simp [ha]
  | cons c r ih => rw [List.cons_append, List.takeWhile_cons, List.takeWhile_cons, ih]
theorem tw_go (F : UInt8 → Bool) (m : List UInt8) (r : List UInt8) : (r ++ m).takeWhile F = (if r.all F then r ++ m.takeWhile F else r.takeWhile F) := by
  induction r with
  | nil => simp
  | cons c r ih =>
    rw [List.cons_append, List.takeWhile_cons, List.takeWhile_cons, ih, List.all_cons]
    cases F c <;> simp
    split <;> simp
theorem tk_join (t : List UInt8) : ∀ (n : Nat) (r : List UInt8) (p : Nat), r.length = n → tk (r ++ 10 :: t) p = tk r p ++ tk t (p + r.length + 1) := by
  have hB : isBlank 10 = true := by decide
  have hend : ∀ (r : List UInt8) (p : Nat), r.all isBlank = true → tk (r ++ 10 :: t) p = tk t (p + r.length + 1) := by
    intro r p hr
    rw [tk_blanks, tw_go, if_pos hr, List.takeWhile_cons, if_pos hB, tk_blanks t]
    congr 1
    · rw [List.length_append, List.drop_append, List.length_cons]; simp
    · rw [List.length_append, List.length_cons]; omega
  intro n
  induction n using Nat.strongRecOn with
  | _ n ih =>
    intro r p hn
    by_cases hr : r.all isBlank = true
    · rw [hend r p hr]
      have : tk r p = [] := by
        rw [tk_blanks]
        have h2 := tw_go isBlank [] r
        rw [List.append_nil, if_pos hr, List.takeWhile_nil, List.append_nil] at h2
        rw [h2, List.drop_length]
        rfl
      rw [this, List.nil_append]
    · have hne : r ≠ [] := fun e => hr (by rw [e]; rfl)
      have hl := one_le r hne
      have ho : one (r ++ 10 :: t) = one r := by
        cases r with
        | nil => exact absurd rfl hne
        | cons c r =>
          simp only [List.cons_append, one]
          have h1 := tw_stop noLine 10 t (by decide) r
          have h2 := tw_stop isWord 10 t (by decide) r
          have h3 := tw_stop isDigit 10 t (by decide) r
          by_cases hb : isBlank c = true
          · have h4 := tw_go isBlank (10 :: t) r
            rw [List.all_cons, hb, Bool.true_and] at hr
            rw [if_neg hr] at h4
            simp only [if_pos hb, run, h4]
          · simp only [if_neg hb, run, h1, h2, h3]
      have hd : (r ++ 10 :: t).drop (one r).2 = r.drop (one r).2 ++ 10 :: t := List.drop_append_of_le_length hl.2
      have htk : (r ++ 10 :: t).take (one r).2 = r.take (one r).2 := List.take_append_of_le_length hl.2
      rw [tk_step _ _ (by simp), ho, hd, htk, ih (r.drop (one r).2).length (by simp; omega) _ _ rfl, tk_step r p hne, List.append_assoc, List.length_drop,
        show p + (one r).2 + (r.length - (one r).2) + 1 = p + r.length + 1 by omega]
theorem tokens_join (s t : List UInt8) : tokens (s ++ [10] ++ t) = tokens s ++ (tokens t).map (shift (s.length + 1)) := by
  have h := tk_join t _ s 0 rfl
  have h2 := tk_shift (s.length + 1) t.length t 0
  rw [List.append_assoc, List.singleton_append]
  unfold tk at h
  unfold tokens
  rw [h, ← h2, Nat.zero_add, Nat.zero_add]
end Go.Sp
