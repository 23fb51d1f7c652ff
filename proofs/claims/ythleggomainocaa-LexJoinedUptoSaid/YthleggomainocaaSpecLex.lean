/- Own work: the reference's tokens are the tokens. -/
import Derived.Test.YthleggomainocaaSpec
namespace Go.Sp

theorem drop_cons (s : List UInt8) (k : Nat) (h : k < s.length) : s.drop k = s.getD k 0 :: s.drop (k + 1) := by
  rw [List.drop_eq_getElem_cons h, List.getD_eq_getElem?_getD, List.getElem?_eq_getElem h]; rfl
/-- how far 'F' goes from a place on. -/
def ext (F : UInt8 → Bool) (s : List UInt8) (k : Nat) : List UInt8 := (s.drop k).takeWhile F
theorem ext_yes {F : UInt8 → Bool} {s : List UInt8} {k : Nat} (h : k < s.length) (hf : F (s.getD k 0) = true) : ext F s k = s.getD k 0 :: ext F s (k + 1) := by
  rw [ext, drop_cons s k h, List.takeWhile_cons, if_pos hf]; rfl
theorem ext_no {F : UInt8 → Bool} {s : List UInt8} {k : Nat} (h : k < s.length) (hf : F (s.getD k 0) = false) : ext F s k = [] := by
  rw [ext, drop_cons s k h, List.takeWhile_cons, if_neg (by rw [hf]; simp)]
theorem ext_end {F : UInt8 → Bool} {s : List UInt8} {k : Nat} (h : s.length ≤ k) : ext F s k = [] := by
  rw [ext, List.drop_eq_nil_of_le h]; rfl
theorem take_ext (F : UInt8 → Bool) (s : List UInt8) (k : Nat) : (s.drop k).take (ext F s k).length = ext F s k := by
  exact (List.prefix_iff_eq_take.1 (List.takeWhile_prefix F)).symm
theorem one_cons (s : List UInt8) (k : Nat) (h : k < s.length) : one (s.drop k) =
    if isBlank (s.getD k 0) then (0, 1 + (ext isBlank s (k + 1)).length) else
    if (s.getD k 0).toNat = 35 then (0, 1 + (ext noLine s (k + 1)).length) else
    if isLetter (s.getD k 0) then (1, 1 + (ext isWord s (k + 1)).length) else
    if isDigit (s.getD k 0) then (2, 1 + (ext isDigit s (k + 1)).length) else
    if isSign (s.getD k 0) then (3, 1) else (4, 1) := by
  rw [drop_cons s k h]; rfl

theorem toksAt_blanks (s : List UInt8) (k : Nat) : toksAt s k = toksAt s (k + (ext isBlank s k).length) := by
  by_cases h : k < s.length
  · cases hb : isBlank (s.getD k 0) with
    | false => rw [ext_no h hb]; rfl
    | true =>
      rw [toksAt_step s k h, one_cons s k h, if_pos hb, ext_yes h hb]
      simp [Nat.add_comm]
  · rw [ext_end (by omega)]; rfl
theorem toksAt_blank (s : List UInt8) (k : Nat) (h : k < s.length) (hb : isBlank (s.getD k 0) = true) : toksAt s k = toksAt s (k + 1) := by
  rw [toksAt_step s k h, one_cons s k h, if_pos hb, toksAt_blanks s (k + 1)]
  simp [Nat.add_assoc]

/-- what is there, in what state, goes on so. -/
def cont (s : List UInt8) (st : Nat) (out : List Tok) (k : Nat) : List Tok :=
  if st = 9 then out ++ toksAt s (k + (ext noLine s k).length) else
  if st = 1 ∨ st = 2 then match out.getLast? with
    | none => []
    | some t => out.dropLast ++ [⟨t.kind, t.text ++ ext (if st = 1 then isWord else isDigit) s k, t.pos⟩] ++ toksAt s (k + (ext (if st = 1 then isWord else isDigit) s k).length)
  else out ++ toksAt s k

theorem cont9 (s : List UInt8) (out : List Tok) (k : Nat) : cont s 9 out k = out ++ toksAt s (k + (ext noLine s k).length) := by simp [cont]
theorem cont0 (s : List UInt8) (out : List Tok) (k : Nat) : cont s 0 out k = out ++ toksAt s k := by simp [cont]
theorem cont1 (s : List UInt8) (l : List Tok) (t : Tok) (k : Nat) : cont s 1 (l ++ [t]) k = l ++ [⟨t.kind, t.text ++ ext isWord s k, t.pos⟩] ++ toksAt s (k + (ext isWord s k).length) := by simp [cont]
theorem cont2 (s : List UInt8) (l : List Tok) (t : Tok) (k : Nat) : cont s 2 (l ++ [t]) k = l ++ [⟨t.kind, t.text ++ ext isDigit s k, t.pos⟩] ++ toksAt s (k + (ext isDigit s k).length) := by simp [cont]
theorem cont_fresh (s : List UInt8) (out : List Tok) (k : Nat) (h : k < s.length) :
    out ++ toksAt s k = (fun x : Nat × List Tok => cont s x.1 x.2 (k + 1)) (if rcls (s.getD k 0) = 0 ∨ rcls (s.getD k 0) = 9 then (rcls (s.getD k 0), out) else
      if rcls (s.getD k 0) = 1 ∨ rcls (s.getD k 0) = 2 then (rcls (s.getD k 0), out ++ [⟨rcls (s.getD k 0), [s.getD k 0], k⟩]) else (0, out ++ [⟨rcls (s.getD k 0), [s.getD k 0], k⟩])) := by
  have h1 := one_cons s k h
  have hst := toksAt_step s k h
  have ht : ∀ F, (s.drop k).take (1 + (ext F s (k + 1)).length) = s.getD k 0 :: ext F s (k + 1) := fun F => by
    rw [drop_cons s k h, Nat.add_comm, List.take_succ_cons, take_ext]
  have ht1 : (s.drop k).take 1 = [s.getD k 0] := take_one s k h
  unfold rcls
  cases hb : isBlank (s.getD k 0) with
  | true =>
    simp only [if_true, true_or]
    rw [cont0, toksAt_blank s k h hb]
  | false =>
    rw [hb] at h1
    simp only [Bool.false_eq_true, if_false] at h1 ⊢
    by_cases h35 : (s.getD k 0).toNat = 35
    · rw [if_pos h35] at h1 ⊢
      rw [h1] at hst
      simp only [or_true, if_true]
      rw [cont9, hst]
      simp [Nat.add_assoc]
    · rw [if_neg h35] at h1 ⊢
      cases hl : isLetter (s.getD k 0) with
      | true =>
        rw [if_pos hl] at h1
        rw [h1] at hst
        simp only [if_true]
        rw [if_neg (by decide), if_pos (by decide), cont1, hst]
        simp [ht, Nat.add_assoc]
      | false =>
        rw [if_neg (by rw [hl]; simp)] at h1
        simp only [Bool.false_eq_true, if_false]
        cases hd : isDigit (s.getD k 0) with
        | true =>
          rw [if_pos hd] at h1
          rw [h1] at hst
          simp only [if_true]
          rw [if_neg (by decide), if_pos (by decide), cont2, hst]
          simp [ht, Nat.add_assoc]
        | false =>
          rw [if_neg (by rw [hd]; simp)] at h1
          simp only [Bool.false_eq_true, if_false]
          cases hs : isSign (s.getD k 0) with
          | true =>
            rw [if_pos hs] at h1
            rw [h1] at hst
            simp only [if_true]
            rw [if_neg (by decide), if_neg (by decide), cont0, hst]
            simp [ht1]
          | false =>
            rw [if_neg (by rw [hs]; simp)] at h1
            rw [h1] at hst
            simp only [Bool.false_eq_true, if_false]
            rw [if_neg (by decide), if_neg (by decide), cont0, hst]
            simp [ht1]

theorem blank10 (c : UInt8) (h : c.toNat = 10) : isBlank c = true ∧ rcls c = 0 := by
  have : isBlank c = true := by simp [isBlank, h]
  exact ⟨this, by simp [rcls, this]⟩

theorem rtoks_cont (s : List UInt8) : ∀ k, k ≤ s.length → cont s (rtoks s k).1 (rtoks s k).2 k = tokens s ∧ ((rtoks s k).1 = 1 ∨ (rtoks s k).1 = 2 → (rtoks s k).2 ≠ [])
  | 0, _ => ⟨by rw [rtoks, cont, if_neg (by decide), if_neg (by decide), tokens_eq]; rfl, by simp [rtoks]⟩
  | k + 1, hk => by
    have h : k < s.length := by omega
    obtain ⟨ih, ihne⟩ := rtoks_cont s k (by omega)
    rw [rtoks]
    generalize rtoks s k = x at ih ihne
    obtain ⟨st, out⟩ := x
    dsimp only at ih ihne
    rw [← ih]
    have hfr := cont_fresh s out k h
    have hne : ∀ (st' : Nat) (o' : List Tok), (if rcls (s.getD k 0) = 0 ∨ rcls (s.getD k 0) = 9 then (rcls (s.getD k 0), out) else
      if rcls (s.getD k 0) = 1 ∨ rcls (s.getD k 0) = 2 then (rcls (s.getD k 0), out ++ [⟨rcls (s.getD k 0), [s.getD k 0], k⟩]) else (0, out ++ [⟨rcls (s.getD k 0), [s.getD k 0], k⟩])) = (st', o') → st' = 1 ∨ st' = 2 → o' ≠ [] := by
      intro st' o' he h12
      split at he
      · rename_i h0
        injection he with e1 e2
        omega
      · split at he <;> (injection he with e1 e2; rw [← e2]; simp)
    unfold rstep
    dsimp only
    by_cases h9 : st = 9 ∧ (s.getD k 0).toNat ≠ 10
    · rw [if_pos h9]
      obtain ⟨rfl, hc⟩ := h9
      refine ⟨?_, fun h => by simp at h⟩
      have hf : noLine (s.getD k 0) = true := by simpa [noLine] using hc
      simp only [cont, if_true]
      rw [ext_yes h hf]
      simp only [List.length_cons]
      rw [show k + 1 + (ext noLine s (k + 1)).length = k + ((ext noLine s (k + 1)).length + 1) by omega]
    · rw [if_neg h9]
      by_cases hc : (st = 1 ∧ isWord (s.getD k 0) = true) ∨ (st = 2 ∧ isDigit (s.getD k 0) = true)
      · rw [if_pos hc]
        have h12 : st = 1 ∨ st = 2 := by omega
        have hn9 : st ≠ 9 := by omega
        have hne := ihne h12
        obtain ⟨l0, t, rfl⟩ : ∃ l0 t, out = l0 ++ [t] := ⟨out.dropLast, out.getLast hne, (List.dropLast_concat_getLast hne).symm⟩
        have hf : (if st = 1 then isWord else isDigit) (s.getD k 0) = true := by
          rcases hc with ⟨h1, h2⟩ | ⟨h1, h2⟩
          · rw [if_pos h1]; exact h2
          · rw [if_neg (by omega)]; exact h2
        have e : addLast (l0 ++ [t]) (s.getD k 0) = l0 ++ [⟨t.kind, t.text ++ [s.getD k 0], t.pos⟩] := by simp [addLast]
        dsimp only
        refine ⟨?_, fun _ => by rw [e]; simp⟩
        rw [e]
        simp only [cont, if_neg hn9, if_pos h12]
        rw [ext_yes h hf]
        simp
        rw [show k + 1 + (ext (if st = 1 then isWord else isDigit) s (k + 1)).length = k + ((ext (if st = 1 then isWord else isDigit) s (k + 1)).length + 1) by omega]
      · rw [if_neg hc]
        refine ⟨?_, fun h12 => hne _ _ rfl h12⟩
        refine Eq.trans hfr.symm ?_
        by_cases hs9 : st = 9
        · subst hs9
          have h10 : (s.getD k 0).toNat = 10 := by omega
          simp only [cont, if_true]
          rw [ext_no h (by simpa [noLine] using h10)]
          rfl
        · by_cases h12 : st = 1 ∨ st = 2
          · have hne := ihne h12
            obtain ⟨l0, t, rfl⟩ : ∃ l0 t, out = l0 ++ [t] := ⟨out.dropLast, out.getLast hne, (List.dropLast_concat_getLast hne).symm⟩
            have hf : (if st = 1 then isWord else isDigit) (s.getD k 0) = false := by
              rcases h12 with h1 | h1
              · rw [if_pos h1, Bool.eq_false_iff]; exact fun h2 => hc (.inl ⟨h1, h2⟩)
              · rw [if_neg (by omega), Bool.eq_false_iff]; exact fun h2 => hc (.inr ⟨h1, h2⟩)
            simp only [cont, if_neg hs9, if_pos h12]
            rw [ext_no h hf]
            simp
          · simp only [cont, if_neg hs9, if_neg h12]

theorem rtokens_eq (s : List UInt8) : rtokens s = tokens s := by
  obtain ⟨h1, h2⟩ := rtoks_cont s s.length (Nat.le_refl _)
  rw [← h1, rtokens]
  generalize rtoks s s.length = x at h2
  obtain ⟨st, out⟩ := x
  dsimp only at h2 ⊢
  unfold cont
  split
  · rw [ext_end (Nat.le_refl _), toksAt_end _ _ (by simp)]; simp
  · split
    · rename_i h12
      have hne := h2 h12
      obtain ⟨l0, t, rfl⟩ : ∃ l0 t, out = l0 ++ [t] := ⟨out.dropLast, out.getLast hne, (List.dropLast_concat_getLast hne).symm⟩
      rw [ext_end (Nat.le_refl _), toksAt_end _ _ (by simp)]
      simp
    · rw [toksAt_end _ _ (by simp)]; simp
end Go.Sp
