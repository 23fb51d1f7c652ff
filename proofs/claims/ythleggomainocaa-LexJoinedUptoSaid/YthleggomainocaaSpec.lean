/- Own work: what the code computes, as plain functions on lists of bytes. -/
namespace Go.Sp
def isLetter (c : UInt8) : Bool := (decide (97 ≤ c.toNat) && decide (c.toNat ≤ 122)) || (decide (65 ≤ c.toNat) && decide (c.toNat ≤ 90)) || decide (c.toNat = 95)
def isDigit (c : UInt8) : Bool := decide (48 ≤ c.toNat) && decide (c.toNat ≤ 57)
def isBlank (c : UInt8) : Bool := decide (c.toNat = 32) || decide (c.toNat = 10) || decide (c.toNat = 9)
def signs : List UInt8 := [40, 41, 123, 125, 44, 58, 59, 61, 43, 45, 42, 60]
def isSign (c : UInt8) : Bool := signs.any (fun x => decide (x = c))
def isWord (c : UInt8) : Bool := isLetter c || isDigit c
def noLine (c : UInt8) : Bool := decide (c.toNat ≠ 10)

/-- one, and those behind it for which 'F' holds. -/
def run (F : UInt8 → Bool) (r : List UInt8) : Nat := 1 + (r.takeWhile F).length

def one : List UInt8 → Nat × Nat
  | [] => (4, 1)
  | c :: r =>
    if isBlank c then (0, run isBlank r) else
    if c.toNat = 35 then (0, run noLine r) else
    if isLetter c then (1, run isWord r) else
    if isDigit c then (2, run isDigit r) else
    if isSign c then (3, 1) else (4, 1)

structure Tok where
  kind : Nat
  text : List UInt8
  pos : Nat
  deriving DecidableEq

def toks : Nat → List UInt8 → Nat → List Tok
  | 0, _, _ => []
  | f + 1, s, at_ =>
    if s = [] then [] else
    if (one s).1 > 0 then ⟨(one s).1, s.take (one s).2, at_⟩ :: toks f (s.drop (one s).2) (at_ + (one s).2)
    else toks f (s.drop (one s).2) (at_ + (one s).2)
def tokens (s : List UInt8) : List Tok := toks s.length s 0

theorem takeWhile_len (F : UInt8 → Bool) : ∀ (r : List UInt8) (m : Nat), (∀ j, j < m → F (r.getD j 0) = true) → m ≤ r.length → (m = r.length ∨ F (r.getD m 0) = false) → (r.takeWhile F).length = m
  | [], m, _, h2, _ => by simp at h2; simp [h2]
  | c :: r, 0, _, _, h3 => by
    have : F c = false := by simpa using h3
    simp [this]
  | c :: r, m + 1, h1, h2, h3 => by
    have h0 : F c = true := by simpa using h1 0 (by omega)
    have := takeWhile_len F r m (fun j hj => by simpa using h1 (j + 1) (by omega)) (by simpa using h2) (by simpa using h3)
    simp [h0, this]
theorem run_eq (F : UInt8 → Bool) (s : List UInt8) (k : Nat) (h0 : 1 ≤ k) (h1 : ∀ j, 1 ≤ j → j < k → F (s.getD j 0) = true) (h2 : k ≤ s.length) (h3 : k = s.length ∨ F (s.getD k 0) = false) : run F s.tail = k := by
  cases s with
  | nil => simp at h2; omega
  | cons c r =>
    obtain ⟨m, rfl⟩ : ∃ m, k = m + 1 := ⟨k - 1, by omega⟩
    have := takeWhile_len F r m (fun j hj => by simpa using h1 (j + 1) (by omega) (by omega)) (by simpa using h2) (by simpa using h3)
    simp [run, this]; omega
theorem run_le (F : UInt8 → Bool) (s : List UInt8) (h : s ≠ []) : 1 ≤ run F s.tail ∧ run F s.tail ≤ s.length := by
  cases s with
  | nil => exact absurd rfl h
  | cons c r =>
    have := (List.takeWhile_prefix F (l := r)).length_le
    simp [run]; omega
theorem one_le (s : List UInt8) (h : s ≠ []) : 1 ≤ (one s).2 ∧ (one s).2 ≤ s.length := by
  cases s with
  | nil => exact absurd rfl h
  | cons c r =>
    simp only [one]
    have h1 := fun F => run_le F (c :: r) (by simp)
    simp only [List.tail_cons] at h1
    repeat' split
    all_goals first | exact h1 _ | simp
theorem toks_fuel : ∀ (f g : Nat) (s : List UInt8) (p : Nat), s.length ≤ f → s.length ≤ g → toks f s p = toks g s p
  | 0, 0, _, _, _, _ => rfl
  | 0, g + 1, s, p, h, _ => by
    have : s = [] := List.eq_nil_of_length_eq_zero (by omega)
    simp [toks, this]
  | f + 1, 0, s, p, _, h => by
    have : s = [] := List.eq_nil_of_length_eq_zero (by omega)
    simp [toks, this]
  | f + 1, g + 1, s, p, h1, h2 => by
    by_cases hs : s = []
    · simp [toks, hs]
    · have := one_le s hs
      simp only [toks, hs, if_false]
      rw [toks_fuel f g (s.drop (one s).2) _ (by simp; omega) (by simp; omega)]
/-- the tokens of what stands behind a place. -/
def toksAt (s : List UInt8) (k : Nat) : List Tok := toks (s.length - k) (s.drop k) k
theorem toksAt_end (s : List UInt8) (k : Nat) (h : s.length ≤ k) : toksAt s k = [] := by
  have : s.length - k = 0 := by omega
  simp [toksAt, this, toks]
theorem toksAt_step (s : List UInt8) (k : Nat) (h : k < s.length) :
    toksAt s k = (if (one (s.drop k)).1 > 0 then [⟨(one (s.drop k)).1, (s.drop k).take (one (s.drop k)).2, k⟩] else []) ++ toksAt s (k + (one (s.drop k)).2) := by
  have hne : s.drop k ≠ [] := by simp; omega
  have hl := one_le _ hne
  simp only [List.length_drop] at hl
  obtain ⟨f, hf⟩ : ∃ f, s.length - k = f + 1 := ⟨s.length - k - 1, by omega⟩
  have e : toks f (s.drop (k + (one (s.drop k)).2)) (k + (one (s.drop k)).2) = toksAt s (k + (one (s.drop k)).2) :=
    toks_fuel _ _ _ _ (by simp; omega) (by simp)
  unfold toksAt
  rw [hf]
  simp only [toks, hne, if_false, List.drop_drop]
  rw [e]
  split <;> rfl
theorem tokens_eq (s : List UInt8) : tokens s = toksAt s 0 := by simp [tokens, toksAt]

theorem take_one (s : List UInt8) (k : Nat) (h : k < s.length) : (s.drop k).take 1 = [s.getD k 0] := by
  rw [List.drop_eq_getElem_cons h, List.take_succ_cons, List.take_zero, List.getD_eq_getElem?_getD, List.getElem?_eq_getElem h]
  rfl
/-! the reference's way: state by state -/
def rcls (c : UInt8) : Nat := if isBlank c then 0 else if c.toNat = 35 then 9 else if isLetter c then 1 else if isDigit c then 2 else if isSign c then 3 else 4
def addLast (l : List Tok) (c : UInt8) : List Tok := match l.getLast? with
  | none => []
  | some t => l.dropLast ++ [⟨t.kind, t.text ++ [c], t.pos⟩]
def rstep (c : UInt8) (i : Nat) (x : Nat × List Tok) : Nat × List Tok :=
  if x.1 = 9 ∧ c.toNat ≠ 10 then x else
  if (x.1 = 1 ∧ isWord c = true) ∨ (x.1 = 2 ∧ isDigit c = true) then (x.1, addLast x.2 c) else
  if rcls c = 0 ∨ rcls c = 9 then (rcls c, x.2) else
  if rcls c = 1 ∨ rcls c = 2 then (rcls c, x.2 ++ [⟨rcls c, [c], i⟩]) else (0, x.2 ++ [⟨rcls c, [c], i⟩])
def rtoks (s : List UInt8) : Nat → Nat × List Tok
  | 0 => (0, [])
  | k + 1 => rstep (s.getD k 0) k (rtoks s k)
def rtokens (s : List UInt8) : List Tok := (rtoks s s.length).2

def ownWords : List (List UInt8) := [[102, 110], [99, 104, 97, 110], [108, 101, 116], [105, 102], [101, 108, 115, 101], [119, 104, 105, 108, 101], [115, 101, 110, 100], [114, 101, 116, 117, 114, 110], [115, 101, 110, 100, 115]]
def word (s : List UInt8) : Bool := decide (1 ≤ s.length) && decide (s.length ≤ 12) && isLetter (s.getD 0 0) && s.all isWord
def name (s : List UInt8) : Bool := !(ownWords.any (fun w => decide (s = w))) && word s
theorem all_iff (F : UInt8 → Bool) (s : List UInt8) : s.all F = true ↔ ∀ j, j < s.length → F (s.getD j 0) = true := by
  rw [List.all_eq_true]
  constructor
  · intro h j hj
    rw [List.getD_eq_getElem?_getD, List.getElem?_eq_getElem hj]
    exact h _ (List.getElem_mem hj)
  · intro h x hx
    obtain ⟨j, hj, rfl⟩ := List.mem_iff_getElem.1 hx
    have := h j hj
    rwa [List.getD_eq_getElem?_getD, List.getElem?_eq_getElem hj] at this
end Go.Sp
