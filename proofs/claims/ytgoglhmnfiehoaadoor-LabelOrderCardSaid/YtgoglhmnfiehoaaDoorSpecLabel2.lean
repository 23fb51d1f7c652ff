/- Own work: texts of labels, plain. -/
import Derived.Test.YtgoglhmnfiehoaaDoorLabel4
import Derived.Lib.Split
import Derived.Lib.Join
namespace Go.Sp
open Go
def letter (k : Nat) : UInt8 := UInt8.ofNat (97 + k)
def tagsOf (n : Nat) : List Nat := (List.range 8).filter (bit n)
/-- bytes with commas between. -/
def commas : List UInt8 → List UInt8
  | [] => []
  | [c] => [c]
  | c :: d :: l => c :: 44 :: commas (d :: l)
def printL (n : Nat) : List UInt8 := 123 :: (commas ((tagsOf n).map letter) ++ [125])
def uncommas : List UInt8 → Option (List UInt8)
  | [] => none
  | [c] => some [c]
  | c :: d :: l => if d = 44 then (uncommas l).map (c :: ·) else none
def okTag (c : UInt8) : Bool := decide (97 ≤ c.toNat ∧ c.toNat ≤ 104)
def addTags : List UInt8 → Nat → Option Nat
  | [], n => some n
  | c :: l, n => if bit n (c.toNat - 97) then none else addTags l (n + 2 ^ (c.toNat - 97))
/-- a label's text, read: the label, what is wrong. -/
def parseL (s : List UInt8) : Nat × Nat :=
  if s.length < 2 ∨ s.getD 0 0 ≠ 123 ∨ s.getD (s.length - 1) 0 ≠ 125 then (0, 2) else
  let m := (s.drop 1).take (s.length - 1 - 1)
  if m = [] then (0, 0) else
  match uncommas m with
  | none => (0, 2)
  | some l => if l.all okTag then (match addTags l 0 with | none => (0, 7) | some n => (n, 0)) else (0, 2)

/-! the cut at commas -/
def splitC : List UInt8 → List (List UInt8)
  | [] => [[]]
  | c :: s => if c = 44 then [] :: splitC s else match splitC s with
    | [] => [[c]]
    | x :: xs => (c :: x) :: xs
theorem splitC_ne (s : List UInt8) : splitC s ≠ [] := by
  cases s with
  | nil => simp [splitC]
  | cons c s => unfold splitC; split
                · simp
                · split <;> simp
theorem split_comma (s : List UInt8) : Lib.split s [44] = splitC s := by
  induction s with
  | nil => rfl
  | cons c s ih =>
    by_cases hc : c = 44
    · subst hc
      have h0 : Lib.index (44 :: s) [44] = (0 : Nat) := Lib.index_first (i := 0) (by omega) (by simp [Lib.occAt]) (fun j h => by omega)
      rw [Lib.split, Lib.count_hit (by simp) h0, Nat.add_comm, Lib.splitK, if_neg (by rw [h0]; decide), h0, splitC, if_pos rfl]
      simp only [List.length_cons, List.length_nil, Int.toNat_natCast, Nat.zero_add, List.drop_succ_cons, List.drop_zero, Nat.add_zero, List.take_zero]
      rw [← ih]; rfl
    · rw [splitC, if_neg hc]
      have hno : Lib.occAt (c :: s) [44] 0 = false := by
        simp [Lib.occAt, List.isPrefixOf]; exact fun e => hc e.symm
      have hocc : Lib.NoOcc (c :: s) [44] 1 := fun j hj => by
        obtain rfl : j = 0 := by omega
        exact hno
      have hidx := Lib.index_drop hocc (by simp)
      simp only [List.drop_succ_cons, List.drop_zero] at hidx
      rcases Lib.index_spec s [44] with ⟨h1, _⟩ | ⟨i, h1, h2, _, _⟩
      · rw [h1] at hidx
        have hidx' : Lib.index (c :: s) [44] = -1 := hidx
        have e1 : Lib.split (c :: s) [44] = [c :: s] := by
          rw [Lib.split, Lib.count_miss hidx']; rfl
        have e2 : Lib.split s [44] = [s] := by
          rw [Lib.split, Lib.count_miss h1]; rfl
        rw [e1, ← ih, e2]
      · rw [h1] at hidx
        have hidx' : Lib.index (c :: s) [44] = ((i + 1 : Nat) : Int) := by
          rw [hidx, if_neg (by simp)]; omega
        have e1 : Lib.split (c :: s) [44] = (c :: s.take i) :: Lib.split (s.drop (i + 1)) [44] := by
          rw [Lib.split, Lib.count_hit (by simp) hidx', Nat.add_comm, Lib.splitK, if_neg (by rw [hidx']; simp; omega), hidx']
          simp only [List.length_cons, List.length_nil, Int.toNat_natCast, Nat.zero_add, List.drop_succ_cons, Nat.add_zero, List.take_succ_cons]
          rfl
        have e2 : Lib.split s [44] = (s.take i) :: Lib.split (s.drop (i + 1)) [44] := by
          rw [Lib.split, Lib.count_hit (by simp) h1, Nat.add_comm, Lib.splitK, if_neg (by rw [h1]; simp), h1]
          simp only [List.length_cons, List.length_nil, Int.toNat_natCast, Nat.zero_add, Nat.add_zero]
          rfl
        rw [e1, ← ih, e2]
/-- is each piece one tag? -/
def goodPiece (t : List UInt8) : Bool := decide (t.length = 1) && okTag (t.getD 0 0)
theorem okTag_44 {c : UInt8} (h : okTag c = true) : c ≠ 44 := by rintro rfl; revert h; decide
theorem good_of_uncommas : ∀ (m l : List UInt8), uncommas m = some l → l.all okTag = true → splitC m = l.map (fun c => [c])
  | [], l, h, _ => by simp [uncommas] at h
  | [c], l, h, ha => by
    simp only [uncommas, Option.some.injEq] at h
    subst h
    simp only [List.all_cons, List.all_nil, Bool.and_true] at ha
    rw [splitC, if_neg (okTag_44 ha)]; rfl
  | c :: d :: m, l, h, ha => by
    simp only [uncommas] at h
    split at h
    · rename_i hd
      subst hd
      cases hu : uncommas m with
      | none => rw [hu] at h; cases h
      | some l' =>
        rw [hu] at h
        simp only [Option.map_some, Option.some.injEq] at h
        subst h
        simp only [List.all_cons, Bool.and_eq_true] at ha
        have := good_of_uncommas m l' hu ha.2
        rw [splitC, if_neg (okTag_44 ha.1), splitC, if_pos rfl]
        simp [this]
    · cases h
theorem uncommas_of_good : ∀ (m : List UInt8), (splitC m).all goodPiece = true → ∃ l, uncommas m = some l ∧ l.all okTag = true
  | [], h => by simp [splitC, goodPiece] at h
  | [c], h => by
    by_cases hc : c = 44
    · subst hc; simp [splitC, goodPiece] at h
    · refine ⟨[c], rfl, ?_⟩
      rw [splitC, if_neg hc] at h
      simpa [splitC, goodPiece] using h
  | c :: d :: m, h => by
    by_cases hc : c = 44
    · subst hc; rw [splitC, if_pos rfl] at h; simp [goodPiece] at h
    · by_cases hd : d = 44
      · subst hd
        rw [splitC, if_neg hc, splitC, if_pos rfl] at h
        simp only [List.all_cons, Bool.and_eq_true] at h
        obtain ⟨l, h1, h2⟩ := uncommas_of_good m h.2
        refine ⟨c :: l, by simp [uncommas, h1], ?_⟩
        simp only [List.all_cons, h2, Bool.and_true]
        simpa [goodPiece] using h.1
      · exfalso
        rw [splitC, if_neg hc, splitC, if_neg hd] at h
        cases hs : splitC m with
        | nil => exact absurd hs (splitC_ne m)
        | cons x xs => rw [hs] at h; simp [goodPiece] at h

/-! every second byte -/
def evens : List UInt8 → List UInt8
  | [] => []
  | [c] => [c]
  | c :: _ :: l => c :: evens l
theorem uncommas_evens : ∀ (m l : List UInt8), uncommas m = some l → l = evens m ∧ m.length % 2 = 1 ∧ ∀ j, j < m.length → j % 2 = 1 → m.getD j 0 = 44
  | [], l, h => by simp [uncommas] at h
  | [c], l, h => by
    simp only [uncommas, Option.some.injEq] at h
    exact ⟨h.symm, rfl, fun j hj h1 => by simp at hj; omega⟩
  | c :: d :: m, l, h => by
    simp only [uncommas] at h
    split at h
    · rename_i hd
      cases hu : uncommas m with
      | none => rw [hu] at h; cases h
      | some l' =>
        rw [hu] at h
        simp only [Option.map_some, Option.some.injEq] at h
        obtain ⟨h1, h2, h3⟩ := uncommas_evens m l' hu
        subst h
        refine ⟨by rw [evens, h1], by simp only [List.length_cons]; omega, fun j hj hj1 => ?_⟩
        match j with
        | 0 => omega
        | 1 => simpa using hd
        | j + 2 => simpa using h3 j (by simp only [List.length_cons] at hj; omega) (by omega)
    · cases h
theorem uncommas_mk : ∀ (m : List UInt8), m.length % 2 = 1 → (∀ j, j < m.length → j % 2 = 1 → m.getD j 0 = 44) → uncommas m = some (evens m)
  | [], h, _ => by simp at h
  | [c], _, _ => rfl
  | c :: d :: m, h, hj => by
    have hd : d = 44 := by simpa using hj 1 (by simp) rfl
    have := uncommas_mk m (by simp only [List.length_cons] at h; omega) (fun j h1 h2 => by simpa using hj (j + 2) (by simp only [List.length_cons]; omega) (by omega))
    rw [uncommas, if_pos hd, this]; rfl
theorem evens_all (p : UInt8 → Bool) : ∀ (m : List UInt8), (evens m).all p = true ↔ ∀ j, j < m.length → j % 2 = 0 → p (m.getD j 0) = true
  | [] => by simp [evens]
  | [c] => by
    simp only [evens, List.all_cons, List.all_nil, Bool.and_true, List.length_cons, List.length_nil, Nat.zero_add]
    exact ⟨fun h j hj _ => by obtain rfl : j = 0 := by omega
                              simpa using h, fun h => by simpa using h 0 (by omega) rfl⟩
  | c :: d :: m => by
    simp only [evens, List.all_cons, Bool.and_eq_true, evens_all p m, List.length_cons]
    constructor
    · rintro ⟨h0, h⟩ j hj h2
      match j with
      | 0 => simpa using h0
      | 1 => omega
      | j + 2 => simpa using h j (by omega) (by omega)
    · intro h
      exact ⟨by simpa using h 0 (by omega) rfl, fun j hj h2 => by simpa using h (j + 2) (by omega) (by omega)⟩
theorem evens_get : ∀ (m : List UInt8) (k : Nat), 2 * k < m.length → (evens m)[k]? = some (m.getD (2 * k) 0)
  | [], k, h => by simp at h
  | [c], k, h => by
    obtain rfl : k = 0 := by simp at h; omega
    rfl
  | c :: d :: m, 0, h => rfl
  | c :: d :: m, k + 1, h => by
    rw [evens, List.getElem?_cons_succ, evens_get m k (by simp only [List.length_cons] at h; omega), show 2 * (k + 1) = 2 * k + 2 by omega]
    simp
theorem evens_len : ∀ (m : List UInt8), (evens m).length = (m.length + 1) / 2
  | [] => rfl
  | [c] => by simp [evens]
  | c :: d :: m => by simp only [evens, List.length_cons, evens_len m]; omega
end Go.Sp
