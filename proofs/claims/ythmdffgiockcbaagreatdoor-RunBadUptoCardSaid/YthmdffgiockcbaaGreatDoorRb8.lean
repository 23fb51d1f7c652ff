/- Own work: texts SpecLabel, Spec, SpecLex, SpecCuts, SpecParse, SpecParse2, SpecParse3, SpecFile, SpecTree, one behind the other. -/
import Derived.Test.YthmdffgiockcbaaGreatDoorRb7
section
namespace Go.Sp
def bit (n k : Nat) : Bool := decide (n / 2 ^ k % 2 = 1)
theorem bit_test (n k : Nat) : bit n k = n.testBit k := by
  rw [bit, Nat.testBit_eq_decide_div_mod_eq]
def flows (a b : Nat) : Bool := (List.range 8).all (fun k => !bit a k || bit b k)
theorem eq_of_bits {a b : Nat} (ha : a < 256) (hb : b < 256) (h : ∀ k, k < 8 → a.testBit k = b.testBit k) : a = b := by
  apply Nat.eq_of_testBit_eq
  intro k
  by_cases hk : k < 8
  · exact h k hk
  · have h1 : 2 ^ 8 ≤ 2 ^ k := Nat.pow_le_pow_right (by omega) (by omega)
    rw [Nat.testBit_lt_two_pow (by omega), Nat.testBit_lt_two_pow (by omega)]
theorem flows_iff (a b : Nat) : flows a b = true ↔ ∀ k, k < 8 → a.testBit k = true → b.testBit k = true := by
  simp only [flows, List.all_eq_true, List.mem_range, bit_test]
  constructor
  · intro h k hk ha; have := h k hk; rw [ha] at this; simpa using this
  · intro h k hk
    cases ha : a.testBit k
    · rfl
    · rw [h k hk ha]; rfl
theorem and_lt {a b : Nat} (ha : a < 256) : a &&& b < 256 := Nat.lt_of_le_of_lt Nat.and_le_left ha
theorem or_lt {a b : Nat} (ha : a < 256) (hb : b < 256) : a ||| b < 256 := Nat.or_lt_two_pow (n := 8) ha hb
theorem andNot_zero {a b : Nat} (ha : a < 256) (hb : b < 256) : (a &&& (2 ^ 64 - 1 - b) = 0) ↔ flows a b = true := by
  have hn : ∀ k, k < 8 → (2 ^ 64 - 1 - b).testBit k = !b.testBit k := by
    intro k hk
    have : 2 ^ 64 - 1 - b = 2 ^ 64 - (b + 1) := by omega
    rw [this, Nat.testBit_two_pow_sub_succ (by omega)]
    simp; omega
  rw [flows_iff]
  constructor
  · intro h k hk h1
    have h2 : (a &&& (2 ^ 64 - 1 - b)).testBit k = false := by rw [h]; simp
    rw [Nat.testBit_and, h1, hn k hk, Bool.true_and] at h2
    simpa using h2
  · intro h
    refine eq_of_bits (and_lt ha) (by omega) (fun k hk => ?_)
    rw [Nat.testBit_and, hn k hk, Nat.zero_testBit]
    cases h1 : a.testBit k
    · rfl
    · rw [h k hk h1]; rfl
theorem flows_and (a b c : Nat) : flows c (a &&& b) = (flows c a && flows c b) := by
  rw [Bool.eq_iff_iff, Bool.and_eq_true, flows_iff, flows_iff, flows_iff]
  constructor
  · intro h
    constructor
    · intro k hk h1; have := h k hk h1; rw [Nat.testBit_and, Bool.and_eq_true] at this; exact this.1
    · intro k hk h1; have := h k hk h1; rw [Nat.testBit_and, Bool.and_eq_true] at this; exact this.2
  · rintro ⟨h1, h2⟩ k hk h3
    rw [Nat.testBit_and, h1 k hk h3, h2 k hk h3]; rfl
end Go.Sp
end
section
namespace Go.Sp
def isLetter (c : UInt8) : Bool := (decide (97 ≤ c.toNat) && decide (c.toNat ≤ 122)) || (decide (65 ≤ c.toNat) && decide (c.toNat ≤ 90)) || decide (c.toNat = 95)
def isDigit (c : UInt8) : Bool := decide (48 ≤ c.toNat) && decide (c.toNat ≤ 57)
def isBlank (c : UInt8) : Bool := decide (c.toNat = 32) || decide (c.toNat = 10) || decide (c.toNat = 9)
def signs : List UInt8 := [40, 41, 123, 125, 44, 58, 59, 61, 43, 45, 42, 60]
def isSign (c : UInt8) : Bool := signs.any (fun x => decide (x = c))
def isWord (c : UInt8) : Bool := isLetter c || isDigit c
def noLine (c : UInt8) : Bool := decide (c.toNat ≠ 10)

def run (F : UInt8 → Bool) (r : List UInt8) : Nat := 1 + (r.takeWhile F).length

def one : List UInt8 → Nat × Nat
  | [] => (4, 1)
  | c :: r =>
    if isBlank c then (0, run isBlank r) else
    if c.toNat = 35 then (0, run noLine r) else
    if isLetter c then (1, run isWord r) else
    if isDigit c then (2, run isDigit r) else
    if isSign c then (3, 1) else (4, 1)

structure Tok where
  kind : Nat
  text : List UInt8
  pos : Nat
  deriving DecidableEq

def toks : Nat → List UInt8 → Nat → List Tok
  | 0, _, _ => []
  | f + 1, s, at_ =>
    if s = [] then [] else
    if (one s).1 > 0 then ⟨(one s).1, s.take (one s).2, at_⟩ :: toks f (s.drop (one s).2) (at_ + (one s).2)
    else toks f (s.drop (one s).2) (at_ + (one s).2)
def tokens (s : List UInt8) : List Tok := toks s.length s 0

theorem takeWhile_len (F : UInt8 → Bool) : ∀ (r : List UInt8) (m : Nat), (∀ j, j < m → F (r.getD j 0) = true) → m ≤ r.length → (m = r.length ∨ F (r.getD m 0) = false) → (r.takeWhile F).length = m
  | [], m, _, h2, _ => by simp at h2; simp [h2]
  | c :: r, 0, _, _, h3 => by
    have : F c = false := by simpa using h3
    simp [this]
  | c :: r, m + 1, h1, h2, h3 => by
    have h0 : F c = true := by simpa using h1 0 (by omega)
    have := takeWhile_len F r m (fun j hj => by simpa using h1 (j + 1) (by omega)) (by simpa using h2) (by simpa using h3)
    simp [h0, this]
theorem run_eq (F : UInt8 → Bool) (s : List UInt8) (k : Nat) (h0 : 1 ≤ k) (h1 : ∀ j, 1 ≤ j → j < k → F (s.getD j 0) = true) (h2 : k ≤ s.length) (h3 : k = s.length ∨ F (s.getD k 0) = false) : run F s.tail = k := by
  cases s with
  | nil => simp at h2; omega
  | cons c r =>
    obtain ⟨m, rfl⟩ : ∃ m, k = m + 1 := ⟨k - 1, by omega⟩
    have := takeWhile_len F r m (fun j hj => by simpa using h1 (j + 1) (by omega) (by omega)) (by simpa using h2) (by simpa using h3)
    simp [run, this]; omega
theorem run_le (F : UInt8 → Bool) (s : List UInt8) (h : s ≠ []) : 1 ≤ run F s.tail ∧ run F s.tail ≤ s.length := by
  cases s with
  | nil => exact absurd rfl h
  | cons c r =>
    have := (List.takeWhile_prefix F (l := r)).length_le
    simp [run]; omega
theorem one_le (s : List UInt8) (h : s ≠ []) : 1 ≤ (one s).2 ∧ (one s).2 ≤ s.length := by
  cases s with
  | nil => exact absurd rfl h
  | cons c r =>
    simp only [one]
    have h1 := fun F => run_le F (c :: r) (by simp)
    simp only [List.tail_cons] at h1
    repeat' split
    all_goals first | exact h1 _ | simp
theorem toks_fuel : ∀ (f g : Nat) (s : List UInt8) (p : Nat), s.length ≤ f → s.length ≤ g → toks f s p = toks g s p
  | 0, 0, _, _, _, _ => rfl
  | 0, g + 1, s, p, h, _ => by
    have : s = [] := List.eq_nil_of_length_eq_zero (by omega)
    simp [toks, this]
  | f + 1, 0, s, p, _, h => by
    have : s = [] := List.eq_nil_of_length_eq_zero (by omega)
    simp [toks, this]
  | f + 1, g + 1, s, p, h1, h2 => by
    by_cases hs : s = []
    · simp [toks, hs]
    · have := one_le s hs
      simp only [toks, hs, if_false]
      rw [toks_fuel f g (s.drop (one s).2) _ (by simp; omega) (by simp; omega)]
def toksAt (s : List UInt8) (k : Nat) : List Tok := toks (s.length - k) (s.drop k) k
theorem toksAt_end (s : List UInt8) (k : Nat) (h : s.length ≤ k) : toksAt s k = [] := by
  have : s.length - k = 0 := by omega
  simp [toksAt, this, toks]
theorem toksAt_step (s : List UInt8) (k : Nat) (h : k < s.length) :
    toksAt s k = (if (one (s.drop k)).1 > 0 then [⟨(one (s.drop k)).1, (s.drop k).take (one (s.drop k)).2, k⟩] else []) ++ toksAt s (k + (one (s.drop k)).2) := by
  have hne : s.drop k ≠ [] := by simp; omega
  have hl := one_le _ hne
  simp only [List.length_drop] at hl
  obtain ⟨f, hf⟩ : ∃ f, s.length - k = f + 1 := ⟨s.length - k - 1, by omega⟩
  have e : toks f (s.drop (k + (one (s.drop k)).2)) (k + (one (s.drop k)).2) = toksAt s (k + (one (s.drop k)).2) :=
    toks_fuel _ _ _ _ (by simp; omega) (by simp)
  unfold toksAt
  rw [hf]
  simp only [toks, hne, if_false, List.drop_drop]
  rw [e]
  split <;> rfl
theorem tokens_eq (s : List UInt8) : tokens s = toksAt s 0 := by simp [tokens, toksAt]

def ownWords : List (List UInt8) := [[102, 110], [99, 104, 97, 110], [108, 101, 116], [105, 102], [101, 108, 115, 101], [119, 104, 105, 108, 101], [115, 101, 110, 100], [114, 101, 116, 117, 114, 110], [115, 101, 110, 100, 115]]
def word (s : List UInt8) : Bool := decide (1 ≤ s.length) && decide (s.length ≤ 12) && isLetter (s.getD 0 0) && s.all isWord
def name (s : List UInt8) : Bool := !(ownWords.any (fun w => decide (s = w))) && word s
theorem all_iff (F : UInt8 → Bool) (s : List UInt8) : s.all F = true ↔ ∀ j, j < s.length → F (s.getD j 0) = true := by
  rw [List.all_eq_true]
  constructor
  · intro h j hj
    rw [List.getD_eq_getElem?_getD, List.getElem?_eq_getElem hj]
    exact h _ (List.getElem_mem hj)
  · intro h x hx
    obtain ⟨j, hj, rfl⟩ := List.mem_iff_getElem.1 hx
    have := h j hj
    rwa [List.getD_eq_getElem?_getD, List.getElem?_eq_getElem hj] at this
end Go.Sp
end
section
namespace Go.Sp

def ext (F : UInt8 → Bool) (s : List UInt8) (k : Nat) : List UInt8 := (s.drop k).takeWhile F
end Go.Sp
end
section
namespace Go.Sp

theorem one_kind (s : List UInt8) : (one s).1 ≤ 4 := by
  cases s with
  | nil => simp [one]
  | cons c r =>
    simp only [one]
    repeat' split
    all_goals simp
structure TokOk (s : List UInt8) (t : Tok) : Prop where
  pos : t.pos < s.length
  len : 1 ≤ t.text.length
  fit : t.pos + t.text.length ≤ s.length
  text : t.text = (s.drop t.pos).take t.text.length
  one : t.kind = (one (s.drop t.pos)).1 ∧ t.text.length = (one (s.drop t.pos)).2
  kind : 1 ≤ t.kind ∧ t.kind ≤ 4
theorem toksAt_mem (s : List UInt8) : ∀ (n k : Nat), s.length - k = n → ∀ t ∈ toksAt s k, k ≤ t.pos ∧ TokOk s t := by
  intro n
  induction n using Nat.strongRecOn with
  | _ n ih =>
    intro k hn t ht
    by_cases h : k < s.length
    · rw [toksAt_step s k h] at ht
      have hne : s.drop k ≠ [] := by simp; omega
      have hl := one_le _ hne
      simp only [List.length_drop] at hl
      rcases List.mem_append.1 ht with h1 | h1
      · split at h1
        · rename_i hk
          simp at h1
          subst h1
          have hlen : ((s.drop k).take (one (s.drop k)).2).length = (one (s.drop k)).2 := by simp; omega
          exact ⟨Nat.le_refl _, ⟨h, by rw [hlen]; omega, by rw [hlen]; dsimp only; omega, by rw [hlen], ⟨rfl, hlen⟩, ⟨hk, one_kind _⟩⟩⟩
        · simp at h1
      · obtain ⟨h2, h3⟩ := ih (s.length - (k + (one (s.drop k)).2)) (by omega) _ rfl t h1
        exact ⟨by omega, h3⟩
    · rw [toksAt_end s k (by omega)] at ht
      simp at ht
theorem tokens_ok (s : List UInt8) (t : Tok) (ht : t ∈ tokens s) : TokOk s t := by
  rw [tokens_eq] at ht
  exact (toksAt_mem s _ 0 rfl t ht).2
theorem toksAt_sorted (s : List UInt8) : ∀ (n k : Nat), s.length - k = n → (toksAt s k).Pairwise (fun a b => a.pos + a.text.length ≤ b.pos) := by
  intro n
  induction n using Nat.strongRecOn with
  | _ n ih =>
    intro k hn
    by_cases h : k < s.length
    · have hne : s.drop k ≠ [] := by simp; omega
      have hl := one_le _ hne
      simp only [List.length_drop] at hl
      have h1 := ih (s.length - (k + (one (s.drop k)).2)) (by omega) _ rfl
      rw [toksAt_step s k h]
      split
      · rw [List.singleton_append, List.pairwise_cons]
        refine ⟨fun t ht => ?_, h1⟩
        have := (toksAt_mem s _ _ rfl t ht).1
        simp; omega
      · exact h1
    · rw [toksAt_end s k (by omega)]; exact List.Pairwise.nil
theorem tokens_sorted (s : List UInt8) : (tokens s).Pairwise (fun a b => a.pos + a.text.length ≤ b.pos) := by rw [tokens_eq]; exact toksAt_sorted s _ 0 rfl

def wFn : List UInt8 := [102, 110]
def wChan : List UInt8 := [99, 104, 97, 110]
def begins (s : List UInt8) (t : Tok) : Bool := decide (t.kind = 1) && (decide (t.text = wFn) || decide (t.text = wChan)) && (decide (t.pos = 0) || decide ((s.getD (t.pos - 1) 0).toNat = 10))
def cutStep (s : List UInt8) (acc : List Nat) (t : Tok) : List Nat := if begins s t = true ∨ acc = [] then acc ++ [t.pos] else acc
def cuts (s : List UInt8) : List Nat := (tokens s).foldl (cutStep s) []
theorem fold_take {α β : Type} (f : β → α → β) (b : β) (l : List α) (k : Nat) (a : α) (h : l[k]? = some a) : (l.take (k + 1)).foldl f b = f ((l.take k).foldl f b) a := by
  rw [List.take_add_one, h]
  simp
theorem toks_len (s : List UInt8) : (tokens s).length ≤ s.length := by
  have key : ∀ (n k : Nat), s.length - k = n → (toksAt s k).length ≤ n := by
    intro n
    induction n using Nat.strongRecOn with
    | _ n ih =>
      intro k hn
      by_cases h : k < s.length
      · have hl := one_le (s.drop k) (by simp; omega)
        simp only [List.length_drop] at hl
        have := ih (s.length - (k + (one (s.drop k)).2)) (by omega) _ rfl
        rw [toksAt_step s k h, List.length_append]
        split
        · simp; omega
        · simp; omega
      · rw [toksAt_end s k (by omega)]; simp
  have := key _ 0 rfl
  rw [tokens_eq]; simpa using this
end Go.Sp
end
section
namespace Go.Sp
inductive Ex where
  | mk (kind : Nat) (name : List UInt8) (n : Nat) (args : List Ex) (fr to : Nat)
inductive Stm where
  | mk (kind : Nat) (name : List UInt8) (at_ label : Nat) (opn : Bool) (e : Ex) (thn els : List Stm) (fr to : Nat)
structure Par where
  name : List UInt8
  label : Nat
  at_ : Nat
structure Rf where
  name : List UInt8
  at_ : Nat
structure Dg where
  fr : Nat
  to : Nat
  err : Nat
  name : List UInt8
structure Itm where
  kind : Nat
  name : List UInt8
  label : Nat
  params : List Par
  sends : List Rf
  body : List Stm
  at_ : Int
  size : Nat
  mark : Nat
  diags : List Dg
instance : Inhabited Ex := ⟨.mk 0 [] 0 [] 0 0⟩
instance : Inhabited Stm := ⟨.mk 0 [] 0 0 false default [] [] 0 0⟩
def Ex.fr : Ex → Nat
  | .mk _ _ _ _ f _ => f
def Ex.to : Ex → Nat
  | .mk _ _ _ _ _ t => t

structure Src where
  l : List Tok
  size : Nat
structure St where
  i : Nat
  ds : List Dg
def Src.tok (T : Src) (i : Nat) : Tok := T.l.getD i ⟨0, [], T.size⟩
def Src.is (T : Src) (i : Nat) (w : List UInt8) : Bool := decide (i < T.l.length) && decide ((T.tok i).text = w)
def Src.endOf (T : Src) (i : Nat) : Nat := if i = 0 then 0 else (T.tok (i - 1)).pos + (T.tok (i - 1)).text.length
def St.bad (T : Src) (s : St) (e : Nat) : St := { s with ds := s.ds ++ [⟨(T.tok s.i).pos, (T.tok s.i).pos + (T.tok s.i).text.length, e, (T.tok s.i).text⟩] }
def St.next (s : St) : St := { s with i := s.i + 1 }
def St.need (T : Src) (s : St) (w : List UInt8) : Bool × St := if T.is s.i w then (true, s.next) else (false, s.bad T 2)
def St.named (T : Src) (s : St) : List UInt8 × St :=
  if name (T.tok s.i).text then ((T.tok s.i).text, s.next) else
  if (T.tok s.i).kind = 1 then ([], (s.bad T 7).next) else ([], s.bad T 2)
def tagB (t : List UInt8) : Bool := decide (t.length = 1) && (decide (97 ≤ (t.getD 0 0).toNat) && decide ((t.getD 0 0).toNat ≤ 104))
def labL (T : Src) : Nat → Nat → St → Nat × St
  | 0, n, s => (n, s)
  | f + 1, n, s =>
    if T.is s.i [125] then (n, s.next) else
    let t := (T.tok s.i).text
    if !tagB t then (n, s.bad T 2) else
    let q := (t.getD 0 0).toNat - 97
    let s1 := if bit n q then s.bad T 7 else s
    let n1 := if bit n q then n else n + 2 ^ q
    let s2 := s1.next
    if T.is s2.i [125] then labL T f n1 s2 else
    if T.is s2.i [44] then labL T f n1 s2.next else (n1, s2.bad T 2)
def lab (T : Src) (s : St) : Nat × St :=
  if T.is s.i [123] then labL T (T.l.length + 1) 0 s.next else (0, s.bad T 2)
def tight (t : List UInt8) : Nat :=
  if t = [61] ∨ t = [60] then 1 else if t = [43] ∨ t = [45] then 2 else if t = [42] then 3 else 0
def none_ (T : Src) (s : St) (e : Nat) : Ex × St := (.mk 5 [] 0 [] (T.tok s.i).pos (T.tok s.i).pos, s.bad T e)
def digits (t : List UInt8) : Nat := t.foldl (fun n c => if n ≤ 1000000000 then 10 * n + (c.toNat - 48) else n) 0
mutual
def atom (T : Src) : Nat → Nat → St → Ex × St
  | 0, _, s => (default, s)
  | f + 1, d, s =>
    let t := T.tok s.i
    if T.l.length ≤ s.i then none_ T s 2 else
    if 12 ≤ d then none_ T s 12 else
    if t.kind = 2 then
      if 1000000000 < digits t.text then (.mk 1 [] 0 [] t.pos (t.pos + t.text.length), (s.bad T 3).next)
      else (.mk 1 [] (digits t.text) [] t.pos (t.pos + t.text.length), s.next) else
    if t.text = [40] then
      let r := expr T f (d + 1) 1 s.next
      (r.1, (r.2.need T [41]).2) else
    if !name t.text then none_ T s 2 else
    if !T.is (s.i + 1) [40] then (.mk 2 t.text 0 [] t.pos (t.pos + t.text.length), s.next) else
    let r := argL T f (d + 1) [] s.next.next
    let s2 := (r.2.need T [41]).2
    (.mk 4 t.text 0 r.1 t.pos (T.endOf s2.i), s2)
def argL (T : Src) : Nat → Nat → List Ex → St → List Ex × St
  | 0, _, l, s => (l, s)
  | f + 1, d, l, s =>
    if T.l.length ≤ s.i ∨ T.is s.i [41] then (l, s) else
    if l.length = 5 then (l, s.bad T 5) else
    let r := expr T f d 1 s
    if T.is r.2.i [44] then argL T f d (l ++ [r.1]) r.2.next else (l ++ [r.1], r.2)
def expr (T : Src) : Nat → Nat → Nat → St → Ex × St
  | 0, _, _, s => (default, s)
  | f + 1, d, least, s =>
    let r := atom T f d s
    opL T f d least r.1 r.2
def opL (T : Src) : Nat → Nat → Nat → Ex → St → Ex × St
  | 0, _, _, e, s => (e, s)
  | f + 1, d, least, e, s =>
    let op := (T.tok s.i).text
    if tight op < least ∨ tight op = 0 then (e, s) else
    let r := expr T f d (tight op + 1) s.next
    opL T f d least (.mk 3 op 0 [e, r.1] e.fr (max r.1.to e.to)) r.2
 end
mutual
def block (T : Src) : Nat → Nat → St → List Stm × St
  | 0, _, s => ([], s)
  | f + 1, d, s =>
    if !T.is s.i [123] then ([], s.bad T 2) else
    if 12 ≤ d then ([], s.next.bad T 12) else
    let r := stmL T f (d + 1) [] s.next
    (r.1, (r.2.need T [125]).2)
def stmL (T : Src) : Nat → Nat → List Stm → St → List Stm × St
  | 0, _, l, s => (l, s)
  | f + 1, d, l, s =>
    if T.l.length ≤ s.i ∨ T.is s.i [125] then (l, s) else
    if 40 ≤ l.length then (l, s.bad T 5) else
    let r := stm T f d s
    stmL T f d (l ++ [r.1]) (if r.2.i = s.i then r.2.next else r.2)
def stm (T : Src) : Nat → Nat → St → Stm × St
  | 0, _, s => (default, s)
  | f + 1, d, s =>
    let t := T.tok s.i
    let fr := t.pos
    let fin (s : St) : Nat := max (T.endOf s.i) fr
    if t.text = [108, 101, 116] then
      let a := (T.tok (s.i + 1)).pos
      let r := s.next.named T
      let opn := !T.is r.2.i [58]
      let r1 := if opn then (0, r.2) else lab T r.2.next
      let s2 := (r1.2.need T [61]).2
      let r2 := expr T f d 1 s2
      let s3 := (r2.2.need T [59]).2
      (.mk 1 r.1 a r1.1 opn r2.1 [] [] fr (fin s3), s3) else
    if t.text = [105, 102] then
      let r := expr T f d 1 s.next
      let r1 := block T f d r.2
      if T.is r1.2.i [101, 108, 115, 101] then
        let r2 := block T f d r1.2.next
        (.mk 3 [] 0 0 false r.1 r1.1 r2.1 fr (fin r2.2), r2.2)
      else (.mk 3 [] 0 0 false r.1 r1.1 [] fr (fin r1.2), r1.2) else
    if t.text = [119, 104, 105, 108, 101] then
      let r := expr T f d 1 s.next
      let r1 := block T f d r.2
      (.mk 4 [] 0 0 false r.1 r1.1 [] fr (fin r1.2), r1.2) else
    if t.text = [115, 101, 110, 100] then
      let a := (T.tok (s.i + 1)).pos
      let r := s.next.named T
      let r2 := expr T f d 1 r.2
      let s3 := (r2.2.need T [59]).2
      (.mk 5 r.1 a 0 false r2.1 [] [] fr (fin s3), s3) else
    if t.text = [114, 101, 116, 117, 114, 110] then
      let r2 := expr T f d 1 s.next
      let s3 := (r2.2.need T [59]).2
      (.mk 6 [] 0 0 false r2.1 [] [] fr (fin s3), s3) else
    if name t.text then
      if T.is (s.i + 1) [61] then
        let r2 := expr T f d 1 s.next.next
        let s3 := (r2.2.need T [59]).2
        (.mk 2 t.text fr 0 false r2.1 [] [] fr (fin s3), s3)
      else
        let r2 := expr T f d 1 s
        let s3 := (r2.2.need T [59]).2
        (.mk 7 [] 0 0 false r2.1 [] [] fr (fin s3), s3) else
    (.mk 8 [] 0 0 false default [] [] fr (fin (s.bad T 2)), s.bad T 2)
 end
def parL (T : Src) : Nat → List Par → St → List Par × St
  | 0, l, s => (l, s)
  | f + 1, l, s =>
    if T.l.length ≤ s.i ∨ T.is s.i [41] then (l, s) else
    if 5 ≤ l.length then (l, s.bad T 5) else
    let a := (T.tok s.i).pos
    let r := s.named T
    let r1 := r.2.need T [58]
    if !r1.1 then (l, r1.2) else
    let r2 := lab T r1.2
    if T.is r2.2.i [44] then parL T f (l ++ [⟨r.1, r2.1, a⟩]) r2.2.next else (l ++ [⟨r.1, r2.1, a⟩], r2.2)
def sndL (T : Src) : Nat → List Rf → St → List Rf × St
  | 0, l, s => (l, s)
  | f + 1, l, s =>
    if 5 ≤ l.length then (l, s.bad T 5) else
    let a := (T.tok s.i).pos
    let r := s.named T
    if T.is r.2.i [44] then sndL T f (l ++ [⟨r.1, a⟩]) r.2.next else (l ++ [⟨r.1, a⟩], r.2)
def fuel (T : Src) : Nat := 8 * T.l.length + 64
def fnItm (T : Src) (at_ : Int) (size : Nat) (s : St) : Itm × St :=
  let r := s.named T
  let s1 := (r.2.need T [40]).2
  let r2 := parL T 6 [] s1
  let s3 := (r2.2.need T [41]).2
  let s4 := (s3.need T [58]).2
  let r5 := lab T s4
  let r6 := if T.is r5.2.i [115, 101, 110, 100, 115] then sndL T 6 [] r5.2.next else ([], r5.2)
  let r7 := block T (fuel T) 0 r6.2
  (⟨2, r.1, r5.1, r2.1, r6.1, r7.1, at_, size, (T.tok s.i).pos, []⟩, r7.2)
def chItm (T : Src) (at_ : Int) (size : Nat) (s : St) : Itm × St :=
  let r := s.named T
  let s1 := (r.2.need T [58]).2
  let r2 := lab T s1
  let s3 := (r2.2.need T [59]).2
  (⟨1, r.1, r2.1, [], [], [], at_, size, (T.tok s.i).pos, []⟩, s3)
def item (src : List UInt8) (at_ : Int) : Itm :=
  let T : Src := ⟨tokens src, src.length⟩
  let q := if T.is 0 [102, 110] then fnItm T at_ src.length ⟨1, []⟩ else if T.is 0 [99, 104, 97, 110] then chItm T at_ src.length ⟨1, []⟩ else
    (⟨3, [], 0, [], [], [], at_, src.length, 0, []⟩, { ((⟨0, []⟩ : St).bad T 2) with i := T.l.length })
  let s := if q.2.i < T.l.length then q.2.bad T 2 else q.2
  { q.1 with diags := s.ds }
end Go.Sp
end
section
namespace Go.Sp
structure Goes (T : Src) (k : Nat) (s r : St) : Prop where
  le : s.i ≤ r.i
  top : s.i ≤ T.l.length → r.i ≤ T.l.length
  ds : r.ds.length + 2 * s.i ≤ s.ds.length + 2 * r.i + k
theorem Goes.refl (T : Src) (k : Nat) (s : St) : Goes T k s s := ⟨Nat.le_refl _, id, by omega⟩
theorem Goes.mono {T : Src} {k k' : Nat} {s r : St} (h : Goes T k s r) (hk : k ≤ k') : Goes T k' s r := ⟨h.le, h.top, by have := h.ds; omega⟩
theorem Goes.trans {T : Src} {k k' : Nat} {s r t : St} (h : Goes T k s r) (g : Goes T k' r t) : Goes T (k + k') s t :=
  ⟨Nat.le_trans h.le g.le, fun x => g.top (h.top x), by have := h.ds; have := g.ds; omega⟩
theorem goes_bad (T : Src) (s : St) (e : Nat) : Goes T 1 s (s.bad T e) := ⟨Nat.le_refl _, id, by simp [St.bad]; omega⟩
theorem is_lt {T : Src} {i : Nat} {w : List UInt8} (h : T.is i w = true) : i < T.l.length := by
  simp only [Src.is, Bool.and_eq_true, decide_eq_true_eq] at h; exact h.1
theorem tok_end {T : Src} {i : Nat} (h : T.l.length ≤ i) : T.tok i = ⟨0, [], T.size⟩ := by
  rw [Src.tok, List.getD_eq_getElem?_getD, List.getElem?_eq_none h]; rfl
theorem name_ne {t : List UInt8} (h : name t = true) : t ≠ [] := by rintro rfl; revert h; decide
theorem tok_lt {T : Src} {i : Nat} (h : (T.tok i).text ≠ []) : i < T.l.length := by
  rcases Nat.lt_or_ge i T.l.length with h1 | h1
  · exact h1
  · rw [tok_end h1] at h; exact absurd rfl h
theorem tok_lt_kind {T : Src} {i : Nat} (h : (T.tok i).kind ≠ 0) : i < T.l.length := by
  rcases Nat.lt_or_ge i T.l.length with h1 | h1
  · exact h1
  · rw [tok_end h1] at h; exact absurd rfl h
theorem goes_need (T : Src) (s : St) (w : List UInt8) : Goes T 1 s (s.need T w).2 := by
  rw [St.need]
  split
  · rename_i h
    have := is_lt h
    exact ⟨by simp [St.next], fun _ => by simp [St.next]; omega, by simp [St.next]; omega⟩
  · exact goes_bad T s 2
theorem goes_named (T : Src) (s : St) : Goes T 1 s (s.named T).2 := by
  rw [St.named]
  split
  · rename_i h
    have := tok_lt (name_ne h)
    exact ⟨by simp [St.next], fun _ => by simp [St.next]; omega, by simp [St.next]; omega⟩
  · split
    · rename_i h
      have := tok_lt_kind (T := T) (i := s.i) (by omega)
      exact ⟨by simp [St.next, St.bad], fun _ => by simp [St.next, St.bad]; omega, by simp [St.next, St.bad]; omega⟩
    · exact goes_bad T s 2
theorem goes_labL (T : Src) : ∀ (f n : Nat) (s : St), Goes T 1 s (labL T f n s).2
  | 0, n, s => Goes.refl _ _ _
  | f + 1, n, s => by
    rw [labL]
    split
    · rename_i h
      have := is_lt h
      exact ⟨by simp [St.next], fun _ => by simp [St.next]; omega, by simp [St.next]; omega⟩
    · dsimp only
      split
      · exact goes_bad T s 2
      · rename_i h1 h2
        have hlt : s.i < T.l.length := tok_lt (by intro e; rw [e] at h2; revert h2; decide)
        have g1 : ∀ s1 : St, (s1 = s ∨ s1 = s.bad T 7) → s1.next.i = s.i + 1 ∧ s1.next.ds.length ≤ s.ds.length + 1 := by
          rintro s1 (rfl | rfl) <;> simp [St.next, St.bad]
        have g2 := g1 (if bit n ((T.tok s.i).text.getD 0 0 |>.toNat |> (· - 97)) = true then s.bad T 7 else s) (by split <;> simp)
        generalize (if bit n ((T.tok s.i).text.getD 0 0 |>.toNat |> (· - 97)) = true then s.bad T 7 else s).next = s2 at g2
        generalize (if bit n ((T.tok s.i).text.getD 0 0 |>.toNat |> (· - 97)) = true then n else n + 2 ^ ((T.tok s.i).text.getD 0 0 |>.toNat |> (· - 97))) = n1
        split
        · have ih := goes_labL T f n1 s2
          exact ⟨by have := ih.le; omega, fun _ => ih.top (by omega), by have := ih.ds; omega⟩
        · split
          · rename_i h5
            have h6 := is_lt h5
            have ih := goes_labL T f n1 s2.next
            have e1 : s2.next.i = s2.i + 1 := rfl
            have e2 : s2.next.ds = s2.ds := rfl
            exact ⟨by have := ih.le; omega, fun _ => ih.top (by omega), by have := ih.ds; rw [e2] at this; omega⟩
          · have ih := goes_bad T s2 2
            exact ⟨by have := ih.le; dsimp only; omega, fun _ => ih.top (by omega), by have := ih.ds; dsimp only; omega⟩
theorem goes_lab (T : Src) (s : St) : Goes T 1 s (lab T s).2 := by
  rw [lab]
  split
  · rename_i h
    have := is_lt h
    have ih := goes_labL T (T.l.length + 1) 0 s.next
    have e1 : s.next.i = s.i + 1 := rfl
    have e2 : s.next.ds = s.ds := rfl
    exact ⟨by have := ih.le; omega, fun _ => ih.top (by omega), by have := ih.ds; rw [e2] at this; omega⟩
  · exact goes_bad T s 2
theorem next_i (s : St) : s.next.i = s.i + 1 := rfl
theorem next_ds (s : St) : s.next.ds = s.ds := rfl
theorem tight_ne {t : List UInt8} (h : tight t ≠ 0) : t ≠ [] := by rintro rfl; exact h (by decide)

theorem goes_expr (T : Src) : ∀ f, (∀ d s, Goes T 1 s (atom T f d s).2) ∧ (∀ d l s, Goes T 1 s (argL T f d l s).2) ∧ (∀ d m s, Goes T 1 s (expr T f d m s).2) ∧ (∀ d m e s, Goes T 0 s (opL T f d m e s).2)
  | 0 => ⟨fun _ _ => by rw [atom]; exact Goes.refl _ _ _, fun _ _ _ => by rw [argL]; exact Goes.refl _ _ _, fun _ _ _ => by rw [expr]; exact Goes.refl _ _ _, fun _ _ _ _ => by rw [opL]; exact Goes.refl _ _ _⟩
  | f + 1 => by
    obtain ⟨hA, hL, hE, hO⟩ := goes_expr T f
    refine ⟨fun d s => ?_, fun d l s => ?_, fun d m s => ?_, fun d m e s => ?_⟩
    · rw [atom]
      dsimp only
      split
      · exact goes_bad T s 2
      · rename_i hlt
        split
        · exact goes_bad T s 12
        · split
          · split
            · exact ⟨by simp [St.next, St.bad], fun _ => by simp [St.next, St.bad]; omega, by simp [St.next, St.bad]; omega⟩
            · exact ⟨by simp [St.next], fun _ => by simp [St.next]; omega, by simp [St.next]; omega⟩
          · split
            · have g := (hE (d + 1) 1 s.next).trans (goes_need T (expr T f (d + 1) 1 s.next).2 [41])
              have h1 := g.le
              have h2 := g.top
              have h3 := g.ds
              rw [next_i] at h1 h2 h3
              rw [next_ds] at h3
              exact ⟨by dsimp only; omega, fun _ => h2 (by omega), by dsimp only; omega⟩
            · split
              · exact goes_bad T s 2
              · split
                · exact ⟨by simp [St.next], fun _ => by simp [St.next]; omega, by simp [St.next]; omega⟩
                · rename_i h5
                  have h6 := is_lt (by simpa using h5 : T.is (s.i + 1) [40] = true)
                  have g := (hL (d + 1) [] s.next.next).trans (goes_need T (argL T f (d + 1) [] s.next.next).2 [41])
                  have h1 := g.le
                  have h2 := g.top
                  have h3 := g.ds
                  rw [next_i, next_i] at h1 h2 h3
                  rw [next_ds, next_ds] at h3
                  exact ⟨by dsimp only; omega, fun _ => h2 (by omega), by dsimp only; omega⟩
    · rw [argL]
      split
      · exact Goes.refl _ _ _
      · split
        · exact goes_bad T s 5
        · try dsimp only
          split
          · rename_i h5
            have h6 := is_lt h5
            have g := hE d 1 s
            have g2 := hL d (l ++ [(expr T f d 1 s).1]) (expr T f d 1 s).2.next
            have h1 := g2.le
            have h2 := g2.top
            have h3 := g2.ds
            have := g.le
            have := g.ds
            rw [next_i] at h1 h2 h3
            rw [next_ds] at h3
            exact ⟨by omega, fun _ => h2 (by omega), by omega⟩
          · exact hE d 1 s
    · rw [expr]
      try dsimp only
      exact (hA d s).trans (hO d m (atom T f d s).1 (atom T f d s).2)
    · rw [opL]
      try dsimp only
      split
      · exact Goes.refl _ _ _
      · rename_i h5
        have h6 : s.i < T.l.length := tok_lt (tight_ne (by omega))
        have g := hE d (tight (T.tok s.i).text + 1) s.next
        have g2 := hO d m (.mk 3 (T.tok s.i).text 0 [e, (expr T f d (tight (T.tok s.i).text + 1) s.next).1] e.fr (max (expr T f d (tight (T.tok s.i).text + 1) s.next).1.to e.to)) (expr T f d (tight (T.tok s.i).text + 1) s.next).2
        have g3 := g.trans g2
        have h1 := g3.le
        have h2 := g3.top
        have h3 := g3.ds
        rw [next_i] at h1 h2 h3
        rw [next_ds] at h3
        exact ⟨by omega, fun _ => h2 (by omega), by omega⟩
end Go.Sp
end
section
namespace Go.Sp
structure Goes8 (T : Src) (k : Nat) (s r : St) : Prop where
  le : s.i ≤ r.i
  top : s.i ≤ T.l.length → r.i ≤ T.l.length
  ds : r.ds.length + 8 * s.i ≤ s.ds.length + 8 * r.i + k
theorem Goes.g8 {T : Src} {k : Nat} {s r : St} (h : Goes T k s r) : Goes8 T k s r := ⟨h.le, h.top, by have := h.ds; have := h.le; omega⟩
theorem Goes8.trans {T : Src} {k k' : Nat} {s r t : St} (h : Goes8 T k s r) (g : Goes8 T k' r t) : Goes8 T (k + k') s t :=
  ⟨Nat.le_trans h.le g.le, fun x => g.top (h.top x), by have := h.ds; have := g.ds; omega⟩
theorem Goes8.mono {T : Src} {k k' : Nat} {s r : St} (h : Goes8 T k s r) (hk : k ≤ k') : Goes8 T k' s r := ⟨h.le, h.top, by have := h.ds; omega⟩
theorem Goes8.refl (T : Src) (k : Nat) (s : St) : Goes8 T k s s := ⟨Nat.le_refl _, id, by omega⟩
theorem g8_next {T : Src} {k : Nat} {s r : St} (hi : s.i < T.l.length) (h : Goes8 T (k + 8) s.next r) : Goes8 T k s r := by
  obtain ⟨h1, h2, h3⟩ := h
  rw [next_i] at h1 h2 h3
  rw [next_ds] at h3
  exact ⟨by omega, fun _ => h2 (by omega), by omega⟩
theorem g_expr (T : Src) (f d m : Nat) (s : St) : Goes8 T 1 s (expr T f d m s).2 := ((goes_expr T f).2.2.1 d m s).g8
theorem g_need (T : Src) (s : St) (w : List UInt8) : Goes8 T 1 s (s.need T w).2 := (goes_need T s w).g8
theorem g_named (T : Src) (s : St) : Goes8 T 1 s (s.named T).2 := (goes_named T s).g8
theorem g_lab (T : Src) (s : St) : Goes8 T 1 s (lab T s).2 := (goes_lab T s).g8
theorem g_bad (T : Src) (s : St) (e : Nat) : Goes8 T 1 s (s.bad T e) := (goes_bad T s e).g8

structure StG (T : Src) (s r : St) : Prop where
  le : s.i ≤ r.i
  top : s.i ≤ T.l.length → r.i ≤ T.l.length
  ds0 : r.i = s.i → r.ds.length ≤ s.ds.length + 2
  ds1 : s.i < r.i → r.ds.length + 8 * s.i ≤ s.ds.length + 8 * r.i
theorem stG_next {T : Src} {k : Nat} {s r : St} (hi : s.i < T.l.length) (h : Goes8 T k s.next r) (hk : k ≤ 8) : StG T s r := by
  obtain ⟨h1, h2, h3⟩ := h
  rw [next_i] at h1 h2 h3
  rw [next_ds] at h3
  exact ⟨by omega, fun _ => h2 (by omega), fun _ => by omega, fun _ => by omega⟩
theorem goes_block (T : Src) : ∀ f, (∀ d s, Goes8 T 1 s (block T f d s).2) ∧ (∀ d l s, Goes8 T 1 s (stmL T f d l s).2) ∧ (∀ d s, StG T s (stm T f d s).2)
  | 0 => ⟨fun _ _ => by rw [block]; exact Goes8.refl _ _ _, fun _ _ _ => by rw [stmL]; exact Goes8.refl _ _ _, fun _ s => by rw [stm]; exact ⟨Nat.le_refl _, id, fun _ => by simp, fun _ => by simp⟩⟩
  | f + 1 => by
    obtain ⟨hB, hL, hS⟩ := goes_block T f
    refine ⟨fun d s => ?_, fun d l s => ?_, fun d s => ?_⟩
    · rw [block]
      split
      · exact (g_bad T s 2).mono (by omega)
      · rename_i h
        have hi := is_lt (by simpa using h : T.is s.i [123] = true)
        split
        · exact g8_next hi ((g_bad T s.next 12).mono (by omega))
        · dsimp only
          exact g8_next hi (((hL (d + 1) [] s.next).trans (g_need T _ [125])).mono (by omega))
    · rw [stmL]
      split
      · exact Goes8.refl _ _ _
      · rename_i h
        have hi : s.i < T.l.length := by omega
        split
        · exact g_bad T s 5
        · dsimp only
          have g := hS d s
          have h1 := g.le
          have h2 := g.top
          have h3 := g.ds0
          have h4 := g.ds1
          split
          · rename_i he
            have g2 := hL d (l ++ [(stm T f d s).1]) (stm T f d s).2.next
            have k1 := g2.le
            have k2 := g2.top
            have k3 := g2.ds
            rw [next_i] at k1 k2 k3
            rw [next_ds] at k3
            have h5 := h3 he
            exact ⟨by omega, fun _ => k2 (by omega), by omega⟩
          · rename_i he
            have g2 := hL d (l ++ [(stm T f d s).1]) (stm T f d s).2
            have k1 := g2.le
            have k2 := g2.top
            have k3 := g2.ds
            have h5 := h4 (by omega)
            exact ⟨by omega, fun _ => k2 (by omega), by omega⟩
    · rw [stm]
      dsimp only
      have hlt : ∀ t : List UInt8, t ≠ [] → (T.tok s.i).text = t → s.i < T.l.length := fun t ht e => tok_lt (by rw [e]; exact ht)
      split
      · rename_i h
        refine stG_next (hlt _ (by simp) h) (k := 5) ?_ (by omega)
        have g1 := g_named T s.next
        have g2 : Goes8 T 1 (s.next.named T).2 (if (!T.is (s.next.named T).2.i [58]) = true then ((0 : Nat), (s.next.named T).2) else lab T (s.next.named T).2.next).2 := by
          split
          · exact Goes8.refl _ _ _
          · rename_i h5
            exact g8_next (is_lt (by simpa using h5 : T.is (s.next.named T).2.i [58] = true)) ((g_lab T _).mono (by omega))
        exact (((g1.trans g2).trans (g_need T _ _)).trans (g_expr T f d 1 _)).trans (g_need T _ _)
      · split
        · rename_i h
          have g1 := (g_expr T f d 1 s.next).trans (hB d (expr T f d 1 s.next).2)
          split
          · rename_i h5
            refine stG_next (hlt _ (by simp) h) (k := 3) ?_ (by omega)
            exact g1.trans (g8_next (k := 1) (is_lt h5) ((hB d _).mono (by omega)))
          · exact stG_next (hlt _ (by simp) h) g1 (by omega)
        · split
          · rename_i h
            exact stG_next (hlt _ (by simp) h) ((g_expr T f d 1 s.next).trans (hB d (expr T f d 1 s.next).2)) (by omega)
          · split
            · rename_i h
              exact stG_next (hlt _ (by simp) h) (((g_named T s.next).trans (g_expr T f d 1 _)).trans (g_need T _ _)) (by omega)
            · split
              · rename_i h
                exact stG_next (hlt _ (by simp) h) ((g_expr T f d 1 s.next).trans (g_need T _ _)) (by omega)
              · split
                · rename_i h
                  have hi := tok_lt (name_ne h)
                  split
                  · rename_i h5
                    have h6 := is_lt h5
                    exact stG_next hi (g8_next (k := 0) h6 (((g_expr T f d 1 s.next.next).trans (g_need T _ [59])).mono (by omega))) (by omega)
                  · have g := ((goes_expr T f).2.2.1 d 1 s).trans (goes_need T (expr T f d 1 s).2 [59])
                    have h1 := g.le
                    have h2 := g.top
                    have h3 := g.ds
                    refine ⟨h1, h2, fun h => ?_, fun h => ?_⟩ <;> dsimp only at h ⊢ <;> omega
                · exact ⟨Nat.le_refl _, id, fun _ => by simp [St.bad], fun h => by simp [St.bad] at h⟩
end Go.Sp
end
section
namespace Go.Sp
def piece (s : List UInt8) (cs : List Nat) (i : Nat) : List UInt8 := (s.drop (cs.getD i 0)).take (cs.getD (i + 1) s.length - cs.getD i 0)
def itemAt (s : List UInt8) (cs : List Nat) (i : Nat) : Itm := item (piece s cs i) (cs.getD i 0)
def items (s : List UInt8) (cs : List Nat) : List Itm := (List.range cs.length).map (itemAt s cs)
def fileErr (s : List UInt8) : Nat := if s.length > 4000 then 4 else if (cuts s).length > 30 then 5 else 0
def fileItems (s : List UInt8) : List Itm := if fileErr s = 0 then items s (cuts s) else []

theorem cuts_sub (s : List UInt8) : ∀ (l : List Tok) (acc : List Nat), ∃ r, l.foldl (cutStep s) acc = acc ++ r ∧ r.Sublist (l.map (·.pos))
  | [], acc => ⟨[], by simp, by simp⟩
  | t :: l, acc => by
    rw [List.foldl_cons, cutStep]
    split
    · obtain ⟨r, h1, h2⟩ := cuts_sub s l (acc ++ [t.pos])
      exact ⟨t.pos :: r, by rw [h1]; simp, by rw [List.map_cons]; exact h2.cons_cons _⟩
    · obtain ⟨r, h1, h2⟩ := cuts_sub s l acc
      exact ⟨r, h1, by rw [List.map_cons]; exact h2.cons _⟩
theorem cuts_sorted (s : List UInt8) : (cuts s).Pairwise (· < ·) ∧ ∀ x ∈ cuts s, x < s.length := by
  obtain ⟨r, h1, h2⟩ := cuts_sub s (tokens s) []
  have e : cuts s = r := by rw [cuts, h1]; simp
  rw [e]
  refine ⟨List.Pairwise.sublist h2 ?_, fun x hx => ?_⟩
  · rw [List.pairwise_map]
    have h3 := tokens_sorted s
    rw [List.pairwise_iff_getElem] at h3 ⊢
    intro i j hi hj hij
    have h4 := h3 i j hi hj hij
    have h5 := (tokens_ok s _ (List.getElem_mem hi)).len
    omega
  · have := h2.subset hx
    obtain ⟨t, ht, rfl⟩ := List.mem_map.1 this
    exact (tokens_ok s t ht).pos
theorem cuts_at (s : List UInt8) {i : Nat} (h : i < (cuts s).length) : (cuts s).getD i 0 < (cuts s).getD (i + 1) s.length ∧ (cuts s).getD (i + 1) s.length ≤ s.length := by
  obtain ⟨h1, h2⟩ := cuts_sorted s
  have e1 : (cuts s).getD i 0 = (cuts s)[i] := by rw [List.getD_eq_getElem?_getD, List.getElem?_eq_getElem h]; rfl
  have h3 := h2 _ (List.getElem_mem h)
  rw [e1]
  rcases Nat.lt_or_ge (i + 1) (cuts s).length with h4 | h4
  · have e2 : (cuts s).getD (i + 1) s.length = (cuts s)[i + 1] := by rw [List.getD_eq_getElem?_getD, List.getElem?_eq_getElem h4]; rfl
    rw [e2]
    exact ⟨List.pairwise_iff_getElem.1 h1 i (i + 1) h h4 (by omega), Nat.le_of_lt (h2 _ (List.getElem_mem h4))⟩
  · have e2 : (cuts s).getD (i + 1) s.length = s.length := by rw [List.getD_eq_getElem?_getD, List.getElem?_eq_none h4]; rfl
    rw [e2]
    exact ⟨h3, Nat.le_refl _⟩
theorem items_snoc (s : List UInt8) (cs : List Nat) (k : Nat) : (List.range (k + 1)).map (itemAt s cs) = (List.range k).map (itemAt s cs) ++ [itemAt s cs k] := by
  rw [List.range_succ, List.map_append]; rfl
end Go.Sp
end
section
namespace Go.Sp
def Ex.kind : Ex → Nat
  | .mk k _ _ _ _ _ => k
def Ex.name : Ex → List UInt8
  | .mk _ n _ _ _ _ => n
def Ex.n : Ex → Nat
  | .mk _ _ n _ _ _ => n
def Ex.args : Ex → List Ex
  | .mk _ _ _ a _ _ => a
def Stm.kind : Stm → Nat
  | .mk k _ _ _ _ _ _ _ _ _ => k
def Stm.name : Stm → List UInt8
  | .mk _ n _ _ _ _ _ _ _ _ => n
def Stm.at_ : Stm → Nat
  | .mk _ _ a _ _ _ _ _ _ _ => a
def Stm.label : Stm → Nat
  | .mk _ _ _ l _ _ _ _ _ _ => l
def Stm.opn : Stm → Bool
  | .mk _ _ _ _ o _ _ _ _ _ => o
def Stm.e : Stm → Ex
  | .mk _ _ _ _ _ e _ _ _ _ => e
def Stm.thn : Stm → List Stm
  | .mk _ _ _ _ _ _ t _ _ _ => t
def Stm.els : Stm → List Stm
  | .mk _ _ _ _ _ _ _ e _ _ => e
def Stm.fr : Stm → Nat
  | .mk _ _ _ _ _ _ _ _ f _ => f
def Stm.to : Stm → Nat
  | .mk _ _ _ _ _ _ _ _ _ t => t
def itemQ (T : Src) (at_ : Int) (size : Nat) : Itm × St :=
  if T.is 0 [102, 110] = true then fnItm T at_ size ⟨1, []⟩ else if T.is 0 [99, 104, 97, 110] = true then chItm T at_ size ⟨1, []⟩ else
    (⟨3, [], 0, [], [], [], at_, size, 0, []⟩, { ((⟨0, []⟩ : St).bad T 2) with i := T.l.length })
def itemT (T : Src) (q : Itm × St) : Itm := { q.1 with diags := (if q.2.i < T.l.length then q.2.bad T 2 else q.2).ds }
theorem item_eq (src : List UInt8) (at_ : Int) : item src at_ = itemT ⟨tokens src, src.length⟩ (itemQ ⟨tokens src, src.length⟩ at_ src.length) := rfl
end Go.Sp
end
