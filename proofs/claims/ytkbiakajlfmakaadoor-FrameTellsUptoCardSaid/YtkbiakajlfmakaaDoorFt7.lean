/- Own work: texts SpecLabel, Spec, SpecLex, SpecCuts, SpecParse, SpecParse2, SpecParse3, SpecFile, SpecTree, TreeM, SpecFrame, SpecFrame2, SpecFrame3, SpecFrame4, one behind the other. -/
import Derived.Test.YtkbiakajlfmakaaDoorFt6
import Derived.Lib.AtoiAll
import Derived.Lib.ItoaNum
import Derived.Lib.ItoaLen
section
namespace Go.Sp
def bit (n k : Nat) : Bool := decide (n / 2 ^ k % 2 = 1)
end Go.Sp
end
section
namespace Go.Sp
def isLetter (c : UInt8) : Bool := (decide (97 ≤ c.toNat) && decide (c.toNat ≤ 122)) || (decide (65 ≤ c.toNat) && decide (c.toNat ≤ 90)) || decide (c.toNat = 95)
def isDigit (c : UInt8) : Bool := decide (48 ≤ c.toNat) && decide (c.toNat ≤ 57)
def isBlank (c : UInt8) : Bool := decide (c.toNat = 32) || decide (c.toNat = 10) || decide (c.toNat = 9)
def signs : List UInt8 := [40, 41, 123, 125, 44, 58, 59, 61, 43, 45, 42, 60]
def isSign (c : UInt8) : Bool := signs.any (fun x => decide (x = c))
def isWord (c : UInt8) : Bool := isLetter c || isDigit c
def noLine (c : UInt8) : Bool := decide (c.toNat ≠ 10)

/-- one, and those behind it for which 'F' holds. -/
def run (F : UInt8 → Bool) (r : List UInt8) : Nat := 1 + (r.takeWhile F).length

def one : List UInt8 → Nat × Nat
  | [] => (4, 1)
  | c :: r =>
    if isBlank c then (0, run isBlank r) else
    if c.toNat = 35 then (0, run noLine r) else
    if isLetter c then (1, run isWord r) else
    if isDigit c then (2, run isDigit r) else
    if isSign c then (3, 1) else (4, 1)

structure Tok where
  kind : Nat
  text : List UInt8
  pos : Nat
  deriving DecidableEq

/-! the reference's way: state by state -/
def ownWords : List (List UInt8) := [[102, 110], [99, 104, 97, 110], [108, 101, 116], [105, 102], [101, 108, 115, 101], [119, 104, 105, 108, 101], [115, 101, 110, 100], [114, 101, 116, 117, 114, 110], [115, 101, 110, 100, 115]]
def word (s : List UInt8) : Bool := decide (1 ≤ s.length) && decide (s.length ≤ 12) && isLetter (s.getD 0 0) && s.all isWord
def name (s : List UInt8) : Bool := !(ownWords.any (fun w => decide (s = w))) && word s
end Go.Sp
end
section
namespace Go.Sp

/-- how far 'F' goes from a place on. -/
def ext (F : UInt8 → Bool) (s : List UInt8) (k : Nat) : List UInt8 := (s.drop k).takeWhile F
end Go.Sp
end
section
namespace Go.Sp

structure TokOk (s : List UInt8) (t : Tok) : Prop where
  pos : t.pos < s.length
  len : 1 ≤ t.text.length
  fit : t.pos + t.text.length ≤ s.length
  text : t.text = (s.drop t.pos).take t.text.length
  one : t.kind = (one (s.drop t.pos)).1 ∧ t.text.length = (one (s.drop t.pos)).2
  kind : 1 ≤ t.kind ∧ t.kind ≤ 4
end Go.Sp
end
section
namespace Go.Sp
/-- an expression. -/
inductive Ex where
  | mk (kind : Nat) (name : List UInt8) (n : Nat) (args : List Ex) (fr to : Nat)
/-- a statement. -/
inductive Stm where
  | mk (kind : Nat) (name : List UInt8) (at_ label : Nat) (opn : Bool) (e : Ex) (thn els : List Stm) (fr to : Nat)
structure Par where
  name : List UInt8
  label : Nat
  at_ : Nat
structure Rf where
  name : List UInt8
  at_ : Nat
structure Dg where
  fr : Nat
  to : Nat
  err : Nat
  name : List UInt8
structure Itm where
  kind : Nat
  name : List UInt8
  label : Nat
  params : List Par
  sends : List Rf
  body : List Stm
  at_ : Int
  size : Nat
  mark : Nat
  diags : List Dg
instance : Inhabited Ex := ⟨.mk 0 [] 0 [] 0 0⟩
instance : Inhabited Stm := ⟨.mk 0 [] 0 0 false default [] [] 0 0⟩
def Ex.fr : Ex → Nat
  | .mk _ _ _ _ f _ => f
def Ex.to : Ex → Nat
  | .mk _ _ _ _ _ t => t

/-- what is read: its tokens, its size. -/
structure Src where
  l : List Tok
  size : Nat
structure St where
  i : Nat
  ds : List Dg
def Src.tok (T : Src) (i : Nat) : Tok := T.l.getD i ⟨0, [], T.size⟩
def Src.is (T : Src) (i : Nat) (w : List UInt8) : Bool := decide (i < T.l.length) && decide ((T.tok i).text = w)
def Src.endOf (T : Src) (i : Nat) : Nat := if i = 0 then 0 else (T.tok (i - 1)).pos + (T.tok (i - 1)).text.length
def St.bad (T : Src) (s : St) (e : Nat) : St := { s with ds := s.ds ++ [⟨(T.tok s.i).pos, (T.tok s.i).pos + (T.tok s.i).text.length, e, (T.tok s.i).text⟩] }
def St.next (s : St) : St := { s with i := s.i + 1 }
def St.need (T : Src) (s : St) (w : List UInt8) : Bool × St := if T.is s.i w then (true, s.next) else (false, s.bad T 2)
def St.named (T : Src) (s : St) : List UInt8 × St :=
  if name (T.tok s.i).text then ((T.tok s.i).text, s.next) else
  if (T.tok s.i).kind = 1 then ([], (s.bad T 7).next) else ([], s.bad T 2)
def tagB (t : List UInt8) : Bool := decide (t.length = 1) && (decide (97 ≤ (t.getD 0 0).toNat) && decide ((t.getD 0 0).toNat ≤ 104))
/-- a label's tags, from 'n' on. -/
def labL (T : Src) : Nat → Nat → St → Nat × St
  | 0, n, s => (n, s)
  | f + 1, n, s =>
    if T.is s.i [125] then (n, s.next) else
    let t := (T.tok s.i).text
    if !tagB t then (n, s.bad T 2) else
    let q := (t.getD 0 0).toNat - 97
    let s1 := if bit n q then s.bad T 7 else s
    let n1 := if bit n q then n else n + 2 ^ q
    let s2 := s1.next
    if T.is s2.i [125] then labL T f n1 s2 else
    if T.is s2.i [44] then labL T f n1 s2.next else (n1, s2.bad T 2)
def lab (T : Src) (s : St) : Nat × St :=
  if T.is s.i [123] then labL T (T.l.length + 1) 0 s.next else (0, s.bad T 2)
def tight (t : List UInt8) : Nat :=
  if t = [61] ∨ t = [60] then 1 else if t = [43] ∨ t = [45] then 2 else if t = [42] then 3 else 0
def none_ (T : Src) (s : St) (e : Nat) : Ex × St := (.mk 5 [] 0 [] (T.tok s.i).pos (T.tok s.i).pos, s.bad T e)
/-- digits' value; more than a thousand millions is all the same. -/
def digits (t : List UInt8) : Nat := t.foldl (fun n c => if n ≤ 1000000000 then 10 * n + (c.toNat - 48) else n) 0
mutual
def atom (T : Src) : Nat → Nat → St → Ex × St
  | 0, _, s => (default, s)
  | f + 1, d, s =>
    let t := T.tok s.i
    if T.l.length ≤ s.i then none_ T s 2 else
    if 12 ≤ d then none_ T s 12 else
    if t.kind = 2 then
      if 1000000000 < digits t.text then (.mk 1 [] 0 [] t.pos (t.pos + t.text.length), (s.bad T 3).next)
      else (.mk 1 [] (digits t.text) [] t.pos (t.pos + t.text.length), s.next) else
    if t.text = [40] then
      let r := expr T f (d + 1) 1 s.next
      (r.1, (r.2.need T [41]).2) else
    if !name t.text then none_ T s 2 else
    if !T.is (s.i + 1) [40] then (.mk 2 t.text 0 [] t.pos (t.pos + t.text.length), s.next) else
    let r := argL T f (d + 1) [] s.next.next
    let s2 := (r.2.need T [41]).2
    (.mk 4 t.text 0 r.1 t.pos (T.endOf s2.i), s2)
def argL (T : Src) : Nat → Nat → List Ex → St → List Ex × St
  | 0, _, l, s => (l, s)
  | f + 1, d, l, s =>
    if T.l.length ≤ s.i ∨ T.is s.i [41] then (l, s) else
    if l.length = 5 then (l, s.bad T 5) else
    let r := expr T f d 1 s
    if T.is r.2.i [44] then argL T f d (l ++ [r.1]) r.2.next else (l ++ [r.1], r.2)
def expr (T : Src) : Nat → Nat → Nat → St → Ex × St
  | 0, _, _, s => (default, s)
  | f + 1, d, least, s =>
    let r := atom T f d s
    opL T f d least r.1 r.2
def opL (T : Src) : Nat → Nat → Nat → Ex → St → Ex × St
  | 0, _, _, e, s => (e, s)
  | f + 1, d, least, e, s =>
    let op := (T.tok s.i).text
    if tight op < least ∨ tight op = 0 then (e, s) else
    let r := expr T f d (tight op + 1) s.next
    opL T f d least (.mk 3 op 0 [e, r.1] e.fr (max r.1.to e.to)) r.2
 end
mutual
def block (T : Src) : Nat → Nat → St → List Stm × St
  | 0, _, s => ([], s)
  | f + 1, d, s =>
    if !T.is s.i [123] then ([], s.bad T 2) else
    if 12 ≤ d then ([], s.next.bad T 12) else
    let r := stmL T f (d + 1) [] s.next
    (r.1, (r.2.need T [125]).2)
def stmL (T : Src) : Nat → Nat → List Stm → St → List Stm × St
  | 0, _, l, s => (l, s)
  | f + 1, d, l, s =>
    if T.l.length ≤ s.i ∨ T.is s.i [125] then (l, s) else
    if 40 ≤ l.length then (l, s.bad T 5) else
    let r := stm T f d s
    stmL T f d (l ++ [r.1]) (if r.2.i = s.i then r.2.next else r.2)
def stm (T : Src) : Nat → Nat → St → Stm × St
  | 0, _, s => (default, s)
  | f + 1, d, s =>
    let t := T.tok s.i
    let fr := t.pos
    let fin (s : St) : Nat := max (T.endOf s.i) fr
    if t.text = [108, 101, 116] then
      let a := (T.tok (s.i + 1)).pos
      let r := s.next.named T
      let opn := !T.is r.2.i [58]
      let r1 := if opn then (0, r.2) else lab T r.2.next
      let s2 := (r1.2.need T [61]).2
      let r2 := expr T f d 1 s2
      let s3 := (r2.2.need T [59]).2
      (.mk 1 r.1 a r1.1 opn r2.1 [] [] fr (fin s3), s3) else
    if t.text = [105, 102] then
      let r := expr T f d 1 s.next
      let r1 := block T f d r.2
      if T.is r1.2.i [101, 108, 115, 101] then
        let r2 := block T f d r1.2.next
        (.mk 3 [] 0 0 false r.1 r1.1 r2.1 fr (fin r2.2), r2.2)
      else (.mk 3 [] 0 0 false r.1 r1.1 [] fr (fin r1.2), r1.2) else
    if t.text = [119, 104, 105, 108, 101] then
      let r := expr T f d 1 s.next
      let r1 := block T f d r.2
      (.mk 4 [] 0 0 false r.1 r1.1 [] fr (fin r1.2), r1.2) else
    if t.text = [115, 101, 110, 100] then
      let a := (T.tok (s.i + 1)).pos
      let r := s.next.named T
      let r2 := expr T f d 1 r.2
      let s3 := (r2.2.need T [59]).2
      (.mk 5 r.1 a 0 false r2.1 [] [] fr (fin s3), s3) else
    if t.text = [114, 101, 116, 117, 114, 110] then
      let r2 := expr T f d 1 s.next
      let s3 := (r2.2.need T [59]).2
      (.mk 6 [] 0 0 false r2.1 [] [] fr (fin s3), s3) else
    if name t.text then
      if T.is (s.i + 1) [61] then
        let r2 := expr T f d 1 s.next.next
        let s3 := (r2.2.need T [59]).2
        (.mk 2 t.text fr 0 false r2.1 [] [] fr (fin s3), s3)
      else
        let r2 := expr T f d 1 s
        let s3 := (r2.2.need T [59]).2
        (.mk 7 [] 0 0 false r2.1 [] [] fr (fin s3), s3) else
    (.mk 8 [] 0 0 false default [] [] fr (fin (s.bad T 2)), s.bad T 2)
 end
/-- enough steps for any of a text's. -/
def fuel (T : Src) : Nat := 8 * T.l.length + 64
end Go.Sp
end
section
namespace Go.Sp
/-- from 's' to 'r': on, not past the end, told 2 a token and 'k' more at most. -/
structure Goes (T : Src) (k : Nat) (s r : St) : Prop where
  le : s.i ≤ r.i
  top : s.i ≤ T.l.length → r.i ≤ T.l.length
  ds : r.ds.length + 2 * s.i ≤ s.ds.length + 2 * r.i + k
theorem Goes.refl (T : Src) (k : Nat) (s : St) : Goes T k s s := ⟨Nat.le_refl _, id, by omega⟩
theorem Goes.mono {T : Src} {k k' : Nat} {s r : St} (h : Goes T k s r) (hk : k ≤ k') : Goes T k' s r := ⟨h.le, h.top, by have := h.ds; omega⟩
theorem Goes.trans {T : Src} {k k' : Nat} {s r t : St} (h : Goes T k s r) (g : Goes T k' r t) : Goes T (k + k') s t :=
  ⟨Nat.le_trans h.le g.le, fun x => g.top (h.top x), by have := h.ds; have := g.ds; omega⟩
end Go.Sp
end
section
namespace Go.Sp
structure Goes8 (T : Src) (k : Nat) (s r : St) : Prop where
  le : s.i ≤ r.i
  top : s.i ≤ T.l.length → r.i ≤ T.l.length
  ds : r.ds.length + 8 * s.i ≤ s.ds.length + 8 * r.i + k
theorem Goes8.trans {T : Src} {k k' : Nat} {s r t : St} (h : Goes8 T k s r) (g : Goes8 T k' r t) : Goes8 T (k + k') s t :=
  ⟨Nat.le_trans h.le g.le, fun x => g.top (h.top x), by have := h.ds; have := g.ds; omega⟩
theorem Goes8.mono {T : Src} {k k' : Nat} {s r : St} (h : Goes8 T k s r) (hk : k ≤ k') : Goes8 T k' s r := ⟨h.le, h.top, by have := h.ds; omega⟩
theorem Goes8.refl (T : Src) (k : Nat) (s : St) : Goes8 T k s s := ⟨Nat.le_refl _, id, by omega⟩
/-- a statement: it goes on, or little is told. -/
structure StG (T : Src) (s r : St) : Prop where
  le : s.i ≤ r.i
  top : s.i ≤ T.l.length → r.i ≤ T.l.length
  ds0 : r.i = s.i → r.ds.length ≤ s.ds.length + 2
  ds1 : s.i < r.i → r.ds.length + 8 * s.i ≤ s.ds.length + 8 * r.i
end Go.Sp
end
section
namespace Go.Sp
end Go.Sp
end
section
namespace Go.Sp
def Ex.kind : Ex → Nat
  | .mk k _ _ _ _ _ => k
def Ex.name : Ex → List UInt8
  | .mk _ n _ _ _ _ => n
def Ex.n : Ex → Nat
  | .mk _ _ n _ _ _ => n
def Ex.args : Ex → List Ex
  | .mk _ _ _ a _ _ => a
def Stm.kind : Stm → Nat
  | .mk k _ _ _ _ _ _ _ _ _ => k
def Stm.name : Stm → List UInt8
  | .mk _ n _ _ _ _ _ _ _ _ => n
def Stm.at_ : Stm → Nat
  | .mk _ _ a _ _ _ _ _ _ _ => a
def Stm.label : Stm → Nat
  | .mk _ _ _ l _ _ _ _ _ _ => l
def Stm.opn : Stm → Bool
  | .mk _ _ _ _ o _ _ _ _ _ => o
def Stm.e : Stm → Ex
  | .mk _ _ _ _ _ e _ _ _ _ => e
def Stm.thn : Stm → List Stm
  | .mk _ _ _ _ _ _ t _ _ _ => t
def Stm.els : Stm → List Stm
  | .mk _ _ _ _ _ _ _ e _ _ => e
def Stm.fr : Stm → Nat
  | .mk _ _ _ _ _ _ _ _ f _ => f
def Stm.to : Stm → Nat
  | .mk _ _ _ _ _ _ _ _ _ t => t
end Go.Sp
end
section
namespace Go.Proofs.YtkbiakajlfmakaaDoor
open Go.Fw
abbrev ptr (b : Nat) : Value := .pointer (some ⟨b, 0, none⟩)
abbrev nt (n : Nat) : Value := .int .i64 (n : Int)
mutual
/-- an expression's cells. -/
def ExAt (I : Imm) : Sp.Ex → List Value → Prop
  | .mk k nm n args f t, cs => ∃ a cap xs, cs = [nt k, str nm, nt n, .slice a args.length cap, nt f, nt t] ∧ RowI I 120 6 (.slice a args.length cap) args.length xs ∧ ExsAt I args xs
def ExsAt (I : Imm) : List Sp.Ex → List Value → Prop
  | [], xs => xs = []
  | e :: es, xs => ∃ c r, xs = c ++ r ∧ ExAt I e c ∧ ExsAt I es r
 end
mutual
theorem ExAt.le {I I' : Imm} (m : Le I I') : ∀ (e : Sp.Ex) (cs : List Value), ExAt I e cs → ExAt I' e cs
  | .mk k nm n args f t, cs, h => by
    rw [ExAt] at h ⊢
    obtain ⟨a, cap, xs, h1, h2, h3⟩ := h
    exact ⟨a, cap, xs, h1, h2.le m, ExsAt.le m _ _ h3⟩
theorem ExsAt.le {I I' : Imm} (m : Le I I') : ∀ (es : List Sp.Ex) (xs : List Value), ExsAt I es xs → ExsAt I' es xs
  | [], xs, h => by rw [ExsAt] at h ⊢; exact h
  | e :: es, xs, h => by
    rw [ExsAt] at h ⊢
    obtain ⟨c, r, h1, h2, h3⟩ := h
    exact ⟨c, r, h1, ExAt.le m _ _ h2, ExsAt.le m _ _ h3⟩
 end
theorem ExAt.out {I : Imm} {e : Sp.Ex} {cs : List Value} (h : ExAt I e cs) :
    ∃ a cap xs, cs = [nt e.kind, str e.name, nt e.n, .slice a e.args.length cap, nt e.fr, nt e.to] ∧ RowI I 120 6 (.slice a e.args.length cap) e.args.length xs ∧ ExsAt I e.args xs := by
  cases e with
  | mk k nm n args f t => rw [ExAt] at h; exact h
theorem ExAt.of {I : Imm} {k n f t cap : Nat} {nm : List UInt8} {a : Option Addr} {args : List Sp.Ex} {xs : List Value} (h2 : RowI I 120 6 (.slice a args.length cap) args.length xs) (h3 : ExsAt I args xs) :
    ExAt I (.mk k nm n args f t) [nt k, str nm, nt n, .slice a args.length cap, nt f, nt t] := by
  rw [ExAt]; exact ⟨a, cap, xs, rfl, h2, h3⟩
theorem ExAt.len {I : Imm} {e : Sp.Ex} {cs : List Value} (h : ExAt I e cs) : cs.length = 6 := by
  obtain ⟨_, _, _, rfl, _⟩ := h.out; rfl
theorem ExsAt.len {I : Imm} : ∀ {es : List Sp.Ex} {xs : List Value}, ExsAt I es xs → xs.length = es.length * 6
  | [], xs, h => by rw [ExsAt] at h; simp [h]
  | e :: es, xs, h => by
    rw [ExsAt] at h
    obtain ⟨c, r, rfl, h2, h3⟩ := h
    rw [List.length_append, h2.len, h3.len, List.length_cons, Nat.add_mul]; omega
theorem ExsAt.nil {I : Imm} : ExsAt I [] [] := by rw [ExsAt]
theorem ExsAt.snoc {I : Imm} : ∀ {es : List Sp.Ex} {xs c : List Value} {e : Sp.Ex}, ExsAt I es xs → ExAt I e c → ExsAt I (es ++ [e]) (xs ++ c)
  | [], xs, c, e, h, he => by
    rw [ExsAt] at h
    subst h
    rw [List.nil_append, List.nil_append, ExsAt]
    exact ⟨c, [], by simp, he, by rw [ExsAt]⟩
  | a :: es, xs, c, e, h, he => by
    rw [ExsAt] at h
    obtain ⟨c1, r, rfl, h2, h3⟩ := h
    rw [List.cons_append, ExsAt]
    exact ⟨c1, r ++ c, by rw [List.append_assoc], h2, h3.snoc he⟩
theorem ExsAt.get {I : Imm} : ∀ {es : List Sp.Ex} {xs : List Value} {i : Nat} {e : Sp.Ex}, ExsAt I es xs → es[i]? = some e → ExAt I e ((xs.drop (i * 6)).take 6)
  | [], _, _, _, _, he => by simp at he
  | a :: es, xs, 0, e, h, he => by
    rw [ExsAt] at h
    obtain ⟨c, r, rfl, h2, h3⟩ := h
    simp only [List.getElem?_cons_zero, Option.some.injEq] at he
    subst he
    rw [Nat.zero_mul, List.drop_zero, List.take_append_of_le_length (by rw [h2.len]; omega), List.take_of_length_le (by rw [h2.len]; omega)]
    exact h2
  | a :: es, xs, i + 1, e, h, he => by
    rw [ExsAt] at h
    obtain ⟨c, r, rfl, h2, h3⟩ := h
    rw [List.getElem?_cons_succ] at he
    have := h3.get he
    rw [List.drop_append, List.drop_of_length_le (by rw [h2.len]; omega), List.nil_append, h2.len, show (i + 1) * 6 - 6 = i * 6 by omega]
    exact this
end Go.Proofs.YtkbiakajlfmakaaDoor
namespace Go.Proofs.YtkbiakajlfmakaaDoor
open Go.Fw
abbrev stCells (k : Nat) (nm : List UInt8) (a lb : Nat) (o : Bool) (e : Sp.Ex) (ea : Option Addr) (ec : Nat) (v1 v2 : Value) (f t : Nat) : List Value :=
  [nt k, str nm, nt a, nt lb, .bool o, nt e.kind, str e.name, nt e.n, .slice ea e.args.length ec, nt e.fr, nt e.to, v1, v2, nt f, nt t]
mutual
/-- a statement's cells. -/
def StAt (I : Imm) : Sp.Stm → List Value → Prop
  | .mk k nm a lb o e thn els f t, cs => ∃ ea ec ex a1 c1 xs1 a2 c2 xs2, cs = stCells k nm a lb o e ea ec (.slice a1 thn.length c1) (.slice a2 els.length c2) f t ∧
    RowI I 120 6 (.slice ea e.args.length ec) e.args.length ex ∧ ExsAt I e.args ex ∧
    RowI I 122 15 (.slice a1 thn.length c1) thn.length xs1 ∧ StsAt I thn xs1 ∧ RowI I 122 15 (.slice a2 els.length c2) els.length xs2 ∧ StsAt I els xs2
def StsAt (I : Imm) : List Sp.Stm → List Value → Prop
  | [], xs => xs = []
  | e :: es, xs => ∃ c r, xs = c ++ r ∧ StAt I e c ∧ StsAt I es r
 end
mutual
theorem StAt.le {I I' : Imm} (m : Le I I') : ∀ (e : Sp.Stm) (cs : List Value), StAt I e cs → StAt I' e cs
  | .mk k nm a lb o e thn els f t, cs, h => by
    rw [StAt] at h ⊢
    obtain ⟨ea, ec, ex, a1, c1, xs1, a2, c2, xs2, h1, h2, h3, h4, h5, h6, h7⟩ := h
    exact ⟨ea, ec, ex, a1, c1, xs1, a2, c2, xs2, h1, h2.le m, ExsAt.le m _ _ h3, h4.le m, StsAt.le m _ _ h5, h6.le m, StsAt.le m _ _ h7⟩
theorem StsAt.le {I I' : Imm} (m : Le I I') : ∀ (es : List Sp.Stm) (xs : List Value), StsAt I es xs → StsAt I' es xs
  | [], xs, h => by rw [StsAt] at h ⊢; exact h
  | e :: es, xs, h => by
    rw [StsAt] at h ⊢
    obtain ⟨c, r, h1, h2, h3⟩ := h
    exact ⟨c, r, h1, StAt.le m _ _ h2, StsAt.le m _ _ h3⟩
 end
theorem StAt.out {I : Imm} {s : Sp.Stm} {cs : List Value} (h : StAt I s cs) : ∃ ea ec ex a1 c1 xs1 a2 c2 xs2, cs = stCells s.kind s.name s.at_ s.label s.opn s.e ea ec (.slice a1 s.thn.length c1) (.slice a2 s.els.length c2) s.fr s.to ∧
    RowI I 120 6 (.slice ea s.e.args.length ec) s.e.args.length ex ∧ ExsAt I s.e.args ex ∧
    RowI I 122 15 (.slice a1 s.thn.length c1) s.thn.length xs1 ∧ StsAt I s.thn xs1 ∧ RowI I 122 15 (.slice a2 s.els.length c2) s.els.length xs2 ∧ StsAt I s.els xs2 := by
  cases s with
  | mk k nm a lb o e thn els f t => rw [StAt] at h; exact h
theorem StAt.of {I : Imm} {k a lb f t ec c1 c2 : Nat} {nm : List UInt8} {o : Bool} {e : Sp.Ex} {thn els : List Sp.Stm} {ea a1 a2 : Option Addr} {ex xs1 xs2 : List Value}
    (h2 : RowI I 120 6 (.slice ea e.args.length ec) e.args.length ex) (h3 : ExsAt I e.args ex)
    (h4 : RowI I 122 15 (.slice a1 thn.length c1) thn.length xs1) (h5 : StsAt I thn xs1) (h6 : RowI I 122 15 (.slice a2 els.length c2) els.length xs2) (h7 : StsAt I els xs2) :
    StAt I (.mk k nm a lb o e thn els f t) (stCells k nm a lb o e ea ec (.slice a1 thn.length c1) (.slice a2 els.length c2) f t) := by
  rw [StAt]; exact ⟨ea, ec, ex, a1, c1, xs1, a2, c2, xs2, rfl, h2, h3, h4, h5, h6, h7⟩
theorem StAt.len {I : Imm} {e : Sp.Stm} {cs : List Value} (h : StAt I e cs) : cs.length = 15 := by
  obtain ⟨_, _, _, _, _, _, _, _, _, rfl, _⟩ := h.out; rfl
theorem StsAt.len {I : Imm} : ∀ {es : List Sp.Stm} {xs : List Value}, StsAt I es xs → xs.length = es.length * 15
  | [], xs, h => by rw [StsAt] at h; simp [h]
  | e :: es, xs, h => by
    rw [StsAt] at h
    obtain ⟨c, r, rfl, h2, h3⟩ := h
    rw [List.length_append, h2.len, h3.len, List.length_cons, Nat.add_mul]; omega
theorem StsAt.nil {I : Imm} : StsAt I [] [] := by rw [StsAt]
theorem StsAt.snoc {I : Imm} : ∀ {es : List Sp.Stm} {xs c : List Value} {e : Sp.Stm}, StsAt I es xs → StAt I e c → StsAt I (es ++ [e]) (xs ++ c)
  | [], xs, c, e, h, he => by
    rw [StsAt] at h
    subst h
    rw [List.nil_append, List.nil_append, StsAt]
    exact ⟨c, [], by simp, he, by rw [StsAt]⟩
  | a :: es, xs, c, e, h, he => by
    rw [StsAt] at h
    obtain ⟨c1, r, rfl, h2, h3⟩ := h
    rw [List.cons_append, StsAt]
    exact ⟨c1, r ++ c, by rw [List.append_assoc], h2, h3.snoc he⟩
theorem StsAt.get {I : Imm} : ∀ {es : List Sp.Stm} {xs : List Value} {i : Nat} {e : Sp.Stm}, StsAt I es xs → es[i]? = some e → StAt I e ((xs.drop (i * 15)).take 15)
  | [], _, _, _, _, he => by simp at he
  | a :: es, xs, 0, e, h, he => by
    rw [StsAt] at h
    obtain ⟨c, r, rfl, h2, h3⟩ := h
    simp only [List.getElem?_cons_zero, Option.some.injEq] at he
    subst he
    rw [Nat.zero_mul, List.drop_zero, List.take_append_of_le_length (by rw [h2.len]; omega), List.take_of_length_le (by rw [h2.len]; omega)]
    exact h2
  | a :: es, xs, i + 1, e, h, he => by
    rw [StsAt] at h
    obtain ⟨c, r, rfl, h2, h3⟩ := h
    rw [List.getElem?_cons_succ] at he
    have := h3.get he
    rw [List.drop_append, List.drop_of_length_le (by rw [h2.len]; omega), List.nil_append, h2.len, show (i + 1) * 15 - 15 = i * 15 by omega]
    exact this
abbrev encDg (d : Sp.Dg) : List Value := [nt d.fr, nt d.to, nt d.err, str d.name]
abbrev encPar (p : Sp.Par) : List Value := [str p.name, nt p.label, nt p.at_]
abbrev encRf (p : Sp.Rf) : List Value := [str p.name, nt p.at_]
abbrev itCells (k : Nat) (nm : List UInt8) (lb : Nat) (vp vs vb : Value) (a : Int) (sz mk : Nat) (vd : Value) : List Value := [nt k, str nm, nt lb, vp, vs, vb, .int .i64 a, nt sz, nt mk, vd]
/-- an item's cells. -/
def ItAt (I : Imm) (it : Sp.Itm) (cs : List Value) : Prop := ∃ ap cp as_ cs' ab cb ad cd xb, cs = itCells it.kind it.name it.label (.slice ap it.params.length cp) (.slice as_ it.sends.length cs') (.slice ab it.body.length cb) it.at_ it.size it.mark (.slice ad it.diags.length cd) ∧
  RowI I 60 3 (.slice ap it.params.length cp) it.params.length (it.params.flatMap encPar) ∧ RowI I 75 2 (.slice as_ it.sends.length cs') it.sends.length (it.sends.flatMap encRf) ∧
  RowI I 122 15 (.slice ab it.body.length cb) it.body.length xb ∧ StsAt I it.body xb ∧ RowI I 116 4 (.slice ad it.diags.length cd) it.diags.length (it.diags.flatMap encDg)
theorem ItAt.le {I I' : Imm} (m : Le I I') {it : Sp.Itm} {cs : List Value} (h : ItAt I it cs) : ItAt I' it cs := by
  obtain ⟨ap, cp, as_, cs', ab, cb, ad, cd, xb, h1, h2, h3, h4, h5, h6⟩ := h
  exact ⟨ap, cp, as_, cs', ab, cb, ad, cd, xb, h1, h2.le m, h3.le m, h4.le m, h5.le m, h6.le m⟩
theorem ItAt.len {I : Imm} {it : Sp.Itm} {cs : List Value} (h : ItAt I it cs) : cs.length = 10 := by
  obtain ⟨_, _, _, _, _, _, _, _, _, rfl, _⟩ := h; rfl
def ItsAt (I : Imm) : List Sp.Itm → List Value → Prop
  | [], xs => xs = []
  | e :: es, xs => ∃ c r, xs = c ++ r ∧ ItAt I e c ∧ ItsAt I es r
theorem ItsAt.le {I I' : Imm} (m : Le I I') : ∀ {es : List Sp.Itm} {xs : List Value}, ItsAt I es xs → ItsAt I' es xs
  | [], _, h => h
  | _ :: _, _, ⟨c, r, h1, h2, h3⟩ => ⟨c, r, h1, h2.le m, h3.le m⟩
theorem ItsAt.snoc {I : Imm} : ∀ {es : List Sp.Itm} {xs c : List Value} {e : Sp.Itm}, ItsAt I es xs → ItAt I e c → ItsAt I (es ++ [e]) (xs ++ c)
  | [], xs, c, e, h, he => by
    obtain rfl : xs = [] := h
    exact ⟨c, [], by simp, he, rfl⟩
  | a :: es, xs, c, e, ⟨c1, r, e1, h2, h3⟩, he => ⟨c1, r ++ c, by rw [e1, List.append_assoc], h2, h3.snoc he⟩
theorem ItsAt.get {I : Imm} : ∀ {es : List Sp.Itm} {xs : List Value} {i : Nat} {e : Sp.Itm}, ItsAt I es xs → es[i]? = some e → ItAt I e ((xs.drop (i * 10)).take 10)
  | [], _, _, _, _, he => by simp at he
  | a :: es, xs, 0, e, h, he => by
    obtain ⟨c, r, rfl, h2, h3⟩ := h
    simp only [List.getElem?_cons_zero, Option.some.injEq] at he
    subst he
    rw [Nat.zero_mul, List.drop_zero, List.take_append_of_le_length (by rw [h2.len]; omega), List.take_of_length_le (by rw [h2.len]; omega)]
    exact h2
  | a :: es, xs, i + 1, e, h, he => by
    obtain ⟨c, r, rfl, h2, h3⟩ := h
    rw [List.getElem?_cons_succ] at he
    have := h3.get he
    rw [List.drop_append, List.drop_of_length_le (by rw [h2.len]; omega), List.nil_append, h2.len, show (i + 1) * 10 - 10 = i * 10 by omega]
    exact this
theorem ItsAt.len {I : Imm} : ∀ {es : List Sp.Itm} {xs : List Value}, ItsAt I es xs → xs.length = es.length * 10
  | [], xs, h => by obtain rfl : xs = [] := h; rfl
  | e :: es, xs, ⟨c, r, e1, h2, h3⟩ => by
    rw [e1, List.length_append, h2.len, h3.len, List.length_cons, Nat.add_mul]; omega
end Go.Proofs.YtkbiakajlfmakaaDoor
end
section
namespace Go.Sp
open Go.Lib (atoiAll itoa decDigits parseUint10 parseMag)
/-- a question. -/
structure Qn where
  id : Int
  kind : Int
  fr : Int
  to : Int
  text : List UInt8
  args : List Int
def qErr (a : Qn) : Nat := if a.kind < 1 ∨ 9 < a.kind then 1 else if 5 < a.args.length then 5 else if 4000 < a.text.length then 4 else 0
/-- the number that is written so. -/
def canon (s : List UInt8) : Option Int := match atoiAll s with
  | .ok v => if itoa v = s then some v else none
  | _ => none
def fieldAt (b : List UInt8) (p : Nat) (e : UInt8) : List UInt8 := (b.drop p).takeWhile (· != e)
def numAt (b : List UInt8) (p : Nat) (e : UInt8) : Option (Int × Nat) :=
  if p + (fieldAt b p e).length < b.length then (canon (fieldAt b p e)).map fun v => (v, p + (fieldAt b p e).length + 1) else none
/-- a number more: it, where it ends, whether all went well. -/
def stepT (b : List UInt8) (p : Nat) (ok : Bool) (e : UInt8) : Int × Nat × Bool := match numAt b p e with
  | some (v, q) => (v, q, ok)
  | none => (0, p, false)
def numsT (b : List UInt8) : List UInt8 → Nat → Bool → List Int × Nat × Bool
  | [], p, ok => ([], p, ok)
  | e :: es, p, ok => ((stepT b p ok e).1 :: (numsT b es (stepT b p ok e).2.1 (stepT b p ok e).2.2).1, (numsT b es (stepT b p ok e).2.1 (stepT b p ok e).2.2).2)
def numsAt (b : List UInt8) : List UInt8 → Nat → Option (List Int × Nat)
  | [], p => some ([], p)
  | e :: es, p => match numAt b p e with
    | none => none
    | some (v, q) => match numsAt b es q with
      | none => none
      | some (vs, r) => some (v :: vs, r)
theorem numsT_false (b : List UInt8) : ∀ (es : List UInt8) (p : Nat), (numsT b es p false).2.2 = false
  | [], _ => rfl
  | e :: es, p => by
    rw [numsT]
    have : (stepT b p false e).2.2 = false := by rw [stepT]; split <;> rfl
    rw [this]
    exact numsT_false b es _
theorem numsT_some (b : List UInt8) : ∀ (es : List UInt8) (p : Nat) (r : List Int × Nat), numsAt b es p = some r → numsT b es p true = (r.1, r.2, true)
  | [], p, r, h => by rw [numsAt] at h; obtain rfl := Option.some.inj h; rfl
  | e :: es, p, r, h => by
    rw [numsAt] at h
    cases hn : numAt b p e with
    | none => rw [hn] at h; cases h
    | some x =>
      obtain ⟨v, q⟩ := x
      rw [hn] at h
      dsimp only at h
      cases hs : numsAt b es q with
      | none => rw [hs] at h; cases h
      | some y =>
        obtain ⟨vs, r'⟩ := y
        rw [hs] at h
        obtain rfl := Option.some.inj h
        have := numsT_some b es q _ hs
        rw [numsT, stepT, hn]
        dsimp only
        rw [this]
theorem numsT_none (b : List UInt8) : ∀ (es : List UInt8) (p : Nat), numsAt b es p = none → (numsT b es p true).2.2 = false
  | [], p, h => by rw [numsAt] at h; cases h
  | e :: es, p, h => by
    rw [numsAt] at h
    rw [numsT]
    cases hn : numAt b p e with
    | none =>
      have : (stepT b p true e).2.2 = false := by rw [stepT, hn]
      rw [this]
      exact numsT_false b es _
    | some x =>
      obtain ⟨v, q⟩ := x
      rw [hn] at h
      dsimp only at h
      rw [stepT, hn]
      dsimp only
      cases hs : numsAt b es q with
      | none => exact numsT_none b es q hs
      | some y => rw [hs] at h; cases h
theorem numsAt_len (b : List UInt8) : ∀ (es : List UInt8) (p : Nat) (r : List Int × Nat), numsAt b es p = some r → r.1.length = es.length
  | [], p, r, h => by rw [numsAt] at h; obtain rfl := Option.some.inj h; rfl
  | e :: es, p, r, h => by
    rw [numsAt] at h
    split at h
    · cases h
    · split at h
      · cases h
      · rename_i h2
        obtain rfl := Option.some.inj h
        have := numsAt_len b es _ _ h2
        simpa using this
theorem field_le (b : List UInt8) (p : Nat) (e : UInt8) : (fieldAt b p e).length ≤ b.length - p := by
  have := (List.takeWhile_prefix (p := (· != e)) (l := b.drop p)).length_le
  rwa [List.length_drop] at this
theorem numAt_le {b : List UInt8} {p : Nat} {e : UInt8} {r : Int × Nat} (h : numAt b p e = some r) : p < r.2 ∧ r.2 ≤ b.length := by
  rw [numAt] at h
  split at h
  · cases hc : canon (fieldAt b p e) with
    | none => rw [hc] at h; cases h
    | some v =>
      rw [hc] at h
      obtain rfl := Option.some.inj h
      dsimp only
      omega
  · cases h
theorem numsAt_le (b : List UInt8) : ∀ (es : List UInt8) (p : Nat) (r : List Int × Nat), p ≤ b.length → numsAt b es p = some r → p + es.length ≤ r.2 ∧ r.2 ≤ b.length
  | [], p, r, hp, h => by rw [numsAt] at h; obtain rfl := Option.some.inj h; simpa using hp
  | e :: es, p, r, hp, h => by
    rw [numsAt] at h
    split at h
    · cases h
    · rename_i h1
      split at h
      · cases h
      · rename_i h2
        obtain rfl := Option.some.inj h
        have a1 := numAt_le h1
        have a2 := numsAt_le b es _ _ a1.2 h2
        dsimp only at a1 a2 ⊢
        simp only [List.length_cons]
        omega
def hdr : List UInt8 := [32, 32, 32, 32, 32, 10]
/-- a question more: it, and where it ends; or what is wrong. -/
def oneAt (b : List UInt8) (p : Nat) : Except Nat (Qn × Nat) := match numsAt b hdr p with
  | some ([i, k, f, t, n, z], q) =>
    if n < 0 ∨ z < 0 then .error 2 else match numsAt b (List.replicate (min n.toNat 6) 10) q with
      | none => .error 2
      | some (us, r) => if z > (b.length : Int) - r then .error 2 else
          if qErr ⟨i, k, f, t, (b.drop r).take z.toNat, us⟩ ≠ 0 then .error (qErr ⟨i, k, f, t, (b.drop r).take z.toNat, us⟩) else .ok (⟨i, k, f, t, (b.drop r).take z.toNat, us⟩, r + z.toNat)
  | _ => .error 2
def asksF (b : List UInt8) : Nat → Nat → Except (Nat × Nat) (List Qn)
  | 0, _ => .ok []
  | m + 1, p => if p < b.length then match oneAt b p with
      | .error e => .error (e, p)
      | .ok (a, q) => match asksF b m q with
        | .error e => .error e
        | .ok l => .ok (a :: l)
    else .ok []
def asks (b : List UInt8) : Except (Nat × Nat) (List Qn) := asksF b b.length 0
end Go.Sp
end
section
namespace Go.Sp
theorem field_app {a : List UInt8} (b : List UInt8) {p : Nat} {e : UInt8} (h : p + (fieldAt a p e).length < a.length) : fieldAt (a ++ b) p e = fieldAt a p e := by
  rw [fieldAt, List.drop_append_of_le_length (by omega), List.takeWhile_append, if_neg]
  · rfl
  · have : (fieldAt a p e).length ≠ (a.drop p).length := by rw [List.length_drop]; omega
    exact this
theorem numAt_app {a : List UInt8} (b : List UInt8) {p : Nat} {e : UInt8} {r : Int × Nat} (h : numAt a p e = some r) : numAt (a ++ b) p e = some r := by
  rw [numAt] at h
  split at h
  · rename_i h1
    rw [numAt, field_app b h1, if_pos (by rw [List.length_append]; omega)]
    exact h
  · cases h
theorem numsAt_app {a : List UInt8} (b : List UInt8) : ∀ (es : List UInt8) (p : Nat) (r : List Int × Nat), numsAt a es p = some r → numsAt (a ++ b) es p = some r
  | [], p, r, h => h
  | e :: es, p, r, h => by
    rw [numsAt] at h ⊢
    cases hn : numAt a p e with
    | none => rw [hn] at h; cases h
    | some x =>
      rw [numAt_app b hn]
      rw [hn] at h
      dsimp only at h ⊢
      cases hs : numsAt a es x.2 with
      | none => rw [hs] at h; cases h
      | some y =>
        rw [numsAt_app b es _ _ hs]
        rw [hs] at h
        exact h
theorem oneAt_app {a : List UInt8} (b : List UInt8) {p : Nat} {x : Qn} {q : Nat} (hp : p ≤ a.length) (h : oneAt a p = .ok (x, q)) : oneAt (a ++ b) p = .ok (x, q) ∧ p < q ∧ q ≤ a.length := by
  unfold oneAt at h ⊢
  cases hn : numsAt a hdr p with
  | none => rw [hn] at h; cases h
  | some r =>
    obtain ⟨l, q1⟩ := r
    have hl := numsAt_len a hdr p _ hn
    have h1 := numsAt_le a hdr p _ hp hn
    rw [hn] at h
    rw [numsAt_app b hdr p _ hn]
    match l, hl with
    | [i, k, f, t, n, z], _ =>
      dsimp only at h h1 ⊢
      split at h
      · cases h
      · rename_i hneg
        rw [if_neg hneg]
        cases hs : numsAt a (List.replicate (min n.toNat 6) 10) q1 with
        | none => rw [hs] at h; cases h
        | some y =>
          obtain ⟨us, r⟩ := y
          have h2 := numsAt_le a _ q1 _ h1.2 hs
          rw [hs] at h
          rw [numsAt_app b _ q1 _ hs]
          dsimp only at h h2 ⊢
          have hdl : hdr.length = 6 := rfl
          split at h
          · cases h
          · rename_i hz
            rw [if_neg (by rw [List.length_append]; omega)]
            have e : ((a ++ b).drop r).take z.toNat = (a.drop r).take z.toNat := by
              rw [List.drop_append_of_le_length h2.2, List.take_append_of_le_length (by rw [List.length_drop]; omega)]
            rw [e]
            split at h
            · cases h
            · rename_i hq
              rw [if_neg hq]
              have := Except.ok.inj h
              obtain ⟨rfl, rfl⟩ := Prod.mk.inj this
              exact ⟨rfl, by omega, by omega⟩
theorem oneAt_le {b : List UInt8} {p : Nat} {x : Qn} {q : Nat} (hp : p ≤ b.length) (h : oneAt b p = .ok (x, q)) : p < q ∧ q ≤ b.length := by
  have := oneAt_app [] hp h
  exact ⟨this.2.1, this.2.2⟩
theorem asksF_fuel (b : List UInt8) : ∀ (m m' p : Nat), p ≤ b.length → b.length - p ≤ m → b.length - p ≤ m' → asksF b m p = asksF b m' p
  | 0, 0, p, _, _, _ => rfl
  | 0, m' + 1, p, hp, h, _ => by rw [asksF, asksF, if_neg (by omega)]
  | m + 1, 0, p, hp, _, h => by rw [asksF, asksF, if_neg (by omega)]
  | m + 1, m' + 1, p, hp, h, h' => by
    rw [asksF, asksF]
    by_cases hlt : p < b.length
    · rw [if_pos hlt, if_pos hlt]
      cases ho : oneAt b p with
      | error e => rfl
      | ok r =>
        obtain ⟨x, q⟩ := r
        have := oneAt_le hp ho
        dsimp only
        rw [asksF_fuel b m m' q this.2 (by omega) (by omega)]
    · rw [if_neg hlt, if_neg hlt]
end Go.Sp
end
section
namespace Go.Sp
open Go.Lib (atoiAll itoa decDigits parseUint10 parseMag nDigits decDigits_length)
theorem dec_dig : ∀ (u : Nat), ∀ c ∈ decDigits u, 48 ≤ c.toNat ∧ c.toNat ≤ 57 := by
  intro u
  induction u using Nat.strongRecOn with
  | _ u ih =>
    intro c hc
    by_cases h : u < 10
    · rw [decDigits, dif_pos h] at hc
      obtain rfl := List.mem_singleton.1 hc
      rw [UInt8.toNat_ofNat']
      omega
    · rw [decDigits, dif_neg h] at hc
      rcases List.mem_append.1 hc with hc | hc
      · exact ih _ (by omega) c hc
      · obtain rfl := List.mem_singleton.1 hc
        rw [UInt8.toNat_ofNat']
        omega
theorem canon_eq {s : List UInt8} {v : Int} (h : canon s = some v) : s = itoa v := by
  rw [canon] at h
  split at h
  · split at h
    · rename_i hc
      obtain rfl := Option.some.inj h
      exact hc.symm
    · cases h
  · cases h
theorem itoa_mem {v : Int} {c : UInt8} (h : c ∈ itoa v) : c.toNat = 45 ∨ (48 ≤ c.toNat ∧ c.toNat ≤ 57) := by
  rw [itoa] at h
  split at h
  · rcases List.mem_cons.1 h with rfl | h
    · exact .inl rfl
    · exact .inr (dec_dig _ _ h)
  · exact .inr (dec_dig _ _ h)
theorem fld_itoa (v : Int) (e : UInt8) (he : e = 32 ∨ e = 10) (r : List UInt8) : fieldAt (itoa v ++ e :: r) 0 e = itoa v := by
  rw [fieldAt, List.drop_zero, List.takeWhile_append_of_pos]
  · rw [List.takeWhile_cons_of_neg (by simp), List.append_nil]
  · intro c hc
    have := itoa_mem hc
    have h2 : c ≠ e := by
      rintro rfl
      rcases he with rfl | rfl <;> revert this <;> decide
    simpa using h2
/-- numbers, each with the byte behind it. -/
def wr : List Int → List UInt8 → List UInt8
  | v :: vs, e :: es => itoa v ++ e :: wr vs es
  | _, _ => []
def hdN (a : Qn) : List Int := [a.id, a.kind, a.fr, a.to, (a.args.length : Int), (a.text.length : Int)]
/-- a question's bytes. -/
def qBytes (a : Qn) : List UInt8 := wr (hdN a) hdr ++ wr a.args (List.replicate a.args.length 10) ++ a.text
def i64 (v : Int) : Prop := -9223372036854775808 ≤ v ∧ v ≤ 9223372036854775807
def Qn.fits (a : Qn) : Prop := i64 a.id ∧ i64 a.kind ∧ i64 a.fr ∧ i64 a.to ∧ ∀ v ∈ a.args, i64 v
theorem qErr_args {a : Qn} (h : qErr a = 0) : a.args.length ≤ 5 ∧ a.text.length ≤ 4000 := by
  rw [qErr] at h
  split at h
  · omega
  · split at h
    · omega
    · split at h
      · omega
      · omega
theorem numAt_wr {b : List UInt8} {p : Nat} {e : UInt8} {v : Int} {q : Nat} (h : numAt b p e = some (v, q)) : b.drop p = itoa v ++ e :: b.drop q ∧ i64 v := by
  rw [numAt] at h
  split at h
  · rename_i hl
    cases hc : canon (fieldAt b p e) with
    | none => rw [hc] at h; cases h
    | some x =>
      rw [hc] at h
      simp only [Option.map_some, Option.some.injEq, Prod.mk.injEq] at h
      obtain ⟨rfl, rfl⟩ := h
      have h1 := canon_eq hc
      constructor
      · have h2 : b.drop p = fieldAt b p e ++ (b.drop p).drop (fieldAt b p e).length := by
          have h3 : fieldAt b p e = (b.drop p).take (fieldAt b p e).length := by
            have := List.takeWhile_prefix (p := (· != e)) (l := b.drop p)
            exact (List.prefix_iff_eq_take.1 this)
          conv => lhs; rw [← List.take_append_drop (fieldAt b p e).length (b.drop p), ← h3]
        rw [List.drop_drop] at h2
        have h4 : b.drop (p + (fieldAt b p e).length) = e :: b.drop (p + (fieldAt b p e).length + 1) := by
          rw [List.drop_eq_getElem_cons hl]
          congr 1
          have h5 : (b.drop p).dropWhile (· != e) = b.drop (p + (fieldAt b p e).length) := by
            have h6 := List.takeWhile_append_dropWhile (p := (· != e)) (l := b.drop p)
            have h7 : (b.drop p).takeWhile (· != e) ++ (b.drop p).dropWhile (· != e) = fieldAt b p e ++ b.drop (p + (fieldAt b p e).length) := by rw [h6]; exact h2
            exact List.append_cancel_left h7
          have h8 := List.drop_eq_getElem_cons hl
          rw [← h5] at h8
          have h9 := List.head_dropWhile_not (· != e) (l := b.drop p) (by rw [h5]; simpa using hl)
          simp only [h8, List.head_cons] at h9
          simpa using h9
        rw [h4] at h2
        rw [← h1]
        exact h2
      · rw [canon] at hc
        split at hc
        · rename_i w ha
          split at hc
          · obtain rfl := Option.some.inj hc
            generalize fieldAt b p e = s at ha
            unfold atoiAll at ha
            split at ha
            · cases ha
            · dsimp only at ha
              split at ha
              · cases ha
              · cases ha
              · split at ha
                · cases ha
                · split at ha
                  · cases ha
                  · have := Go.Lib.NumEnd.ok.inj ha
                    rw [← this]
                    constructor <;> split <;> omega
          · cases hc
        · cases hc
  · cases h
theorem numsAt_wr (b : List UInt8) : ∀ (es : List UInt8) (p : Nat) (vs : List Int) (q : Nat), numsAt b es p = some (vs, q) → b.drop p = wr vs es ++ b.drop q ∧ ∀ v ∈ vs, i64 v
  | [], p, vs, q, h => by
    rw [numsAt] at h
    simp only [Option.some.injEq, Prod.mk.injEq] at h
    obtain ⟨rfl, rfl⟩ := h
    simp [wr]
  | e :: es, p, vs, q, h => by
    rw [numsAt] at h
    split at h
    · cases h
    · rename_i v q1 h1
      split at h
      · cases h
      · rename_i ws r h2
        simp only [Option.some.injEq, Prod.mk.injEq] at h
        obtain ⟨rfl, rfl⟩ := h
        have a1 := numAt_wr h1
        have a2 := numsAt_wr b es _ _ _ h2
        refine ⟨by rw [a1.1, a2.1]; simp [wr], ?_⟩
        intro x hx
        rcases List.mem_cons.1 hx with rfl | hx
        · exact a1.2
        · exact a2.2 x hx
theorem one_wr {b : List UInt8} {p : Nat} {a : Qn} {q : Nat} (hp : p ≤ b.length) (h : oneAt b p = .ok (a, q)) : b.drop p = qBytes a ++ b.drop q ∧ a.fits ∧ qErr a = 0 := by
  unfold oneAt at h
  cases hn : numsAt b hdr p with
  | none => rw [hn] at h; cases h
  | some r =>
    obtain ⟨l, q1⟩ := r
    have hl := numsAt_len b hdr p _ hn
    have h1 := numsAt_le b hdr p _ hp hn
    have w1 := numsAt_wr b hdr p _ _ hn
    rw [hn] at h
    match l, hl with
    | [i, k, f, t, n, z], _ =>
      dsimp only at h h1
      split at h
      · cases h
      · rename_i hneg
        cases hs : numsAt b (List.replicate (min n.toNat 6) 10) q1 with
        | none => rw [hs] at h; cases h
        | some y =>
          obtain ⟨us, r⟩ := y
          have hl2 := numsAt_len b _ q1 _ hs
          have h2 := numsAt_le b _ q1 _ h1.2 hs
          have w2 := numsAt_wr b _ q1 _ _ hs
          rw [hs] at h
          dsimp only at h h2 hl2
          rw [List.length_replicate] at hl2
          split at h
          · cases h
          · rename_i hz
            split at h
            · cases h
            · rename_i hq
              have := Except.ok.inj h
              obtain ⟨rfl, rfl⟩ := Prod.mk.inj this
              have hq0 : qErr ⟨i, k, f, t, (b.drop r).take z.toNat, us⟩ = 0 := by simpa using hq
              have hqa := qErr_args hq0
              dsimp only at hqa
              have hnl : (us.length : Int) = n := by omega
              have hzl : (((b.drop r).take z.toNat).length : Int) = z := by rw [List.length_take, List.length_drop]; omega
              have hi : ∀ v ∈ [i, k, f, t, n, z], i64 v := w1.2
              refine ⟨?_, ⟨hi i (by simp), hi k (by simp), hi f (by simp), hi t (by simp), w2.2⟩, hq0⟩
              have e1 : b.drop r = (b.drop r).take z.toNat ++ b.drop (r + z.toNat) := by rw [← List.drop_drop, List.take_append_drop]
              rw [w1.1, w2.1, qBytes, hdN]
              dsimp only
              rw [hnl, hzl, show min n.toNat 6 = us.length by omega, List.append_assoc, List.append_assoc, ← e1]
theorem asksF_wr (b : List UInt8) : ∀ (m p : Nat) (l : List Qn), p ≤ b.length → b.length - p ≤ m → asksF b m p = .ok l → b.drop p = l.flatMap qBytes ∧ ∀ a ∈ l, a.fits ∧ qErr a = 0
  | 0, p, l, hp, hm, h => by
    rw [asksF] at h
    obtain rfl := Except.ok.inj h
    simp only [List.flatMap_nil, List.drop_eq_nil_iff]
    exact ⟨by omega, by simp⟩
  | m + 1, p, l, hp, hm, h => by
    rw [asksF] at h
    split at h
    · split at h
      · cases h
      · rename_i a q ho
        have h1 := one_wr hp ho
        have h2 := oneAt_le hp ho
        split at h
        · cases h
        · rename_i l' hl
          obtain rfl := Except.ok.inj h
          have h3 := asksF_wr b m q l' h2.2 (by omega) hl
          refine ⟨by rw [h1.1, h3.1]; rfl, ?_⟩
          intro x hx
          rcases List.mem_cons.1 hx with rfl | hx
          · exact h1.2
          · exact h3.2 x hx
    · obtain rfl := Except.ok.inj h
      simp only [List.flatMap_nil, List.drop_eq_nil_iff]
      exact ⟨by omega, by simp⟩
/-- bytes that are read are those of their questions. -/
theorem asks_wr (b : List UInt8) (l : List Qn) (h : asks b = .ok l) : l.flatMap qBytes = b ∧ ∀ a ∈ l, a.fits ∧ qErr a = 0 := by
  have := asksF_wr b b.length 0 l (by omega) (by omega) h
  rw [List.drop_zero] at this
  exact ⟨this.1.symm, this.2⟩
end Go.Sp
end
section
namespace Go.Sp
open Go.Lib (itoa decDigits nDigits decDigits_length nDigits_small nDigits_big)
theorem nDigits_le : ∀ (k u : Nat), u < 10 ^ (k + 1) → nDigits u ≤ k + 1
  | 0, u, h => by rw [nDigits_small (by simpa using h)]; exact Nat.le_refl _
  | k + 1, u, h => by
    by_cases h1 : u < 10
    · rw [nDigits_small h1]; omega
    · rw [nDigits_big h1]
      have := nDigits_le k (u / 10) (by rw [Nat.pow_succ] at h; omega)
      omega
theorem itoa_len20 {v : Int} (h : i64 v) : (itoa v).length ≤ 20 := by
  obtain ⟨h0, h1⟩ := h
  rw [itoa]
  split
  · rw [List.length_cons, decDigits_length]
    have := nDigits_le 18 v.natAbs (by have : (10 : Nat) ^ (18 + 1) = 10000000000000000000 := by decide
                                       omega)
    omega
  · rw [decDigits_length]
    have := nDigits_le 18 v.toNat (by have : (10 : Nat) ^ (18 + 1) = 10000000000000000000 := by decide
                                      omega)
    omega
theorem canon_i64 {s : List UInt8} {v : Int} (h : canon s = some v) : i64 v := by
  have e := canon_eq h
  have := (numAt_wr (b := s ++ [10]) (p := 0) (e := 10) (v := v) (q := s.length + 1) (by
    rw [numAt, e, fld_itoa v 10 (.inr rfl) [], if_pos (by simp), ← e, h]
    simp)).2
  exact this
theorem canon_len {s : List UInt8} {v : Int} (h : canon s = some v) : s.length ≤ 20 := by
  rw [canon_eq h]
  exact itoa_len20 (canon_i64 h)
/-- too long a field is no number. -/
theorem numAt_long {b : List UInt8} {p : Nat} {e : UInt8} (h : 20 < (fieldAt b p e).length) : numAt b p e = none := by
  rw [numAt]
  split
  · cases hc : canon (fieldAt b p e) with
    | none => rfl
    | some v =>
      have := canon_len hc
      omega
  · rfl
theorem numAt_open {b : List UInt8} {p : Nat} {e : UInt8} (h : b.length ≤ p + (fieldAt b p e).length) : numAt b p e = none := by
  rw [numAt, if_neg (by omega)]
theorem numAt_ok {b : List UInt8} {p : Nat} {e : UInt8} (h : p + (fieldAt b p e).length < b.length) :
    numAt b p e = (canon (fieldAt b p e)).map fun v => (v, p + (fieldAt b p e).length + 1) := by
  rw [numAt, if_pos h]
/-- what a field is, byte by byte. -/
theorem field_lt {b : List UInt8} {p : Nat} {e : UInt8} {k : Nat} (h : k < (fieldAt b p e).length) : b[p + k]? ≠ some e ∧ p + k < b.length := by
  have h1 := field_le b p e
  refine ⟨?_, by omega⟩
  intro hc
  have h2 : (fieldAt b p e)[k] = b[p + k]'(by omega) := by
    have := (List.takeWhile_prefix (p := (· != e)) (l := b.drop p)).getElem h
    rw [List.getElem_drop] at this
    exact this
  have h3 := List.all_eq_true.1 (List.all_takeWhile (p := (· != e)) (l := b.drop p)) (fieldAt b p e)[k] (List.getElem_mem _)
  rw [List.getElem?_eq_getElem (by omega)] at hc
  rw [h2, Option.some.inj hc] at h3
  simp at h3
theorem field_end {b : List UInt8} {p : Nat} {e : UInt8} (h : p + (fieldAt b p e).length < b.length) : b[p + (fieldAt b p e).length]? = some e := by
  have hd : (b.drop p).dropWhile (· != e) = b.drop (p + (fieldAt b p e).length) := by
    have h6 := List.takeWhile_append_dropWhile (p := (· != e)) (l := b.drop p)
    have h3 : fieldAt b p e = (b.drop p).take (fieldAt b p e).length := List.prefix_iff_eq_take.1 (List.takeWhile_prefix (p := (· != e)) (l := b.drop p))
    have h2 : (b.drop p) = fieldAt b p e ++ b.drop (p + (fieldAt b p e).length) := by
      conv => lhs; rw [← List.take_append_drop (fieldAt b p e).length (b.drop p), ← h3]
      rw [List.drop_drop]
    have h7 : (b.drop p).takeWhile (· != e) ++ (b.drop p).dropWhile (· != e) = fieldAt b p e ++ b.drop (p + (fieldAt b p e).length) := by rw [h6]; exact h2
    exact List.append_cancel_left h7
  have h8 := List.drop_eq_getElem_cons h
  rw [← hd] at h8
  have h9 := List.head_dropWhile_not (· != e) (l := b.drop p) (by rw [hd]; simpa using h)
  simp only [h8, List.head_cons] at h9
  rw [List.getElem?_eq_getElem h]
  simpa using h9
theorem field_take {b : List UInt8} {p : Nat} {e : UInt8} : fieldAt b p e = (b.drop p).take (fieldAt b p e).length :=
  List.prefix_iff_eq_take.1 (List.takeWhile_prefix (p := (· != e)) (l := b.drop p))
end Go.Sp
end
