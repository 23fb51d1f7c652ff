/- Own work: texts TreeM, LexE, TokM, FwInt2, FwM4, FwMap, FwM5, FwD, FwS2, one behind the other. -/
import Derived.Test.YthmdffgiockcbaaDoorIf8
import Derived.Laws.BytesString
import Derived.Lib.ConvBytes
import Derived.Laws.AppendOwn
import Derived.MapKept
import Derived.Defers
section
namespace Go.Proofs.YthmdffgiockcbaaDoor
open Go.Fw
abbrev ptr (b : Nat) : Value := .pointer (some ⟨b, 0, none⟩)
abbrev nt (n : Nat) : Value := .int .i64 (n : Int)
mutual
/-- an expression's cells. -/
def ExAt (I : Imm) : Sp.Ex → List Value → Prop
  | .mk k nm n args f t, cs => ∃ a cap xs, cs = [nt k, str nm, nt n, .slice a args.length cap, nt f, nt t] ∧ RowI I 41 6 (.slice a args.length cap) args.length xs ∧ ExsAt I args xs
def ExsAt (I : Imm) : List Sp.Ex → List Value → Prop
  | [], xs => xs = []
  | e :: es, xs => ∃ c r, xs = c ++ r ∧ ExAt I e c ∧ ExsAt I es r
 end
mutual
theorem ExAt.le {I I' : Imm} (m : Le I I') : ∀ (e : Sp.Ex) (cs : List Value), ExAt I e cs → ExAt I' e cs
  | .mk k nm n args f t, cs, h => by
    rw [ExAt] at h ⊢
    obtain ⟨a, cap, xs, h1, h2, h3⟩ := h
    exact ⟨a, cap, xs, h1, h2.le m, ExsAt.le m _ _ h3⟩
theorem ExsAt.le {I I' : Imm} (m : Le I I') : ∀ (es : List Sp.Ex) (xs : List Value), ExsAt I es xs → ExsAt I' es xs
  | [], xs, h => by rw [ExsAt] at h ⊢; exact h
  | e :: es, xs, h => by
    rw [ExsAt] at h ⊢
    obtain ⟨c, r, h1, h2, h3⟩ := h
    exact ⟨c, r, h1, ExAt.le m _ _ h2, ExsAt.le m _ _ h3⟩
 end
theorem ExAt.out {I : Imm} {e : Sp.Ex} {cs : List Value} (h : ExAt I e cs) :
    ∃ a cap xs, cs = [nt e.kind, str e.name, nt e.n, .slice a e.args.length cap, nt e.fr, nt e.to] ∧ RowI I 41 6 (.slice a e.args.length cap) e.args.length xs ∧ ExsAt I e.args xs := by
  cases e with
  | mk k nm n args f t => rw [ExAt] at h; exact h
theorem ExAt.of {I : Imm} {k n f t cap : Nat} {nm : List UInt8} {a : Option Addr} {args : List Sp.Ex} {xs : List Value} (h2 : RowI I 41 6 (.slice a args.length cap) args.length xs) (h3 : ExsAt I args xs) :
    ExAt I (.mk k nm n args f t) [nt k, str nm, nt n, .slice a args.length cap, nt f, nt t] := by
  rw [ExAt]; exact ⟨a, cap, xs, rfl, h2, h3⟩
theorem ExAt.len {I : Imm} {e : Sp.Ex} {cs : List Value} (h : ExAt I e cs) : cs.length = 6 := by
  obtain ⟨_, _, _, rfl, _⟩ := h.out; rfl
theorem ExsAt.len {I : Imm} : ∀ {es : List Sp.Ex} {xs : List Value}, ExsAt I es xs → xs.length = es.length * 6
  | [], xs, h => by rw [ExsAt] at h; simp [h]
  | e :: es, xs, h => by
    rw [ExsAt] at h
    obtain ⟨c, r, rfl, h2, h3⟩ := h
    rw [List.length_append, h2.len, h3.len, List.length_cons, Nat.add_mul]; omega
theorem ExsAt.nil {I : Imm} : ExsAt I [] [] := by rw [ExsAt]
theorem ExsAt.snoc {I : Imm} : ∀ {es : List Sp.Ex} {xs c : List Value} {e : Sp.Ex}, ExsAt I es xs → ExAt I e c → ExsAt I (es ++ [e]) (xs ++ c)
  | [], xs, c, e, h, he => by
    rw [ExsAt] at h
    subst h
    rw [List.nil_append, List.nil_append, ExsAt]
    exact ⟨c, [], by simp, he, by rw [ExsAt]⟩
  | a :: es, xs, c, e, h, he => by
    rw [ExsAt] at h
    obtain ⟨c1, r, rfl, h2, h3⟩ := h
    rw [List.cons_append, ExsAt]
    exact ⟨c1, r ++ c, by rw [List.append_assoc], h2, h3.snoc he⟩
theorem ExsAt.get {I : Imm} : ∀ {es : List Sp.Ex} {xs : List Value} {i : Nat} {e : Sp.Ex}, ExsAt I es xs → es[i]? = some e → ExAt I e ((xs.drop (i * 6)).take 6)
  | [], _, _, _, _, he => by simp at he
  | a :: es, xs, 0, e, h, he => by
    rw [ExsAt] at h
    obtain ⟨c, r, rfl, h2, h3⟩ := h
    simp only [List.getElem?_cons_zero, Option.some.injEq] at he
    subst he
    rw [Nat.zero_mul, List.drop_zero, List.take_append_of_le_length (by rw [h2.len]; omega), List.take_of_length_le (by rw [h2.len]; omega)]
    exact h2
  | a :: es, xs, i + 1, e, h, he => by
    rw [ExsAt] at h
    obtain ⟨c, r, rfl, h2, h3⟩ := h
    rw [List.getElem?_cons_succ] at he
    have := h3.get he
    rw [List.drop_append, List.drop_of_length_le (by rw [h2.len]; omega), List.nil_append, h2.len, show (i + 1) * 6 - 6 = i * 6 by omega]
    exact this
end Go.Proofs.YthmdffgiockcbaaDoor
namespace Go.Proofs.YthmdffgiockcbaaDoor
open Go.Fw
abbrev stCells (k : Nat) (nm : List UInt8) (a lb : Nat) (o : Bool) (e : Sp.Ex) (ea : Option Addr) (ec : Nat) (v1 v2 : Value) (f t : Nat) : List Value :=
  [nt k, str nm, nt a, nt lb, .bool o, nt e.kind, str e.name, nt e.n, .slice ea e.args.length ec, nt e.fr, nt e.to, v1, v2, nt f, nt t]
mutual
/-- a statement's cells. -/
def StAt (I : Imm) : Sp.Stm → List Value → Prop
  | .mk k nm a lb o e thn els f t, cs => ∃ ea ec ex a1 c1 xs1 a2 c2 xs2, cs = stCells k nm a lb o e ea ec (.slice a1 thn.length c1) (.slice a2 els.length c2) f t ∧
    RowI I 41 6 (.slice ea e.args.length ec) e.args.length ex ∧ ExsAt I e.args ex ∧
    RowI I 43 15 (.slice a1 thn.length c1) thn.length xs1 ∧ StsAt I thn xs1 ∧ RowI I 43 15 (.slice a2 els.length c2) els.length xs2 ∧ StsAt I els xs2
def StsAt (I : Imm) : List Sp.Stm → List Value → Prop
  | [], xs => xs = []
  | e :: es, xs => ∃ c r, xs = c ++ r ∧ StAt I e c ∧ StsAt I es r
 end
mutual
theorem StAt.le {I I' : Imm} (m : Le I I') : ∀ (e : Sp.Stm) (cs : List Value), StAt I e cs → StAt I' e cs
  | .mk k nm a lb o e thn els f t, cs, h => by
    rw [StAt] at h ⊢
    obtain ⟨ea, ec, ex, a1, c1, xs1, a2, c2, xs2, h1, h2, h3, h4, h5, h6, h7⟩ := h
    exact ⟨ea, ec, ex, a1, c1, xs1, a2, c2, xs2, h1, h2.le m, ExsAt.le m _ _ h3, h4.le m, StsAt.le m _ _ h5, h6.le m, StsAt.le m _ _ h7⟩
theorem StsAt.le {I I' : Imm} (m : Le I I') : ∀ (es : List Sp.Stm) (xs : List Value), StsAt I es xs → StsAt I' es xs
  | [], xs, h => by rw [StsAt] at h ⊢; exact h
  | e :: es, xs, h => by
    rw [StsAt] at h ⊢
    obtain ⟨c, r, h1, h2, h3⟩ := h
    exact ⟨c, r, h1, StAt.le m _ _ h2, StsAt.le m _ _ h3⟩
 end
theorem StAt.out {I : Imm} {s : Sp.Stm} {cs : List Value} (h : StAt I s cs) : ∃ ea ec ex a1 c1 xs1 a2 c2 xs2, cs = stCells s.kind s.name s.at_ s.label s.opn s.e ea ec (.slice a1 s.thn.length c1) (.slice a2 s.els.length c2) s.fr s.to ∧
    RowI I 41 6 (.slice ea s.e.args.length ec) s.e.args.length ex ∧ ExsAt I s.e.args ex ∧
    RowI I 43 15 (.slice a1 s.thn.length c1) s.thn.length xs1 ∧ StsAt I s.thn xs1 ∧ RowI I 43 15 (.slice a2 s.els.length c2) s.els.length xs2 ∧ StsAt I s.els xs2 := by
  cases s with
  | mk k nm a lb o e thn els f t => rw [StAt] at h; exact h
theorem StAt.of {I : Imm} {k a lb f t ec c1 c2 : Nat} {nm : List UInt8} {o : Bool} {e : Sp.Ex} {thn els : List Sp.Stm} {ea a1 a2 : Option Addr} {ex xs1 xs2 : List Value}
    (h2 : RowI I 41 6 (.slice ea e.args.length ec) e.args.length ex) (h3 : ExsAt I e.args ex)
    (h4 : RowI I 43 15 (.slice a1 thn.length c1) thn.length xs1) (h5 : StsAt I thn xs1) (h6 : RowI I 43 15 (.slice a2 els.length c2) els.length xs2) (h7 : StsAt I els xs2) :
    StAt I (.mk k nm a lb o e thn els f t) (stCells k nm a lb o e ea ec (.slice a1 thn.length c1) (.slice a2 els.length c2) f t) := by
  rw [StAt]; exact ⟨ea, ec, ex, a1, c1, xs1, a2, c2, xs2, rfl, h2, h3, h4, h5, h6, h7⟩
theorem StAt.len {I : Imm} {e : Sp.Stm} {cs : List Value} (h : StAt I e cs) : cs.length = 15 := by
  obtain ⟨_, _, _, _, _, _, _, _, _, rfl, _⟩ := h.out; rfl
theorem StsAt.len {I : Imm} : ∀ {es : List Sp.Stm} {xs : List Value}, StsAt I es xs → xs.length = es.length * 15
  | [], xs, h => by rw [StsAt] at h; simp [h]
  | e :: es, xs, h => by
    rw [StsAt] at h
    obtain ⟨c, r, rfl, h2, h3⟩ := h
    rw [List.length_append, h2.len, h3.len, List.length_cons, Nat.add_mul]; omega
theorem StsAt.nil {I : Imm} : StsAt I [] [] := by rw [StsAt]
theorem StsAt.snoc {I : Imm} : ∀ {es : List Sp.Stm} {xs c : List Value} {e : Sp.Stm}, StsAt I es xs → StAt I e c → StsAt I (es ++ [e]) (xs ++ c)
  | [], xs, c, e, h, he => by
    rw [StsAt] at h
    subst h
    rw [List.nil_append, List.nil_append, StsAt]
    exact ⟨c, [], by simp, he, by rw [StsAt]⟩
  | a :: es, xs, c, e, h, he => by
    rw [StsAt] at h
    obtain ⟨c1, r, rfl, h2, h3⟩ := h
    rw [List.cons_append, StsAt]
    exact ⟨c1, r ++ c, by rw [List.append_assoc], h2, h3.snoc he⟩
theorem StsAt.get {I : Imm} : ∀ {es : List Sp.Stm} {xs : List Value} {i : Nat} {e : Sp.Stm}, StsAt I es xs → es[i]? = some e → StAt I e ((xs.drop (i * 15)).take 15)
  | [], _, _, _, _, he => by simp at he
  | a :: es, xs, 0, e, h, he => by
    rw [StsAt] at h
    obtain ⟨c, r, rfl, h2, h3⟩ := h
    simp only [List.getElem?_cons_zero, Option.some.injEq] at he
    subst he
    rw [Nat.zero_mul, List.drop_zero, List.take_append_of_le_length (by rw [h2.len]; omega), List.take_of_length_le (by rw [h2.len]; omega)]
    exact h2
  | a :: es, xs, i + 1, e, h, he => by
    rw [StsAt] at h
    obtain ⟨c, r, rfl, h2, h3⟩ := h
    rw [List.getElem?_cons_succ] at he
    have := h3.get he
    rw [List.drop_append, List.drop_of_length_le (by rw [h2.len]; omega), List.nil_append, h2.len, show (i + 1) * 15 - 15 = i * 15 by omega]
    exact this
abbrev encDg (d : Sp.Dg) : List Value := [nt d.fr, nt d.to, nt d.err, str d.name]
abbrev encPar (p : Sp.Par) : List Value := [str p.name, nt p.label, nt p.at_]
abbrev encRf (p : Sp.Rf) : List Value := [str p.name, nt p.at_]
abbrev itCells (k : Nat) (nm : List UInt8) (lb : Nat) (vp vs vb : Value) (a : Int) (sz mk : Nat) (vd : Value) : List Value := [nt k, str nm, nt lb, vp, vs, vb, .int .i64 a, nt sz, nt mk, vd]
/-- an item's cells. -/
def ItAt (I : Imm) (it : Sp.Itm) (cs : List Value) : Prop := ∃ ap cp as_ cs' ab cb ad cd xb, cs = itCells it.kind it.name it.label (.slice ap it.params.length cp) (.slice as_ it.sends.length cs') (.slice ab it.body.length cb) it.at_ it.size it.mark (.slice ad it.diags.length cd) ∧
  RowI I 55 3 (.slice ap it.params.length cp) it.params.length (it.params.flatMap encPar) ∧ RowI I 75 2 (.slice as_ it.sends.length cs') it.sends.length (it.sends.flatMap encRf) ∧
  RowI I 43 15 (.slice ab it.body.length cb) it.body.length xb ∧ StsAt I it.body xb ∧ RowI I 65 4 (.slice ad it.diags.length cd) it.diags.length (it.diags.flatMap encDg)
theorem ItAt.le {I I' : Imm} (m : Le I I') {it : Sp.Itm} {cs : List Value} (h : ItAt I it cs) : ItAt I' it cs := by
  obtain ⟨ap, cp, as_, cs', ab, cb, ad, cd, xb, h1, h2, h3, h4, h5, h6⟩ := h
  exact ⟨ap, cp, as_, cs', ab, cb, ad, cd, xb, h1, h2.le m, h3.le m, h4.le m, h5.le m, h6.le m⟩
theorem ItAt.len {I : Imm} {it : Sp.Itm} {cs : List Value} (h : ItAt I it cs) : cs.length = 10 := by
  obtain ⟨_, _, _, _, _, _, _, _, _, rfl, _⟩ := h; rfl
def ItsAt (I : Imm) : List Sp.Itm → List Value → Prop
  | [], xs => xs = []
  | e :: es, xs => ∃ c r, xs = c ++ r ∧ ItAt I e c ∧ ItsAt I es r
theorem ItsAt.le {I I' : Imm} (m : Le I I') : ∀ {es : List Sp.Itm} {xs : List Value}, ItsAt I es xs → ItsAt I' es xs
  | [], _, h => h
  | _ :: _, _, ⟨c, r, h1, h2, h3⟩ => ⟨c, r, h1, h2.le m, h3.le m⟩
theorem ItsAt.snoc {I : Imm} : ∀ {es : List Sp.Itm} {xs c : List Value} {e : Sp.Itm}, ItsAt I es xs → ItAt I e c → ItsAt I (es ++ [e]) (xs ++ c)
  | [], xs, c, e, h, he => by
    obtain rfl : xs = [] := h
    exact ⟨c, [], by simp, he, rfl⟩
  | a :: es, xs, c, e, ⟨c1, r, e1, h2, h3⟩, he => ⟨c1, r ++ c, by rw [e1, List.append_assoc], h2, h3.snoc he⟩
theorem ItsAt.get {I : Imm} : ∀ {es : List Sp.Itm} {xs : List Value} {i : Nat} {e : Sp.Itm}, ItsAt I es xs → es[i]? = some e → ItAt I e ((xs.drop (i * 10)).take 10)
  | [], _, _, _, _, he => by simp at he
  | a :: es, xs, 0, e, h, he => by
    obtain ⟨c, r, rfl, h2, h3⟩ := h
    simp only [List.getElem?_cons_zero, Option.some.injEq] at he
    subst he
    rw [Nat.zero_mul, List.drop_zero, List.take_append_of_le_length (by rw [h2.len]; omega), List.take_of_length_le (by rw [h2.len]; omega)]
    exact h2
  | a :: es, xs, i + 1, e, h, he => by
    obtain ⟨c, r, rfl, h2, h3⟩ := h
    rw [List.getElem?_cons_succ] at he
    have := h3.get he
    rw [List.drop_append, List.drop_of_length_le (by rw [h2.len]; omega), List.nil_append, h2.len, show (i + 1) * 10 - 10 = i * 10 by omega]
    exact this
theorem ItsAt.len {I : Imm} : ∀ {es : List Sp.Itm} {xs : List Value}, ItsAt I es xs → xs.length = es.length * 10
  | [], xs, h => by obtain rfl : xs = [] := h; rfl
  | e :: es, xs, ⟨c, r, e1, h2, h3⟩ => by
    rw [e1, List.length_append, h2.len, h3.len, List.length_cons, Nat.add_mul]; omega
end Go.Proofs.YthmdffgiockcbaaDoor
end
section
namespace Go.Proofs.YthmdffgiockcbaaDoor
open Go.Fw
theorem toNat_inj {a b : UInt8} (h : (a.toNat : Int) = b.toNat) : a = b := UInt8.toNat_inj.1 (by omega)
/-- a token's cells. -/
def encTok (t : Sp.Tok) : List Value := [.int .i64 (t.kind : Int), str t.text, .int .i64 (t.pos : Int)]
theorem word_no {s : List UInt8} {k : Nat} (h : k < s.length) (hf : Sp.isWord (s.getD k 0) = false) : Sp.word s = false := by
  have : s.all Sp.isWord = false := by
    rw [Bool.eq_false_iff]; intro h1
    have := (Sp.all_iff _ _).1 h1 k h
    rw [hf] at this; cases this
  simp [Sp.word, this]
def encInt (n : Nat) : List Value := [.int .i64 (n : Int)]
theorem encTok_get (l : List Sp.Tok) (k : Nat) (t : Sp.Tok) (h : l[k]? = some t) (j : Nat) (v : Value) (hv : (encTok t)[j]? = some v) : (l.flatMap encTok)[k * 3 + j]? = some v := by
  induction l generalizing k with
  | nil => simp at h
  | cons a l ih =>
    have hj : j < 3 := by
      have := (List.getElem?_eq_some_iff.1 hv).1
      simpa [encTok] using this
    cases k with
    | zero =>
      simp at h
      subst h
      rw [List.flatMap_cons, List.getElem?_append_left (by simp [encTok]; omega)]
      simpa using hv
    | succ k =>
      rw [List.flatMap_cons, List.getElem?_append_right (by simp [encTok]; omega)]
      have := ih k (by simpa using h)
      rw [← this]
      congr 1
      simp [encTok]; omega
theorem toks_len (s : List UInt8) : (Sp.tokens s).length ≤ s.length := by
  have key : ∀ (n k : Nat), s.length - k = n → (Sp.toksAt s k).length ≤ n := by
    intro n
    induction n using Nat.strongRecOn with
    | _ n ih =>
      intro k hn
      by_cases h : k < s.length
      · have hl := Sp.one_le (s.drop k) (by simp; omega)
        simp only [List.length_drop] at hl
        have := ih (s.length - (k + (Sp.one (s.drop k)).2)) (by omega) _ rfl
        rw [Sp.toksAt_step s k h, List.length_append]
        split
        · simp; omega
        · simp; omega
      · rw [Sp.toksAt_end s k (by omega)]; simp
  have := key _ 0 rfl
  rw [Sp.tokens_eq]; simpa using this
end Go.Proofs.YthmdffgiockcbaaDoor
end
section
namespace Go.Sp
theorem mem_takeWhile {F : UInt8 → Bool} : ∀ {l : List UInt8} {c : UInt8}, c ∈ l.takeWhile F → F c = true
  | [], _, h => by simp at h
  | a :: l, c, h => by
    rw [List.takeWhile_cons] at h
    split at h
    · rename_i ha
      rcases List.mem_cons.1 h with rfl | h
      · exact ha
      · exact mem_takeWhile h
    · simp at h
theorem take_tw (F : UInt8 → Bool) : ∀ r : List UInt8, r.take (r.takeWhile F).length = r.takeWhile F
  | [] => rfl
  | a :: r => by
    rw [List.takeWhile_cons]
    split
    · rw [List.length_cons, List.take_succ_cons, take_tw F r]
    · rfl
theorem tok_digits {s : List UInt8} {t : Tok} (h : TokOk s t) (hk : t.kind = 2) : ∀ c ∈ t.text, 48 ≤ c.toNat ∧ c.toNat ≤ 57 := by
  have h1 := h.one.1
  have h2 := h.one.2
  have h3 := h.text
  rw [hk] at h1
  rw [h2] at h3
  intro c hc
  rw [h3] at hc
  generalize s.drop t.pos = r at h1 hc
  cases r with
  | nil => simp [one] at h1
  | cons a r =>
    simp only [one] at h1 hc
    split at h1
    · simp at h1
    · split at h1
      · simp at h1
      · split at h1
        · simp at h1
        · split at h1
          · rename_i n1 n2 n3 n4
            rw [if_neg n1, if_neg n2, if_neg n3, if_pos n4] at hc
            have e : (run isDigit r) = 1 + (r.takeWhile isDigit).length := rfl
            rw [e, Nat.add_comm, List.take_succ_cons, take_tw] at hc
            have : isDigit c = true := by
              rcases List.mem_cons.1 hc with rfl | hc
              · exact n4
              · exact mem_takeWhile hc
            simpa [isDigit] using this
          · split at h1 <;> simp at h1
end Go.Sp
namespace Go.Proofs.YthmdffgiockcbaaDoor
open Go.Fw
/-- the tokens are those of a text that is not too long. -/
structure Ok (T : Sp.Src) : Prop where
  size : T.size ≤ 1048576
  len : T.l.length ≤ T.size
  tok : ∀ t ∈ T.l, t.pos + t.text.length ≤ T.size
  len1 : ∀ t ∈ T.l, 1 ≤ t.text.length
  dig : ∀ t ∈ T.l, t.kind = 2 → ∀ c ∈ t.text, 48 ≤ c.toNat ∧ c.toNat ≤ 57
theorem Ok.at_ {T : Sp.Src} (h : Ok T) (i : Nat) : (T.tok i).pos + (T.tok i).text.length ≤ T.size := by
  rcases Nat.lt_or_ge i T.l.length with h1 | h1
  · rw [Sp.Src.tok, List.getD_eq_getElem?_getD, List.getElem?_eq_getElem h1]
    exact h.tok _ (List.getElem_mem h1)
  · rw [Sp.tok_end h1]; simp
theorem tok_get {T : Sp.Src} {i : Nat} (h : i < T.l.length) : T.l[i]? = some (T.tok i) := by
  rw [Sp.Src.tok, List.getD_eq_getElem?_getD, List.getElem?_eq_getElem h]; rfl

/-- the tokens' slice. -/
abbrev TokR (I : Imm) (T : Sp.Src) (la : Option Addr) (lc : Nat) : Prop := RowI I 93 3 (.slice la T.l.length lc) T.l.length (T.l.flatMap encTok)
abbrev dgRow (ds : List Sp.Dg) (da : Option Addr) (dc : Nat) : HItem := .row (.slice da ds.length dc) 65 4 ds.length (ds.flatMap encDg)
theorem ok_tokens (s : List UInt8) (h : s.length ≤ 1048576) : Ok ⟨Sp.tokens s, s.length⟩ :=
  ⟨h, toks_len s, fun t ht => (Sp.tokens_ok s t ht).fit, fun t ht => (Sp.tokens_ok s t ht).len, fun t ht hk => Sp.tok_digits (Sp.tokens_ok s t ht) hk⟩
end Go.Proofs.YthmdffgiockcbaaDoor
end
section
namespace Go.Fw
open Go
section
variable {P : Program} {N : Nat} {ds : List Deferred} {Q : Exit → Act → World → Prop} {l l' : Log} {w w' : World} {ops : Array Oper} {os : List Oper} {o : Oper}
variable {d : Nat} {ty : TypeId} {pos : String} {af : Array Edge} {g : Option (Nat × Bool)} {t t' : TypeId} {x y : Operand} {ik : IntKind}

theorem Kept.of_below {w w' : World} (h : RowKit.Below w.heap.size w w') : Kept [] w w' := ⟨h.os, h.tape, h.output, h.size, fun k hk _ => h.block k hk⟩
end
end Go.Fw
end
section
namespace Go.Fw
open Go
section
variable {P : Program} {N : Nat} {ds : List Deferred} {Q : Exit → Act → World → Prop} {K : Act → World → Prop} {l l' : Log} {w w' : World} {ops : Array Oper} {os : List Oper} {o : Oper}
variable {d : Nat} {ty : TypeId} {pos : String} {af : Array Edge} {g : Option (Nat × Bool)} {t t' : TypeId} {x y z : Operand}
variable {E : Ent} {I I' : Imm} {H H' R : List HItem}
/-- a block, cut at its end. -/
theorem wc_midb {α : Type} {c : Code} (id : Nat) (L : α → Log) (J : α → World → Prop)
    (h : WC P N ds c (Exit.inBlock id (Exit.then (fun a w => ∃ x, Fits N ds (L x) a ∧ J x w) Q)) l w) (k : ∀ x w, J x w → At N ds Q .normal (L x) w) : WC P N ds (.block id c) Q l w :=
  ⟨fun a ha => wp_mono ((wc_block h).run a ha) (fun e a w q => by
    cases e <;> first | exact q | (obtain ⟨x, hx, hj⟩ := q; exact (k x w hj).run a hx))⟩
/-- what an older contract hands back of its own turns no more. -/
theorem Mem.take {ty sz n : Nat} {v : Value} {xs : List Value} (hm : Mem E I H w) (k : Kept [] w w') (ho : w'.ownsRow w.heap.size ty sz v n xs) : ∃ I', Le I I' ∧ Mem E I' H w' ∧ RowI I' ty sz v n xs :=
  (hm.add (x := .row v ty sz n xs) k (ownsRow_base ho (Nat.zero_le _)) (fun b hb => (ho.lt b hb).1)).freeze
/-- a new block that is written no more. -/
theorem Mem.fresh (hm : Mem E I H w) (k : Kept [] w w') {b : Nat} {o : Obj} (hb : w.heap.size ≤ b) (ho : w'.heap[b]? = some o) : Le I (I.add b o) ∧ Mem E (I.add b o) H w' := by
  have hf := hm.inv.fresh hb
  refine ⟨Le.add hf, (hm.kept0 k).freezeB ho hf (.inr (Nat.le_trans hm.kept.size hb)) (fun h hh e => ?_)⟩
  have := (hm.ok h hh).lt e
  omega
theorem bytes_kept (w : World) (e : TypeId) (s : ByteArray) : Kept [] w (Lib.bytesWorld w e s) :=
  ⟨rfl, rfl, rfl, by rw [Lib.bytesWorld_size]; omega, fun k hk _ => Lib.bytesWorld_at_old w e s k hk⟩
/-- a slice that is laid out, and turns no more. -/
theorem i_buildSlice {e : TypeId} {sz by_ n : Nat} [TySlice P t e] [Elem P e sz by_] {ps : List (Nat × Operand)} {vs : List (Nat × Value)} {xs : List Value} (hm : Mem E I H w)
    (hw : want ops l ⟨some d, .buildSlice t n ps.toArray, ty, pos, af, g⟩ = some true := by rfl) (hN : Nat.blt d N = true := by rfl) (hx : evp l ps = some vs := by rfl)
    (hi : vs.map (·.1) = List.range' 0 n := by rfl) (hs : vs.all (fun p => Nat.beq p.2.cells.toList.length sz) = true := by rfl) (hn : Nat.ble (n * sz) 16777216 = true := by rfl) (hxs : vs.flatMap (·.2.cells.toList) = xs := by rfl)
    (k : ∀ I' a w', Le I I' → Mem E I' H w' → RowI I' e sz (.slice a n n) n xs → WL P N ds ops Q os ((d, .slice a n n) :: l) w') :
    WL P N ds ops Q (⟨some d, .buildSlice t n ps.toArray, ty, pos, af, g⟩ :: os) l w := by
  subst hxs
  refine op_buildSlice hw hN hx hi hs (Nat.le_of_ble_eq_true hn) (fun b w' hb hh hk => ?_)
  obtain ⟨h1, h2⟩ := hm.fresh hk (Nat.le_of_eq hb.symm) hh
  refine k _ _ w' h1 h2 ⟨?_, _, _, rfl, Nat.le_refl _, fun _ => ⟨b, 0, _, (_, _), rfl, Imm.add_self _ _ _, fun j u hj => by rw [Nat.zero_add]; simpa using hj⟩⟩
  have hlen : vs.length = n := by have := congrArg List.length hi; simpa using this
  have key : ∀ (vs : List (Nat × Value)), vs.all (fun p => Nat.beq p.2.cells.toList.length sz) = true → (vs.flatMap (·.2.cells.toList)).length = vs.length * sz := by
    intro vs
    induction vs with
    | nil => intro _; simp
    | cons p vs ih =>
      intro h
      rw [List.all_cons, Bool.and_eq_true] at h
      rw [List.flatMap_cons, List.length_append, ih h.2, Nat.eq_of_beq_eq_true h.1, List.length_cons, Nat.add_mul]; omega
  rw [key vs hs, hlen]
end
end Go.Fw
end
section
namespace Go.Fw
open Go
/-- entries, oldest first. -/
abbrev Ents := List (List UInt8 × Value)
def entsOf (es : Ents) (n : Nat) : List MapEntry := (es.zipIdx n).map (fun p => { key := str p.1.1, val := p.1.2, born := p.2 })
class TyMap (P : Program) (t : TypeId) (k e : outParam TypeId) : Prop where out : P.underlying t = some (.map k e)
/-- the map in a block: texts' entries, none twice. -/
structure MapAt (w : World) (b : Nat) (es : Ents) : Prop where
  out : w.heap[b]? = some (.map (entsOf es 0).toArray es.length)
  nodup : (es.map (·.1)).Nodup
theorem findNow_str (s : List UInt8) : ∀ (es : Ents) (n m : Nat), Instr.findNow .string (str s) (entsOf es n) m = some ((es.findIdx? (fun p => decide (p.1 = s))).bind (fun i => (es[i]?).map (fun p => (m + i, p.2))))
  | [], n, m => rfl
  | (u, v) :: es, n, m => by
    have ih := findNow_str s es (n + 1) (m + 1)
    simp only [entsOf, List.zipIdx_cons, List.map_cons, Instr.findNow, Instr.sameNow] at ih ⊢
    have e1 : ((⟨s.toArray⟩ : ByteArray) == ⟨u.toArray⟩) = decide (u = s) := by
      rw [show ((⟨s.toArray⟩ : ByteArray) == ⟨u.toArray⟩) = (s.toArray == u.toArray) from rfl, Bool.eq_iff_iff]
      constructor
      · intro h
        have h2 : s = u := by simpa using h
        exact decide_eq_true h2.symm
      · intro h
        rw [of_decide_eq_true h]
        simp
    rw [e1, List.findIdx?_cons]
    cases hd : decide (u = s) with
    | true => simp
    | false =>
      simp only
      rw [ih]
      congr 1
      cases hf : es.findIdx? (fun p => decide (p.1 = s)) with
      | none => simp
      | some i => simp [Nat.add_comm, Nat.add_left_comm]
section
variable {P : Program} {N : Nat} {ds : List Deferred} {Q : Exit → Act → World → Prop} {l l' : Log} {w w' : World} {ops : Array Oper} {os : List Oper} {o : Oper}
variable {d : Nat} {ty : TypeId} {pos : String} {af : Array Edge} {g : Option (Nat × Bool)} {t t' : TypeId} {x y z : Operand}

theorem op_makeMap (hw : want ops l ⟨some d, .makeMap t none, ty, pos, af, g⟩ = some true) (hN : Nat.blt d N = true)
    (k : ∀ b w', b = w.heap.size → MapAt w' b [] → Kept [] w w' → WL P N ds ops Q os ((d, .map (some b)) :: l) w') :
    WL P N ds ops Q (⟨some d, .makeMap t none, ty, pos, af, g⟩ :: os) l w :=
  wl_value (w' := w.alloc (.map #[] 0)) rfl hw hN (fun a ha => by
    simp [execOp, Instr.makeMap, newObj]; rfl) (k w.heap.size _ rfl ⟨heap_alloc_new w _, by simp⟩ (Kept.alloc w _))
/-- what a mlook-up gives: the entry's value, or the zero value. -/
def mlook (es : Ents) (s : List UInt8) (z : Value) : Value := ((es.find? (fun p => decide (p.1 = s))).map (·.2)).getD z
theorem find_idx (es : Ents) (s : List UInt8) : (es.findIdx? (fun p => decide (p.1 = s))).bind (fun i => (es[i]?).map (·.2)) = (es.find? (fun p => decide (p.1 = s))).map (·.2) := by
  induction es with
  | nil => rfl
  | cons p es ih =>
    rw [List.findIdx?_cons, List.find?_cons]
    cases hd : decide (p.1 = s) with
    | true => simp
    | false =>
      simp only [Bool.false_eq_true, if_false]
      rw [← ih]
      cases es.findIdx? (fun p => decide (p.1 = s)) <;> simp
theorem run_findKey {kt : TypeId} (hk : P.underlying kt = some .string) (s : List UInt8) (es : Ents) (n : Nat) :
    (Instr.findKey kt (str s) (entsOf es n)).run P w = .ok ((es.findIdx? (fun p => decide (p.1 = s))).bind (fun i => (es[i]?).map (fun p => (0 + i, p.2)))) w := by
  have h1 := run_underlying (P := P) (w := w) hk
  simp only [Instr.findKey, Sem.run_bind, h1, Result.andThen_ok, findNow_str]
  simp
theorem run_checkKey {kt : TypeId} (hk : P.underlying kt = some .string) (s : List UInt8) (b : Bool) : (Instr.checkKey b 10000 kt (str s)).run P w = .ok () w := by
  have h1 := run_underlying (P := P) (w := w) hk
  show (Instr.checkKey b (9999 + 1) kt (str s)).run P w = .ok () w
  rw [Instr.checkKey]
  simp [h1]
end
end Go.Fw
end
section
namespace Go.Fw
open Go
abbrev HItem.mp (b : Nat) (es : Ents) : HItem := .obj b (.map (entsOf es 0).toArray es.length)
section
variable {P : Program} {N : Nat} {ds : List Deferred} {Q : Exit → Act → World → Prop} {K : Act → World → Prop} {l l' : Log} {w w' : World} {ops : Array Oper} {os : List Oper} {o : Oper}
variable {d : Nat} {ty : TypeId} {pos : String} {af : Array Edge} {g : Option (Nat × Bool)} {t t' : TypeId} {x y z : Operand}
variable {E : Ent} {I I' : Imm} {H H' R : List HItem}
theorem m_makeMap (hm : Mem E I H w) (hw : want ops l ⟨some d, .makeMap t none, ty, pos, af, g⟩ = some true := by rfl) (hN : Nat.blt d N = true := by rfl)
    (k : ∀ b w', Mem E I (.mp b [] :: H) w' → WL P N ds ops Q os ((d, .map (some b)) :: l) w') :
    WL P N ds ops Q (⟨some d, .makeMap t none, ty, pos, af, g⟩ :: os) l w :=
  op_makeMap hw hN (fun b w' hb hmp hk => k b w' (hm.add hk (by exact hmp.out) (fun b' hb' => by simp only [HItem.blk, Option.some.injEq] at hb'; omega)))
end
end Go.Fw
end
section
namespace Go.Fw
open Go
section
variable {P : Program} {N : Nat} {ds : List Deferred} {Q : Exit → Act → World → Prop} {K : Act → World → Prop} {l l' : Log} {w w' : World} {ops : Array Oper} {os : List Oper} {o : Oper}
variable {d : Nat} {ty : TypeId} {pos : String} {af : Array Edge} {g : Option (Nat × Bool)} {t t' : TypeId} {x y z : Operand}
variable {E : Ent} {I I' : Imm} {H H' R : List HItem}
/-- a deferred call: it returns, and 'Post' holds of the world. -/
structure CalD (P : Program) (f : FuncId) (args : Array Value) (w : World) (Post : World → Prop) : Prop where
  run : CallsD P f args .returning w (fun e u' w' => u' = .returning ∧ Ret (fun _ w' => Post w') e w')
theorem enterD {f : FuncId} {fn : Func} {c : Code} {args : Array Value} {Post : World → Prop} (hf : P.funcs[f]? = some fn) (hb : fn.body = some c)
    (l : Log) (hl : ∀ t v, lk l t = some v → args[t]? = some v) (hN : N = args.size + (fn.ntmps - args.size))
    (h : WC P N [] c (bodyPost P fn (Ret (fun _ w => Post w))) l w) : CalD P f args w Post :=
  ⟨callsD_of_wp hf hb (h.run _ (by rw [hN]; exact fits_enter _ _ _ hl))⟩
/-- into a function that may defer. -/
theorem enter_defers {f : FuncId} {fn : Func} {c : Code} {args : Array Value} {Post : Value → World → Prop} (hf : P.funcs[f]? = some fn) (hb : fn.body = some c)
    (l : Log) (hl : ∀ t v, lk l t = some v → args[t]? = some v) (hN : N = args.size + (fn.ntmps - args.size))
    (h : WC P N [] c (bodyPostD P fn (Ret Post)) l w) : Cal P f args w Post :=
  ⟨calls_of_wp_defers hf hb (h.run _ (by rw [hN]; exact fits_enter _ _ _ hl))⟩
theorem op_defer {f : FuncId} {caps : Array Value} {dst : Option Nat} (hd : dst = none := by rfl) (hw : want ops l ⟨dst, .defer ⟨.value x, #[], #[]⟩, ty, pos, af, g⟩ = some true := by rfl)
    (hx : ev l x = some (.func (.func f) #[] caps) := by rfl) (k : WL P N (⟨.fn (.func f) caps, #[]⟩ :: ds) ops Q os l w) : WL P N ds ops Q (⟨dst, .defer ⟨.value x, #[], #[]⟩, ty, pos, af, g⟩ :: os) l w :=
  wl_op hw fun a ha => by
    subst hd
    have h1 := ha.ev hx
    simp only [Oper.wp, execOp, resolve, Deferred.ofValue, h1, Sem.run_bind, Sem.run_pure, Result.andThen_ok, Oper.upon_defer, Act.put]
    refine k.run _ ⟨ha.size, ?_, ha.vals⟩
    simp [ha.defs]
/-- the end of a function that deferred one call; its result stands in a cell. -/
theorem at_retD_cell {fn : Func} {tr n b : Nat} {tc : TypeId} [TyAgg P tc n] {f : FuncId} [Own P f] {caps : Array Value} {Post : Value → World → Prop} (hr : fn.results = #[.cell tr tc])
    (hx : lk l tr = some (.pointer (some ⟨b, 0, none⟩))) {Pd : World → Prop} (hc : CalD P f caps w Pd)
    (hp : ∀ w', Pd w' → ∃ (c : List Value) (e : TypeId) (fr : Nat × Nat), w'.heap[b]? = some (.cells c.toArray e fr) ∧ c.length = n ∧ Post (.agg c.toArray) w') : At N [⟨.fn (.func f) caps, #[]⟩] (bodyPostD P fn (Ret Post)) .ret l w :=
  ⟨fun a ha => by
    show Leaves P fn a.tmps (Ret Post) a.defers .returning w
    rw [ha.defs]
    refine leaves_cons (by simp) (f := f) (args := caps) (by simp [invoke, run_callFunc]) (hc.run.mono (fun e u' w' ⟨h1, h2⟩ => ?_))
    subst h1
    cases e with
    | returned v =>
      obtain ⟨c, e, fr, h3, h4, h5⟩ := hp w' h2
      exact ⟨_, results_cell hr a.tmps w' (ha.vals tr _ hx) (run_loadAgg h3 h4 (fun j v hv => by simpa using hv)), h5⟩
    | panicked c => exact h2.elim
    | outgrown => exact h2.elim⟩
/-- the same, where its one result is a slot's. -/
theorem at_retD_tmp {fn : Func} {tr : Nat} {v : Value} {f : FuncId} [Own P f] {caps : Array Value} {Post : Value → World → Prop} (hr : fn.results = #[.tmp tr])
    (hx : lk l tr = some v) {Pd : World → Prop} (hc : CalD P f caps w Pd) (hp : ∀ w', Pd w' → Post v w') : At N [⟨.fn (.func f) caps, #[]⟩] (bodyPostD P fn (Ret Post)) .ret l w :=
  ⟨fun a ha => by
    show Leaves P fn a.tmps (Ret Post) a.defers .returning w
    rw [ha.defs]
    refine leaves_cons (by simp) (f := f) (args := caps) (by simp [invoke, run_callFunc]) (hc.run.mono (fun e u' w' ⟨h1, h2⟩ => ?_))
    subst h1
    cases e with
    | returned _ => exact ⟨v, by rw [results_tmp hr]; simp [Array.getD_eq_getD_getElem?, ha.vals tr _ hx], hp w' h2⟩
    | panicked c => exact h2.elim
    | outgrown => exact h2.elim⟩
/-- without a deferred call, in a function that may defer. -/
theorem at_retD0_tmp {fn : Func} {tr : Nat} {v : Value} {Post : Value → World → Prop} (hr : fn.results = #[.tmp tr] := by rfl) (hx : lk l tr = some v := by rfl) (h : Post v w) :
    At N [] (bodyPostD P fn (Ret Post)) .ret l w :=
  ⟨fun a ha => by
    show Leaves P fn a.tmps (Ret Post) a.defers .returning w
    rw [ha.defs]
    exact ⟨v, by rw [results_tmp hr]; simp [Array.getD_eq_getD_getElem?, ha.vals tr _ hx], h⟩⟩
theorem at_retD0_cell {fn : Func} {i tr n b : Nat} {tc : TypeId} [TyAgg P tc n] {c : List Value} {e : TypeId} {fr : Nat × Nat} {Post : Value → World → Prop} (hm : Mem E I H w) (hr : fn.results = #[.cell tr tc] := by rfl)
    (hx : lk l tr = some (.pointer (some ⟨b, 0, none⟩)) := by rfl) (hb : H[i]? = some (.obj b (.cells c.toArray e fr)) := by first | exact gt0 | exact gt1 | exact gt2 | exact gt3 | exact gt4 | exact gt5 | exact gt6) (hl : c.length = n := by rfl)
    (h : Post (.agg c.toArray) w) : At N [] (bodyPostD P fn (Ret Post)) .ret l w :=
  ⟨fun a ha => by
    show Leaves P fn a.tmps (Ret Post) a.defers .returning w
    rw [ha.defs]
    exact ⟨_, results_cell hr a.tmps w (ha.vals tr _ hx) (run_loadAgg (hm.get hb) hl (fun j v hv => by simpa using hv)), h⟩⟩
/-- over owned memory: the deferred call leaves 'H'', of which one block is the result. -/
theorem m_retD_cell {fn : Func} {i tr n b : Nat} {tc : TypeId} [TyAgg P tc n] {c : List Value} {e : TypeId} {fr : Nat × Nat} {f : FuncId} [Own P f] {caps : Array Value} {Post : Value → World → Prop} (hr : fn.results = #[.cell tr tc])
    (hx : lk l tr = some (.pointer (some ⟨b, 0, none⟩))) (hc : CalD P f caps w (fun w' => Mem E I H' w')) (hb : H'[i]? = some (.obj b (.cells c.toArray e fr))) (hl : c.length = n)
    (h : ∀ w', Mem E I H' w' → Post (.agg c.toArray) w') : At N [⟨.fn (.func f) caps, #[]⟩] (bodyPostD P fn (Ret Post)) .ret l w :=
  at_retD_cell hr hx hc (fun w' hm => ⟨c, e, fr, hm.get hb, hl, h w' hm⟩)
end
end Go.Fw
end
section
namespace Go.Fw
open Go
section
variable {P : Program} {N : Nat} {ds : List Deferred} {Q : Exit → Act → World → Prop} {K : Act → World → Prop} {KV : Act → Prop} {l l' : Log} {w w' w0 wd : World} {ops : Array Oper} {os os' tail : List Oper} {o : Oper}
variable {d : Nat} {ty : TypeId} {pos : String} {af : Array Edge} {g : Option (Nat × Bool)} {t t' : TypeId} {x y z : Operand}
variable {E : Ent} {I I' I0 : Imm} {H H' R G : List HItem} {X : List Nat}
/-- such a region: what its operations in turn may write ('G') apart, the rest beside. -/
theorem wc_semi_mem [Mixed P] {id : Nat} (hm : Mem E I (G ++ R) w) (q n : Nat) (hB : semiB os.toArray q n = true := by kernel_rfl)
    (h : ∀ wd, Mem E I (G ++ R) wd → Mem ⟨wd, blks G, I⟩ I G wd → WV P N ds os.toArray (blks G) wd (fun a' => seqV P os.toArray (fun w' => Kept (blks G) wd w') (fun a' w' => wpList P os.toArray Q (os.drop n) a' w') ((os.drop q).take (n - q)) a' wd) (os.take q) l) :
    WC P N ds (.region id os.toArray true) Q l w :=
  wc_semi q n (blks G) hB (fun wd hk => h wd (hm.kept0 hk) (hm.kept0 hk).sub)
theorem Mem.notG (hR : Mem E I (G ++ R) w) {i : Nat} {h : HItem} (hi : R[i]? = some h) {b : Nat} (hb : h.blk = some b) : b ∉ blks G := fun hx => by
  obtain ⟨k, hk, hkb⟩ := mem_blks hx
  exact (List.pairwise_append.1 hR.dist).2.2 k hk h (List.mem_of_getElem? hi) b hkb hb
theorem Mem.notGI (hR : Mem E I (G ++ R) w) {b : Nat} {o : Obj} (hb : I b = some o) : b ∉ blks G := fun hx => by
  obtain ⟨k, hk, hkb⟩ := mem_blks hx
  have := hR.free k (List.mem_append_left _ hk) b hkb
  rw [hb] at this; cases this
theorem mw_load1 [TyOne P t] {i b off : Nat} {c : List Value} {e : TypeId} {fr : Nat × Nat} {v : Value} (hR : Mem E I (G ++ R) w) (hw : want ops l ⟨some d, .load t x, ty, pos, af, g⟩ = some true := by rfl) (hN : Nat.blt d N = true := by rfl)
    (hx : ev l x = some (.pointer (some ⟨b, off, none⟩)) := by rfl) (hb : R[i]? = some (.obj b (.cells c.toArray e fr)) := by first | exact gt0 | exact gt1 | exact gt2 | exact gt3 | exact gt4 | exact gt5 | exact gt6) (hc : c[off]? = some v := by rfl)
    (k : WV P N ds ops (blks G) w KV os ((d, v) :: l)) : WV P N ds ops (blks G) w KV (⟨some d, .load t x, ty, pos, af, g⟩ :: os) l :=
  v_load1 hw hN hx (hR.right.get hb) (hR.notG hb rfl) (by simpa using hc) k
theorem mw_loadAll {n : Nat} [TyAgg P t n] {i b : Nat} {c : List Value} {e : TypeId} {fr : Nat × Nat} (hR : Mem E I (G ++ R) w) (hw : want ops l ⟨some d, .load t x, ty, pos, af, g⟩ = some true := by rfl) (hN : Nat.blt d N = true := by rfl)
    (hx : ev l x = some (.pointer (some ⟨b, 0, none⟩)) := by rfl) (hb : R[i]? = some (.obj b (.cells c.toArray e fr)) := by first | exact gt0 | exact gt1 | exact gt2 | exact gt3 | exact gt4 | exact gt5 | exact gt6) (hl : c.length = n := by rfl)
    (k : WV P N ds ops (blks G) w KV os ((d, .agg c.toArray) :: l)) : WV P N ds ops (blks G) w KV (⟨some d, .load t x, ty, pos, af, g⟩ :: os) l :=
  v_loadN hw hN hx (hR.right.get hb) (hR.notG hb rfl) hl (fun j v hv => by simpa using hv) k
theorem iw_load1 [TyOne P t] {b off j tc : Nat} {cs : List Value} {v : Value} (hR : Mem E I (G ++ R) w) (hw : want ops l ⟨some d, .load t x, ty, pos, af, g⟩ = some true := by rfl) (hN : Nat.blt d N = true := by rfl)
    (hx : ev l x = some (.pointer (some ⟨b, off + j, none⟩)) := by rfl) (hp : PtrI I b off tc cs := by assumption) (hc : cs[j]? = some v := by rfl)
    (k : WV P N ds ops (blks G) w KV os ((d, v) :: l)) : WV P N ds ops (blks G) w KV (⟨some d, .load t x, ty, pos, af, g⟩ :: os) l := by
  obtain ⟨c, fr, h1, h2⟩ := hp
  exact v_load1 hw hN hx (hR.inv _ _ h1) (hR.notGI h1) (h2 j v hc) k
/-- a call in turn. -/
theorem mt_call {f : FuncId} [Own P f] {xs : List Operand} {tys : Array TypeId} {vs : List Value} {Post : Value → Imm → List HItem → Prop} (hm : Mem ⟨w0, X, I0⟩ I G w)
    (hw : want ops l ⟨some d, .call ⟨.value (.func f), xs.toArray, tys⟩, ty, pos, af, g⟩ = some true := by rfl) (hN : Nat.blt d N = true := by rfl)
    (hx : evs l xs = some vs := by rfl) (hp : G.Perm (H ++ R) := by first | exact pm0 | exact pm1_0 | exact pm1_1 | exact pm1_2 | exact pm1_3 | exact pm2_0 | exact pm2_1 | exact pm2_2 | exact pm2_3 | exact pm2_4 | exact pm3_0 | exact pm3_1 | exact pm3_2) (hc : CalM P f vs.toArray I H Post)
    (k : ∀ v I' H' w', Post v I' H' → Le I I' → Mem ⟨w0, X, I0⟩ I' (H' ++ R) w' → WS P N ds ops Q X w0 os' tail ((d, v) :: l) w') :
    WS P N ds ops Q X w0 (⟨some d, .call ⟨.value (.func f), xs.toArray, tys⟩, ty, pos, af, g⟩ :: os') tail l w :=
  ws_enter rfl hw hN (fun a ha => by
    have := ha.evs hx
    simp [execOp, resolve, invoke, Act.eval, Deferred.ofValue, this, run_callFunc]) (hc.run w (hm.perm hp).sub) (fun v w' ⟨I', H', h1, h2⟩ =>
      have hm' := (hm.perm hp).back h2
      ⟨hm'.kept, k v I' H' w' h1 h2.le hm'⟩)
/-- 'append(s, u)' in turn, to an owned row. -/
theorem mt_push {e : TypeId} {sz by_ : Nat} [TySlice P t e] [Elem P e sz by_] {d1 i : Nat} {s : Operand} {v u : Value} {n : Nat} {xs us : List Value}
    {ty' : TypeId} {pos' : String} {af' : Array Edge} (hm : Mem ⟨w0, X, I0⟩ I H w) (hN1 : Nat.blt d1 N = true := by rfl) (hN : Nat.blt d N = true := by rfl)
    (hs : ev l s = some v := by rfl) (hne : neTmp s d1 = true := by rfl) (hx : ev l x = some u := by rfl) (hi : H[i]? = some (.row v e sz n xs) := by first | exact gt0 | exact gt1 | exact gt2 | exact gt3 | exact gt4 | exact gt5 | exact gt6) (hus : u.cells.toList = us := by rfl) (hu : us.length = sz := by rfl) (h1 : us.all (·.oneCell') = true := by rfl)
    (hsz : Nat.ble sz 1024 = true := by rfl) (hlen : (n + 1) * by_ ≤ 140737488355328 := by omega) (h63 : n + 1 ≤ 9223372036854775807 := by omega)
    (k : ∀ a cp b1 w', Mem ⟨w0, X, I0⟩ I (H.set i (.row (.slice a (n + 1) cp) e sz (n + 1) (xs ++ us))) w' → WL P N ds ops Q tail ((d, .slice a (n + 1) cp) :: (d1, .slice (some ⟨b1, 0, none⟩) 1 1) :: l) w') :
    WS P N ds ops Q X w0 [⟨some d1, .buildSlice t 1 #[(0, x)], ty, pos, af, none⟩, ⟨some d, .call ⟨.builtin .append, #[s, .tmp d1], #[t, t]⟩, ty', pos', af', none⟩] tail l w := by
  subst hus
  obtain ⟨i', z, hi', hz, hs', hby, hzc, hpos⟩ := Elem.out (P := P) (e := e)
  have h6 := fun w => run_underlying (P := P) (w := w) (TySlice.out (P := P) (t := t))
  have hs2 : ev ((d1, .slice (some ⟨w.heap.size, 0, none⟩) 1 1) :: l) s = some v := ev_ne hne hs
  have hown := hm.getRow hi
  have hu' : u.cells.size = sz := by simpa using hu
  have hown2 : (w.alloc (.cells u.cells e (0, 0))).ownsRow 0 e sz v n xs := hown.alloc _
  obtain ⟨v', w', hr, ho, hk, hb⟩ := run_append (P := P) (t := t) hown2 ⟨w.heap.size, 0, none⟩ 1 1 u.cells.toList (by simp [hu']) (fun j r hj => by
      rw [Addr.add_lit]; exact cell_of (heap_alloc_new w _) (by simpa using hj)) (fun r hr => List.all_eq_true.1 h1 r hr) h63 hlen (by simp) ty'
  have hk2 : Kept v.ownBlock.toList w w' := ((Kept.alloc w _).mono (fun _ h => by cases h)).trans hk
  have hb2 : v'.ownBlock = v.ownBlock ∨ ∃ g, v'.ownBlock = some g ∧ w.heap.size ≤ g := hb.imp_right fun ⟨g, h1, h2⟩ => ⟨g, h1, by simp at h2; omega⟩
  have hm' := hm.turn (h' := .row v' e sz (n + 1) (xs ++ u.cells.toList)) hi hk2 ho hb2
  refine ws_value (w' := w.alloc (.cells u.cells e (0, 0))) (v := .slice (some ⟨w.heap.size, 0, none⟩) 1 1) rfl rfl hN1 (fun a ha => ?_) (hm.kept.step0 (Kept.alloc w _)) ?_
  · have hz0 : ¬ (2 ^ 24 < sz) := by have := Nat.le_of_ble_eq_true hsz; omega
    have hz1 : ¬ (sz = 0) := by omega
    have hf := fill_one hu' ((Array.range sz).map (z.cells[· % z.cells.size]!)) (by simp)
    simp [execOp, Instr.buildSlice, h6, sizeOf, typeInfo, hi', hs', zeroValue, hz, ha.ev hx, hz0, hz1, hf, newRow, newObj]
    rfl
  · refine ws_value (w' := w') (v := v') rfl rfl hN (fun a ha => ?_) hm'.kept (ws_nil ?_)
    · have e1 := ha.ev hs2
      have e2 : a.eval (.tmp d1) = .slice (some ⟨w.heap.size, 0, none⟩) 1 1 := ha.ev (by simp [ev, lk])
      simp [execOp, resolve, invoke, builtin, e1, e2, hr]
    · have hlt : i < H.length := (List.getElem?_eq_some_iff.1 hi).1
      obtain ⟨a, cp, rfl⟩ := own_val (hm'.getRow (i := i) (by rw [List.getElem?_set]; simp [hlt]; exact ⟨rfl, rfl, rfl, rfl, rfl⟩))
      exact k a cp _ w' hm'
end
end Go.Fw
end
