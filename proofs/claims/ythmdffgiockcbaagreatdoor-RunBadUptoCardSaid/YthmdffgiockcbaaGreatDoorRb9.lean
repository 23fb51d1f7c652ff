/- Own work: texts TreeM, FwInt2, FwM4, FwMap, FwM5, FwD, FwS2, FwS3, one behind the other. -/
import Derived.Test.YthmdffgiockcbaaGreatDoorRb8
import Derived.Laws.BytesString
import Derived.Lib.ConvBytes
import Derived.Laws.AppendOwn
import Derived.MapKept
import Derived.Defers
section
namespace Go.Proofs.YthmdffgiockcbaaGreatDoor
open Go.Fw
abbrev ptr (b : Nat) : Value := .pointer (some ⟨b, 0, none⟩)
abbrev nt (n : Nat) : Value := .int .i64 (n : Int)
mutual
def ExAt (I : Imm) : Sp.Ex → List Value → Prop
  | .mk k nm n args f t, cs => ∃ a cap xs, cs = [nt k, str nm, nt n, .slice a args.length cap, nt f, nt t] ∧ RowI I 102 6 (.slice a args.length cap) args.length xs ∧ ExsAt I args xs
def ExsAt (I : Imm) : List Sp.Ex → List Value → Prop
  | [], xs => xs = []
  | e :: es, xs => ∃ c r, xs = c ++ r ∧ ExAt I e c ∧ ExsAt I es r
 end
mutual
theorem ExAt.le {I I' : Imm} (m : Le I I') : ∀ (e : Sp.Ex) (cs : List Value), ExAt I e cs → ExAt I' e cs
  | .mk k nm n args f t, cs, h => by
    rw [ExAt] at h ⊢
    obtain ⟨a, cap, xs, h1, h2, h3⟩ := h
    exact ⟨a, cap, xs, h1, h2.le m, ExsAt.le m _ _ h3⟩
theorem ExsAt.le {I I' : Imm} (m : Le I I') : ∀ (es : List Sp.Ex) (xs : List Value), ExsAt I es xs → ExsAt I' es xs
  | [], xs, h => by rw [ExsAt] at h ⊢; exact h
  | e :: es, xs, h => by
    rw [ExsAt] at h ⊢
    obtain ⟨c, r, h1, h2, h3⟩ := h
    exact ⟨c, r, h1, ExAt.le m _ _ h2, ExsAt.le m _ _ h3⟩
 end
theorem ExAt.out {I : Imm} {e : Sp.Ex} {cs : List Value} (h : ExAt I e cs) :
    ∃ a cap xs, cs = [nt e.kind, str e.name, nt e.n, .slice a e.args.length cap, nt e.fr, nt e.to] ∧ RowI I 102 6 (.slice a e.args.length cap) e.args.length xs ∧ ExsAt I e.args xs := by
  cases e with
  | mk k nm n args f t => rw [ExAt] at h; exact h
theorem ExAt.of {I : Imm} {k n f t cap : Nat} {nm : List UInt8} {a : Option Addr} {args : List Sp.Ex} {xs : List Value} (h2 : RowI I 102 6 (.slice a args.length cap) args.length xs) (h3 : ExsAt I args xs) :
    ExAt I (.mk k nm n args f t) [nt k, str nm, nt n, .slice a args.length cap, nt f, nt t] := by
  rw [ExAt]; exact ⟨a, cap, xs, rfl, h2, h3⟩
theorem ExAt.len {I : Imm} {e : Sp.Ex} {cs : List Value} (h : ExAt I e cs) : cs.length = 6 := by
  obtain ⟨_, _, _, rfl, _⟩ := h.out; rfl
theorem ExsAt.len {I : Imm} : ∀ {es : List Sp.Ex} {xs : List Value}, ExsAt I es xs → xs.length = es.length * 6
  | [], xs, h => by rw [ExsAt] at h; simp [h]
  | e :: es, xs, h => by
    rw [ExsAt] at h
    obtain ⟨c, r, rfl, h2, h3⟩ := h
    rw [List.length_append, h2.len, h3.len, List.length_cons, Nat.add_mul]; omega
theorem ExsAt.nil {I : Imm} : ExsAt I [] [] := by rw [ExsAt]
theorem ExsAt.snoc {I : Imm} : ∀ {es : List Sp.Ex} {xs c : List Value} {e : Sp.Ex}, ExsAt I es xs → ExAt I e c → ExsAt I (es ++ [e]) (xs ++ c)
  | [], xs, c, e, h, he => by
    rw [ExsAt] at h
    subst h
    rw [List.nil_append, List.nil_append, ExsAt]
    exact ⟨c, [], by simp, he, by rw [ExsAt]⟩
  | a :: es, xs, c, e, h, he => by
    rw [ExsAt] at h
    obtain ⟨c1, r, rfl, h2, h3⟩ := h
    rw [List.cons_append, ExsAt]
    exact ⟨c1, r ++ c, by rw [List.append_assoc], h2, h3.snoc he⟩
theorem ExsAt.get {I : Imm} : ∀ {es : List Sp.Ex} {xs : List Value} {i : Nat} {e : Sp.Ex}, ExsAt I es xs → es[i]? = some e → ExAt I e ((xs.drop (i * 6)).take 6)
  | [], _, _, _, _, he => by simp at he
  | a :: es, xs, 0, e, h, he => by
    rw [ExsAt] at h
    obtain ⟨c, r, rfl, h2, h3⟩ := h
    simp only [List.getElem?_cons_zero, Option.some.injEq] at he
    subst he
    rw [Nat.zero_mul, List.drop_zero, List.take_append_of_le_length (by rw [h2.len]; omega), List.take_of_length_le (by rw [h2.len]; omega)]
    exact h2
  | a :: es, xs, i + 1, e, h, he => by
    rw [ExsAt] at h
    obtain ⟨c, r, rfl, h2, h3⟩ := h
    rw [List.getElem?_cons_succ] at he
    have := h3.get he
    rw [List.drop_append, List.drop_of_length_le (by rw [h2.len]; omega), List.nil_append, h2.len, show (i + 1) * 6 - 6 = i * 6 by omega]
    exact this
end Go.Proofs.YthmdffgiockcbaaGreatDoor
namespace Go.Proofs.YthmdffgiockcbaaGreatDoor
open Go.Fw
abbrev stCells (k : Nat) (nm : List UInt8) (a lb : Nat) (o : Bool) (e : Sp.Ex) (ea : Option Addr) (ec : Nat) (v1 v2 : Value) (f t : Nat) : List Value :=
  [nt k, str nm, nt a, nt lb, .bool o, nt e.kind, str e.name, nt e.n, .slice ea e.args.length ec, nt e.fr, nt e.to, v1, v2, nt f, nt t]
mutual
def StAt (I : Imm) : Sp.Stm → List Value → Prop
  | .mk k nm a lb o e thn els f t, cs => ∃ ea ec ex a1 c1 xs1 a2 c2 xs2, cs = stCells k nm a lb o e ea ec (.slice a1 thn.length c1) (.slice a2 els.length c2) f t ∧
    RowI I 102 6 (.slice ea e.args.length ec) e.args.length ex ∧ ExsAt I e.args ex ∧
    RowI I 104 15 (.slice a1 thn.length c1) thn.length xs1 ∧ StsAt I thn xs1 ∧ RowI I 104 15 (.slice a2 els.length c2) els.length xs2 ∧ StsAt I els xs2
def StsAt (I : Imm) : List Sp.Stm → List Value → Prop
  | [], xs => xs = []
  | e :: es, xs => ∃ c r, xs = c ++ r ∧ StAt I e c ∧ StsAt I es r
 end
mutual
theorem StAt.le {I I' : Imm} (m : Le I I') : ∀ (e : Sp.Stm) (cs : List Value), StAt I e cs → StAt I' e cs
  | .mk k nm a lb o e thn els f t, cs, h => by
    rw [StAt] at h ⊢
    obtain ⟨ea, ec, ex, a1, c1, xs1, a2, c2, xs2, h1, h2, h3, h4, h5, h6, h7⟩ := h
    exact ⟨ea, ec, ex, a1, c1, xs1, a2, c2, xs2, h1, h2.le m, ExsAt.le m _ _ h3, h4.le m, StsAt.le m _ _ h5, h6.le m, StsAt.le m _ _ h7⟩
theorem StsAt.le {I I' : Imm} (m : Le I I') : ∀ (es : List Sp.Stm) (xs : List Value), StsAt I es xs → StsAt I' es xs
  | [], xs, h => by rw [StsAt] at h ⊢; exact h
  | e :: es, xs, h => by
    rw [StsAt] at h ⊢
    obtain ⟨c, r, h1, h2, h3⟩ := h
    exact ⟨c, r, h1, StAt.le m _ _ h2, StsAt.le m _ _ h3⟩
 end
theorem StAt.out {I : Imm} {s : Sp.Stm} {cs : List Value} (h : StAt I s cs) : ∃ ea ec ex a1 c1 xs1 a2 c2 xs2, cs = stCells s.kind s.name s.at_ s.label s.opn s.e ea ec (.slice a1 s.thn.length c1) (.slice a2 s.els.length c2) s.fr s.to ∧
    RowI I 102 6 (.slice ea s.e.args.length ec) s.e.args.length ex ∧ ExsAt I s.e.args ex ∧
    RowI I 104 15 (.slice a1 s.thn.length c1) s.thn.length xs1 ∧ StsAt I s.thn xs1 ∧ RowI I 104 15 (.slice a2 s.els.length c2) s.els.length xs2 ∧ StsAt I s.els xs2 := by
  cases s with
  | mk k nm a lb o e thn els f t => rw [StAt] at h; exact h
theorem StAt.of {I : Imm} {k a lb f t ec c1 c2 : Nat} {nm : List UInt8} {o : Bool} {e : Sp.Ex} {thn els : List Sp.Stm} {ea a1 a2 : Option Addr} {ex xs1 xs2 : List Value}
    (h2 : RowI I 102 6 (.slice ea e.args.length ec) e.args.length ex) (h3 : ExsAt I e.args ex)
    (h4 : RowI I 104 15 (.slice a1 thn.length c1) thn.length xs1) (h5 : StsAt I thn xs1) (h6 : RowI I 104 15 (.slice a2 els.length c2) els.length xs2) (h7 : StsAt I els xs2) :
    StAt I (.mk k nm a lb o e thn els f t) (stCells k nm a lb o e ea ec (.slice a1 thn.length c1) (.slice a2 els.length c2) f t) := by
  rw [StAt]; exact ⟨ea, ec, ex, a1, c1, xs1, a2, c2, xs2, rfl, h2, h3, h4, h5, h6, h7⟩
theorem StAt.len {I : Imm} {e : Sp.Stm} {cs : List Value} (h : StAt I e cs) : cs.length = 15 := by
  obtain ⟨_, _, _, _, _, _, _, _, _, rfl, _⟩ := h.out; rfl
theorem StsAt.len {I : Imm} : ∀ {es : List Sp.Stm} {xs : List Value}, StsAt I es xs → xs.length = es.length * 15
  | [], xs, h => by rw [StsAt] at h; simp [h]
  | e :: es, xs, h => by
    rw [StsAt] at h
    obtain ⟨c, r, rfl, h2, h3⟩ := h
    rw [List.length_append, h2.len, h3.len, List.length_cons, Nat.add_mul]; omega
theorem StsAt.nil {I : Imm} : StsAt I [] [] := by rw [StsAt]
theorem StsAt.snoc {I : Imm} : ∀ {es : List Sp.Stm} {xs c : List Value} {e : Sp.Stm}, StsAt I es xs → StAt I e c → StsAt I (es ++ [e]) (xs ++ c)
  | [], xs, c, e, h, he => by
    rw [StsAt] at h
    subst h
    rw [List.nil_append, List.nil_append, StsAt]
    exact ⟨c, [], by simp, he, by rw [StsAt]⟩
  | a :: es, xs, c, e, h, he => by
    rw [StsAt] at h
    obtain ⟨c1, r, rfl, h2, h3⟩ := h
    rw [List.cons_append, StsAt]
    exact ⟨c1, r ++ c, by rw [List.append_assoc], h2, h3.snoc he⟩
theorem StsAt.get {I : Imm} : ∀ {es : List Sp.Stm} {xs : List Value} {i : Nat} {e : Sp.Stm}, StsAt I es xs → es[i]? = some e → StAt I e ((xs.drop (i * 15)).take 15)
  | [], _, _, _, _, he => by simp at he
  | a :: es, xs, 0, e, h, he => by
    rw [StsAt] at h
    obtain ⟨c, r, rfl, h2, h3⟩ := h
    simp only [List.getElem?_cons_zero, Option.some.injEq] at he
    subst he
    rw [Nat.zero_mul, List.drop_zero, List.take_append_of_le_length (by rw [h2.len]; omega), List.take_of_length_le (by rw [h2.len]; omega)]
    exact h2
  | a :: es, xs, i + 1, e, h, he => by
    rw [StsAt] at h
    obtain ⟨c, r, rfl, h2, h3⟩ := h
    rw [List.getElem?_cons_succ] at he
    have := h3.get he
    rw [List.drop_append, List.drop_of_length_le (by rw [h2.len]; omega), List.nil_append, h2.len, show (i + 1) * 15 - 15 = i * 15 by omega]
    exact this
abbrev encDg (d : Sp.Dg) : List Value := [nt d.fr, nt d.to, nt d.err, str d.name]
abbrev encPar (p : Sp.Par) : List Value := [str p.name, nt p.label, nt p.at_]
abbrev encRf (p : Sp.Rf) : List Value := [str p.name, nt p.at_]
abbrev itCells (k : Nat) (nm : List UInt8) (lb : Nat) (vp vs vb : Value) (a : Int) (sz mk : Nat) (vd : Value) : List Value := [nt k, str nm, nt lb, vp, vs, vb, .int .i64 a, nt sz, nt mk, vd]
def ItAt (I : Imm) (it : Sp.Itm) (cs : List Value) : Prop := ∃ ap cp as_ cs' ab cb ad cd xb, cs = itCells it.kind it.name it.label (.slice ap it.params.length cp) (.slice as_ it.sends.length cs') (.slice ab it.body.length cb) it.at_ it.size it.mark (.slice ad it.diags.length cd) ∧
  RowI I 65 3 (.slice ap it.params.length cp) it.params.length (it.params.flatMap encPar) ∧ RowI I 61 2 (.slice as_ it.sends.length cs') it.sends.length (it.sends.flatMap encRf) ∧
  RowI I 104 15 (.slice ab it.body.length cb) it.body.length xb ∧ StsAt I it.body xb ∧ RowI I 154 4 (.slice ad it.diags.length cd) it.diags.length (it.diags.flatMap encDg)
theorem ItAt.le {I I' : Imm} (m : Le I I') {it : Sp.Itm} {cs : List Value} (h : ItAt I it cs) : ItAt I' it cs := by
  obtain ⟨ap, cp, as_, cs', ab, cb, ad, cd, xb, h1, h2, h3, h4, h5, h6⟩ := h
  exact ⟨ap, cp, as_, cs', ab, cb, ad, cd, xb, h1, h2.le m, h3.le m, h4.le m, h5.le m, h6.le m⟩
theorem ItAt.len {I : Imm} {it : Sp.Itm} {cs : List Value} (h : ItAt I it cs) : cs.length = 10 := by
  obtain ⟨_, _, _, _, _, _, _, _, _, rfl, _⟩ := h; rfl
def ItsAt (I : Imm) : List Sp.Itm → List Value → Prop
  | [], xs => xs = []
  | e :: es, xs => ∃ c r, xs = c ++ r ∧ ItAt I e c ∧ ItsAt I es r
theorem ItsAt.le {I I' : Imm} (m : Le I I') : ∀ {es : List Sp.Itm} {xs : List Value}, ItsAt I es xs → ItsAt I' es xs
  | [], _, h => h
  | _ :: _, _, ⟨c, r, h1, h2, h3⟩ => ⟨c, r, h1, h2.le m, h3.le m⟩
theorem ItsAt.snoc {I : Imm} : ∀ {es : List Sp.Itm} {xs c : List Value} {e : Sp.Itm}, ItsAt I es xs → ItAt I e c → ItsAt I (es ++ [e]) (xs ++ c)
  | [], xs, c, e, h, he => by
    obtain rfl : xs = [] := h
    exact ⟨c, [], by simp, he, rfl⟩
  | a :: es, xs, c, e, ⟨c1, r, e1, h2, h3⟩, he => ⟨c1, r ++ c, by rw [e1, List.append_assoc], h2, h3.snoc he⟩
theorem ItsAt.get {I : Imm} : ∀ {es : List Sp.Itm} {xs : List Value} {i : Nat} {e : Sp.Itm}, ItsAt I es xs → es[i]? = some e → ItAt I e ((xs.drop (i * 10)).take 10)
  | [], _, _, _, _, he => by simp at he
  | a :: es, xs, 0, e, h, he => by
    obtain ⟨c, r, rfl, h2, h3⟩ := h
    simp only [List.getElem?_cons_zero, Option.some.injEq] at he
    subst he
    rw [Nat.zero_mul, List.drop_zero, List.take_append_of_le_length (by rw [h2.len]; omega), List.take_of_length_le (by rw [h2.len]; omega)]
    exact h2
  | a :: es, xs, i + 1, e, h, he => by
    obtain ⟨c, r, rfl, h2, h3⟩ := h
    rw [List.getElem?_cons_succ] at he
    have := h3.get he
    rw [List.drop_append, List.drop_of_length_le (by rw [h2.len]; omega), List.nil_append, h2.len, show (i + 1) * 10 - 10 = i * 10 by omega]
    exact this
theorem ItsAt.len {I : Imm} : ∀ {es : List Sp.Itm} {xs : List Value}, ItsAt I es xs → xs.length = es.length * 10
  | [], xs, h => by obtain rfl : xs = [] := h; rfl
  | e :: es, xs, ⟨c, r, e1, h2, h3⟩ => by
    rw [e1, List.length_append, h2.len, h3.len, List.length_cons, Nat.add_mul]; omega
end Go.Proofs.YthmdffgiockcbaaGreatDoor
end
section
namespace Go.Fw
open Go
section
variable {P : Program} {N : Nat} {ds : List Deferred} {Q : Exit → Act → World → Prop} {l l' : Log} {w w' : World} {ops : Array Oper} {os : List Oper} {o : Oper}
variable {d : Nat} {ty : TypeId} {pos : String} {af : Array Edge} {g : Option (Nat × Bool)} {t t' : TypeId} {x y : Operand} {ik : IntKind}

theorem Kept.of_below {w w' : World} (h : RowKit.Below w.heap.size w w') : Kept [] w w' := ⟨h.os, h.tape, h.output, h.size, fun k hk _ => h.block k hk⟩
end
end Go.Fw
end
section
namespace Go.Fw
open Go
section
variable {P : Program} {N : Nat} {ds : List Deferred} {Q : Exit → Act → World → Prop} {K : Act → World → Prop} {l l' : Log} {w w' : World} {ops : Array Oper} {os : List Oper} {o : Oper}
variable {d : Nat} {ty : TypeId} {pos : String} {af : Array Edge} {g : Option (Nat × Bool)} {t t' : TypeId} {x y z : Operand}
variable {E : Ent} {I I' : Imm} {H H' R : List HItem}
theorem wc_midb {α : Type} {c : Code} (id : Nat) (L : α → Log) (J : α → World → Prop)
    (h : WC P N ds c (Exit.inBlock id (Exit.then (fun a w => ∃ x, Fits N ds (L x) a ∧ J x w) Q)) l w) (k : ∀ x w, J x w → At N ds Q .normal (L x) w) : WC P N ds (.block id c) Q l w :=
  ⟨fun a ha => wp_mono ((wc_block h).run a ha) (fun e a w q => by
    cases e <;> first | exact q | (obtain ⟨x, hx, hj⟩ := q; exact (k x w hj).run a hx))⟩
theorem Mem.take {ty sz n : Nat} {v : Value} {xs : List Value} (hm : Mem E I H w) (k : Kept [] w w') (ho : w'.ownsRow w.heap.size ty sz v n xs) : ∃ I', Le I I' ∧ Mem E I' H w' ∧ RowI I' ty sz v n xs :=
  (hm.add (x := .row v ty sz n xs) k (ownsRow_base ho (Nat.zero_le _)) (fun b hb => (ho.lt b hb).1)).freeze
theorem Mem.fresh (hm : Mem E I H w) (k : Kept [] w w') {b : Nat} {o : Obj} (hb : w.heap.size ≤ b) (ho : w'.heap[b]? = some o) : Le I (I.add b o) ∧ Mem E (I.add b o) H w' := by
  have hf := hm.inv.fresh hb
  refine ⟨Le.add hf, (hm.kept0 k).freezeB ho hf (.inr (Nat.le_trans hm.kept.size hb)) (fun h hh e => ?_)⟩
  have := (hm.ok h hh).lt e
  omega
theorem bytes_kept (w : World) (e : TypeId) (s : ByteArray) : Kept [] w (Lib.bytesWorld w e s) :=
  ⟨rfl, rfl, rfl, by rw [Lib.bytesWorld_size]; omega, fun k hk _ => Lib.bytesWorld_at_old w e s k hk⟩
theorem i_buildSlice {e : TypeId} {sz by_ n : Nat} [TySlice P t e] [Elem P e sz by_] {ps : List (Nat × Operand)} {vs : List (Nat × Value)} {xs : List Value} (hm : Mem E I H w)
    (hw : want ops l ⟨some d, .buildSlice t n ps.toArray, ty, pos, af, g⟩ = some true := by rfl) (hN : Nat.blt d N = true := by rfl) (hx : evp l ps = some vs := by rfl)
    (hi : vs.map (·.1) = List.range' 0 n := by rfl) (hs : vs.all (fun p => Nat.beq p.2.cells.toList.length sz) = true := by rfl) (hn : Nat.ble (n * sz) 16777216 = true := by rfl) (hxs : vs.flatMap (·.2.cells.toList) = xs := by rfl)
    (k : ∀ I' a w', Le I I' → Mem E I' H w' → RowI I' e sz (.slice a n n) n xs → WL P N ds ops Q os ((d, .slice a n n) :: l) w') :
    WL P N ds ops Q (⟨some d, .buildSlice t n ps.toArray, ty, pos, af, g⟩ :: os) l w := by
  subst hxs
  refine op_buildSlice hw hN hx hi hs (Nat.le_of_ble_eq_true hn) (fun b w' hb hh hk => ?_)
  obtain ⟨h1, h2⟩ := hm.fresh hk (Nat.le_of_eq hb.symm) hh
  refine k _ _ w' h1 h2 ⟨?_, _, _, rfl, Nat.le_refl _, fun _ => ⟨b, 0, _, (_, _), rfl, Imm.add_self _ _ _, fun j u hj => by rw [Nat.zero_add]; simpa using hj⟩⟩
  have hlen : vs.length = n := by have := congrArg List.length hi; simpa using this
  have key : ∀ (vs : List (Nat × Value)), vs.all (fun p => Nat.beq p.2.cells.toList.length sz) = true → (vs.flatMap (·.2.cells.toList)).length = vs.length * sz := by
    intro vs
    induction vs with
    | nil => intro _; simp
    | cons p vs ih =>
      intro h
      rw [List.all_cons, Bool.and_eq_true] at h
      rw [List.flatMap_cons, List.length_append, ih h.2, Nat.eq_of_beq_eq_true h.1, List.length_cons, Nat.add_mul]; omega
  rw [key vs hs, hlen]
end
end Go.Fw
end
section
namespace Go.Fw
open Go
abbrev Ents := List (List UInt8 × Value)
def entsOf (es : Ents) (n : Nat) : List MapEntry := (es.zipIdx n).map (fun p => { key := str p.1.1, val := p.1.2, born := p.2 })
class TyMap (P : Program) (t : TypeId) (k e : outParam TypeId) : Prop where out : P.underlying t = some (.map k e)
structure MapAt (w : World) (b : Nat) (es : Ents) : Prop where
  out : w.heap[b]? = some (.map (entsOf es 0).toArray es.length)
  nodup : (es.map (·.1)).Nodup
theorem findNow_str (s : List UInt8) : ∀ (es : Ents) (n m : Nat), Instr.findNow .string (str s) (entsOf es n) m = some ((es.findIdx? (fun p => decide (p.1 = s))).bind (fun i => (es[i]?).map (fun p => (m + i, p.2))))
  | [], n, m => rfl
  | (u, v) :: es, n, m => by
    have ih := findNow_str s es (n + 1) (m + 1)
    simp only [entsOf, List.zipIdx_cons, List.map_cons, Instr.findNow, Instr.sameNow] at ih ⊢
    have e1 : ((⟨s.toArray⟩ : ByteArray) == ⟨u.toArray⟩) = decide (u = s) := by
      rw [show ((⟨s.toArray⟩ : ByteArray) == ⟨u.toArray⟩) = (s.toArray == u.toArray) from rfl, Bool.eq_iff_iff]
      constructor
      · intro h
        have h2 : s = u := by simpa using h
        exact decide_eq_true h2.symm
      · intro h
        rw [of_decide_eq_true h]
        simp
    rw [e1, List.findIdx?_cons]
    cases hd : decide (u = s) with
    | true => simp
    | false =>
      simp only
      rw [ih]
      congr 1
      cases hf : es.findIdx? (fun p => decide (p.1 = s)) with
      | none => simp
      | some i => simp [Nat.add_comm, Nat.add_left_comm]
section
variable {P : Program} {N : Nat} {ds : List Deferred} {Q : Exit → Act → World → Prop} {l l' : Log} {w w' : World} {ops : Array Oper} {os : List Oper} {o : Oper}
variable {d : Nat} {ty : TypeId} {pos : String} {af : Array Edge} {g : Option (Nat × Bool)} {t t' : TypeId} {x y z : Operand}

theorem op_makeMap (hw : want ops l ⟨some d, .makeMap t none, ty, pos, af, g⟩ = some true) (hN : Nat.blt d N = true)
    (k : ∀ b w', b = w.heap.size → MapAt w' b [] → Kept [] w w' → WL P N ds ops Q os ((d, .map (some b)) :: l) w') :
    WL P N ds ops Q (⟨some d, .makeMap t none, ty, pos, af, g⟩ :: os) l w :=
  wl_value (w' := w.alloc (.map #[] 0)) rfl hw hN (fun a ha => by
    simp [execOp, Instr.makeMap, newObj]; rfl) (k w.heap.size _ rfl ⟨heap_alloc_new w _, by simp⟩ (Kept.alloc w _))
def mlook (es : Ents) (s : List UInt8) (z : Value) : Value := ((es.find? (fun p => decide (p.1 = s))).map (·.2)).getD z
theorem find_idx (es : Ents) (s : List UInt8) : (es.findIdx? (fun p => decide (p.1 = s))).bind (fun i => (es[i]?).map (·.2)) = (es.find? (fun p => decide (p.1 = s))).map (·.2) := by
  induction es with
  | nil => rfl
  | cons p es ih =>
    rw [List.findIdx?_cons, List.find?_cons]
    cases hd : decide (p.1 = s) with
    | true => simp
    | false =>
      simp only [Bool.false_eq_true, if_false]
      rw [← ih]
      cases es.findIdx? (fun p => decide (p.1 = s)) <;> simp
theorem run_findKey {kt : TypeId} (hk : P.underlying kt = some .string) (s : List UInt8) (es : Ents) (n : Nat) :
    (Instr.findKey kt (str s) (entsOf es n)).run P w = .ok ((es.findIdx? (fun p => decide (p.1 = s))).bind (fun i => (es[i]?).map (fun p => (0 + i, p.2)))) w := by
  have h1 := run_underlying (P := P) (w := w) hk
  simp only [Instr.findKey, Sem.run_bind, h1, Result.andThen_ok, findNow_str]
  simp
theorem run_checkKey {kt : TypeId} (hk : P.underlying kt = some .string) (s : List UInt8) (b : Bool) : (Instr.checkKey b 10000 kt (str s)).run P w = .ok () w := by
  have h1 := run_underlying (P := P) (w := w) hk
  show (Instr.checkKey b (9999 + 1) kt (str s)).run P w = .ok () w
  rw [Instr.checkKey]
  simp [h1]
end
end Go.Fw
end
section
namespace Go.Fw
open Go
abbrev HItem.mp (b : Nat) (es : Ents) : HItem := .obj b (.map (entsOf es 0).toArray es.length)
section
variable {P : Program} {N : Nat} {ds : List Deferred} {Q : Exit → Act → World → Prop} {K : Act → World → Prop} {l l' : Log} {w w' : World} {ops : Array Oper} {os : List Oper} {o : Oper}
variable {d : Nat} {ty : TypeId} {pos : String} {af : Array Edge} {g : Option (Nat × Bool)} {t t' : TypeId} {x y z : Operand}
variable {E : Ent} {I I' : Imm} {H H' R : List HItem}
theorem m_makeMap (hm : Mem E I H w) (hw : want ops l ⟨some d, .makeMap t none, ty, pos, af, g⟩ = some true := by rfl) (hN : Nat.blt d N = true := by rfl)
    (k : ∀ b w', Mem E I (.mp b [] :: H) w' → WL P N ds ops Q os ((d, .map (some b)) :: l) w') :
    WL P N ds ops Q (⟨some d, .makeMap t none, ty, pos, af, g⟩ :: os) l w :=
  op_makeMap hw hN (fun b w' hb hmp hk => k b w' (hm.add hk (by exact hmp.out) (fun b' hb' => by simp only [HItem.blk, Option.some.injEq] at hb'; omega)))
end
end Go.Fw
end
section
namespace Go.Fw
open Go
section
variable {P : Program} {N : Nat} {ds : List Deferred} {Q : Exit → Act → World → Prop} {K : Act → World → Prop} {l l' : Log} {w w' : World} {ops : Array Oper} {os : List Oper} {o : Oper}
variable {d : Nat} {ty : TypeId} {pos : String} {af : Array Edge} {g : Option (Nat × Bool)} {t t' : TypeId} {x y z : Operand}
variable {E : Ent} {I I' : Imm} {H H' R : List HItem}
structure CalD (P : Program) (f : FuncId) (args : Array Value) (w : World) (Post : World → Prop) : Prop where
  run : CallsD P f args .returning w (fun e u' w' => u' = .returning ∧ Ret (fun _ w' => Post w') e w')
theorem enterD {f : FuncId} {fn : Func} {c : Code} {args : Array Value} {Post : World → Prop} (hf : P.funcs[f]? = some fn) (hb : fn.body = some c)
    (l : Log) (hl : ∀ t v, lk l t = some v → args[t]? = some v) (hN : N = args.size + (fn.ntmps - args.size))
    (h : WC P N [] c (bodyPost P fn (Ret (fun _ w => Post w))) l w) : CalD P f args w Post :=
  ⟨callsD_of_wp hf hb (h.run _ (by rw [hN]; exact fits_enter _ _ _ hl))⟩
theorem enter_defers {f : FuncId} {fn : Func} {c : Code} {args : Array Value} {Post : Value → World → Prop} (hf : P.funcs[f]? = some fn) (hb : fn.body = some c)
    (l : Log) (hl : ∀ t v, lk l t = some v → args[t]? = some v) (hN : N = args.size + (fn.ntmps - args.size))
    (h : WC P N [] c (bodyPostD P fn (Ret Post)) l w) : Cal P f args w Post :=
  ⟨calls_of_wp_defers hf hb (h.run _ (by rw [hN]; exact fits_enter _ _ _ hl))⟩
theorem op_defer {f : FuncId} {caps : Array Value} {dst : Option Nat} (hd : dst = none := by rfl) (hw : want ops l ⟨dst, .defer ⟨.value x, #[], #[]⟩, ty, pos, af, g⟩ = some true := by rfl)
    (hx : ev l x = some (.func (.func f) #[] caps) := by rfl) (k : WL P N (⟨.fn (.func f) caps, #[]⟩ :: ds) ops Q os l w) : WL P N ds ops Q (⟨dst, .defer ⟨.value x, #[], #[]⟩, ty, pos, af, g⟩ :: os) l w :=
  wl_op hw fun a ha => by
    subst hd
    have h1 := ha.ev hx
    simp only [Oper.wp, execOp, resolve, Deferred.ofValue, h1, Sem.run_bind, Sem.run_pure, Result.andThen_ok, Oper.upon_defer, Act.put]
    refine k.run _ ⟨ha.size, ?_, ha.vals⟩
    simp [ha.defs]
theorem at_retD_cell {fn : Func} {tr n b : Nat} {tc : TypeId} [TyAgg P tc n] {f : FuncId} [Own P f] {caps : Array Value} {Post : Value → World → Prop} (hr : fn.results = #[.cell tr tc])
    (hx : lk l tr = some (.pointer (some ⟨b, 0, none⟩))) {Pd : World → Prop} (hc : CalD P f caps w Pd)
    (hp : ∀ w', Pd w' → ∃ (c : List Value) (e : TypeId) (fr : Nat × Nat), w'.heap[b]? = some (.cells c.toArray e fr) ∧ c.length = n ∧ Post (.agg c.toArray) w') : At N [⟨.fn (.func f) caps, #[]⟩] (bodyPostD P fn (Ret Post)) .ret l w :=
  ⟨fun a ha => by
    show Leaves P fn a.tmps (Ret Post) a.defers .returning w
    rw [ha.defs]
    refine leaves_cons (by simp) (f := f) (args := caps) (by simp [invoke, run_callFunc]) (hc.run.mono (fun e u' w' ⟨h1, h2⟩ => ?_))
    subst h1
    cases e with
    | returned v =>
      obtain ⟨c, e, fr, h3, h4, h5⟩ := hp w' h2
      exact ⟨_, results_cell hr a.tmps w' (ha.vals tr _ hx) (run_loadAgg h3 h4 (fun j v hv => by simpa using hv)), h5⟩
    | panicked c => exact h2.elim
    | outgrown => exact h2.elim⟩
theorem at_retD_tmp {fn : Func} {tr : Nat} {v : Value} {f : FuncId} [Own P f] {caps : Array Value} {Post : Value → World → Prop} (hr : fn.results = #[.tmp tr])
    (hx : lk l tr = some v) {Pd : World → Prop} (hc : CalD P f caps w Pd) (hp : ∀ w', Pd w' → Post v w') : At N [⟨.fn (.func f) caps, #[]⟩] (bodyPostD P fn (Ret Post)) .ret l w :=
  ⟨fun a ha => by
    show Leaves P fn a.tmps (Ret Post) a.defers .returning w
    rw [ha.defs]
    refine leaves_cons (by simp) (f := f) (args := caps) (by simp [invoke, run_callFunc]) (hc.run.mono (fun e u' w' ⟨h1, h2⟩ => ?_))
    subst h1
    cases e with
    | returned _ => exact ⟨v, by rw [results_tmp hr]; simp [Array.getD_eq_getD_getElem?, ha.vals tr _ hx], hp w' h2⟩
    | panicked c => exact h2.elim
    | outgrown => exact h2.elim⟩
theorem at_retD0_tmp {fn : Func} {tr : Nat} {v : Value} {Post : Value → World → Prop} (hr : fn.results = #[.tmp tr] := by rfl) (hx : lk l tr = some v := by rfl) (h : Post v w) :
    At N [] (bodyPostD P fn (Ret Post)) .ret l w :=
  ⟨fun a ha => by
    show Leaves P fn a.tmps (Ret Post) a.defers .returning w
    rw [ha.defs]
    exact ⟨v, by rw [results_tmp hr]; simp [Array.getD_eq_getD_getElem?, ha.vals tr _ hx], h⟩⟩
theorem at_retD0_cell {fn : Func} {i tr n b : Nat} {tc : TypeId} [TyAgg P tc n] {c : List Value} {e : TypeId} {fr : Nat × Nat} {Post : Value → World → Prop} (hm : Mem E I H w) (hr : fn.results = #[.cell tr tc] := by rfl)
    (hx : lk l tr = some (.pointer (some ⟨b, 0, none⟩)) := by rfl) (hb : H[i]? = some (.obj b (.cells c.toArray e fr)) := by first | exact gt0 | exact gt1 | exact gt2 | exact gt3 | exact gt4 | exact gt5 | exact gt6) (hl : c.length = n := by rfl)
    (h : Post (.agg c.toArray) w) : At N [] (bodyPostD P fn (Ret Post)) .ret l w :=
  ⟨fun a ha => by
    show Leaves P fn a.tmps (Ret Post) a.defers .returning w
    rw [ha.defs]
    exact ⟨_, results_cell hr a.tmps w (ha.vals tr _ hx) (run_loadAgg (hm.get hb) hl (fun j v hv => by simpa using hv)), h⟩⟩
theorem m_retD_cell {fn : Func} {i tr n b : Nat} {tc : TypeId} [TyAgg P tc n] {c : List Value} {e : TypeId} {fr : Nat × Nat} {f : FuncId} [Own P f] {caps : Array Value} {Post : Value → World → Prop} (hr : fn.results = #[.cell tr tc])
    (hx : lk l tr = some (.pointer (some ⟨b, 0, none⟩))) (hc : CalD P f caps w (fun w' => Mem E I H' w')) (hb : H'[i]? = some (.obj b (.cells c.toArray e fr))) (hl : c.length = n)
    (h : ∀ w', Mem E I H' w' → Post (.agg c.toArray) w') : At N [⟨.fn (.func f) caps, #[]⟩] (bodyPostD P fn (Ret Post)) .ret l w :=
  at_retD_cell hr hx hc (fun w' hm => ⟨c, e, fr, hm.get hb, hl, h w' hm⟩)
end
end Go.Fw
end
section
namespace Go.Fw
open Go
section
variable {P : Program} {N : Nat} {ds : List Deferred} {Q : Exit → Act → World → Prop} {K : Act → World → Prop} {KV : Act → Prop} {l l' : Log} {w w' w0 wd : World} {ops : Array Oper} {os os' tail : List Oper} {o : Oper}
variable {d : Nat} {ty : TypeId} {pos : String} {af : Array Edge} {g : Option (Nat × Bool)} {t t' : TypeId} {x y z : Operand}
variable {E : Ent} {I I' I0 : Imm} {H H' R G : List HItem} {X : List Nat}
theorem wc_semi_mem [Mixed P] {id : Nat} (hm : Mem E I (G ++ R) w) (q n : Nat) (hB : semiB os.toArray q n = true := by kernel_rfl)
    (h : ∀ wd, Mem E I (G ++ R) wd → Mem ⟨wd, blks G, I⟩ I G wd → WV P N ds os.toArray (blks G) wd (fun a' => seqV P os.toArray (fun w' => Kept (blks G) wd w') (fun a' w' => wpList P os.toArray Q (os.drop n) a' w') ((os.drop q).take (n - q)) a' wd) (os.take q) l) :
    WC P N ds (.region id os.toArray true) Q l w :=
  wc_semi q n (blks G) hB (fun wd hk => h wd (hm.kept0 hk) (hm.kept0 hk).sub)
theorem Mem.notG (hR : Mem E I (G ++ R) w) {i : Nat} {h : HItem} (hi : R[i]? = some h) {b : Nat} (hb : h.blk = some b) : b ∉ blks G := fun hx => by
  obtain ⟨k, hk, hkb⟩ := mem_blks hx
  exact (List.pairwise_append.1 hR.dist).2.2 k hk h (List.mem_of_getElem? hi) b hkb hb
theorem Mem.notGI (hR : Mem E I (G ++ R) w) {b : Nat} {o : Obj} (hb : I b = some o) : b ∉ blks G := fun hx => by
  obtain ⟨k, hk, hkb⟩ := mem_blks hx
  have := hR.free k (List.mem_append_left _ hk) b hkb
  rw [hb] at this; cases this
theorem mw_load1 [TyOne P t] {i b off : Nat} {c : List Value} {e : TypeId} {fr : Nat × Nat} {v : Value} (hR : Mem E I (G ++ R) w) (hw : want ops l ⟨some d, .load t x, ty, pos, af, g⟩ = some true := by rfl) (hN : Nat.blt d N = true := by rfl)
    (hx : ev l x = some (.pointer (some ⟨b, off, none⟩)) := by rfl) (hb : R[i]? = some (.obj b (.cells c.toArray e fr)) := by first | exact gt0 | exact gt1 | exact gt2 | exact gt3 | exact gt4 | exact gt5 | exact gt6) (hc : c[off]? = some v := by rfl)
    (k : WV P N ds ops (blks G) w KV os ((d, v) :: l)) : WV P N ds ops (blks G) w KV (⟨some d, .load t x, ty, pos, af, g⟩ :: os) l :=
  v_load1 hw hN hx (hR.right.get hb) (hR.notG hb rfl) (by simpa using hc) k
theorem mw_loadAll {n : Nat} [TyAgg P t n] {i b : Nat} {c : List Value} {e : TypeId} {fr : Nat × Nat} (hR : Mem E I (G ++ R) w) (hw : want ops l ⟨some d, .load t x, ty, pos, af, g⟩ = some true := by rfl) (hN : Nat.blt d N = true := by rfl)
    (hx : ev l x = some (.pointer (some ⟨b, 0, none⟩)) := by rfl) (hb : R[i]? = some (.obj b (.cells c.toArray e fr)) := by first | exact gt0 | exact gt1 | exact gt2 | exact gt3 | exact gt4 | exact gt5 | exact gt6) (hl : c.length = n := by rfl)
    (k : WV P N ds ops (blks G) w KV os ((d, .agg c.toArray) :: l)) : WV P N ds ops (blks G) w KV (⟨some d, .load t x, ty, pos, af, g⟩ :: os) l :=
  v_loadN hw hN hx (hR.right.get hb) (hR.notG hb rfl) hl (fun j v hv => by simpa using hv) k
theorem iw_load1 [TyOne P t] {b off j tc : Nat} {cs : List Value} {v : Value} (hR : Mem E I (G ++ R) w) (hw : want ops l ⟨some d, .load t x, ty, pos, af, g⟩ = some true := by rfl) (hN : Nat.blt d N = true := by rfl)
    (hx : ev l x = some (.pointer (some ⟨b, off + j, none⟩)) := by rfl) (hp : PtrI I b off tc cs := by assumption) (hc : cs[j]? = some v := by rfl)
    (k : WV P N ds ops (blks G) w KV os ((d, v) :: l)) : WV P N ds ops (blks G) w KV (⟨some d, .load t x, ty, pos, af, g⟩ :: os) l := by
  obtain ⟨c, fr, h1, h2⟩ := hp
  exact v_load1 hw hN hx (hR.inv _ _ h1) (hR.notGI h1) (h2 j v hc) k
theorem mt_call {f : FuncId} [Own P f] {xs : List Operand} {tys : Array TypeId} {vs : List Value} {Post : Value → Imm → List HItem → Prop} (hm : Mem ⟨w0, X, I0⟩ I G w)
    (hw : want ops l ⟨some d, .call ⟨.value (.func f), xs.toArray, tys⟩, ty, pos, af, g⟩ = some true := by rfl) (hN : Nat.blt d N = true := by rfl)
    (hx : evs l xs = some vs := by rfl) (hp : G.Perm (H ++ R) := by first | exact pm0 | exact pm1_0 | exact pm1_1 | exact pm1_2 | exact pm1_3 | exact pm2_0 | exact pm2_1 | exact pm2_2 | exact pm2_3 | exact pm2_4 | exact pm3_0 | exact pm3_1 | exact pm3_2) (hc : CalM P f vs.toArray I H Post)
    (k : ∀ v I' H' w', Post v I' H' → Le I I' → Mem ⟨w0, X, I0⟩ I' (H' ++ R) w' → WS P N ds ops Q X w0 os' tail ((d, v) :: l) w') :
    WS P N ds ops Q X w0 (⟨some d, .call ⟨.value (.func f), xs.toArray, tys⟩, ty, pos, af, g⟩ :: os') tail l w :=
  ws_enter rfl hw hN (fun a ha => by
    have := ha.evs hx
    simp [execOp, resolve, invoke, Act.eval, Deferred.ofValue, this, run_callFunc]) (hc.run w (hm.perm hp).sub) (fun v w' ⟨I', H', h1, h2⟩ =>
      have hm' := (hm.perm hp).back h2
      ⟨hm'.kept, k v I' H' w' h1 h2.le hm'⟩)
theorem mt_push {e : TypeId} {sz by_ : Nat} [TySlice P t e] [Elem P e sz by_] {d1 i : Nat} {s : Operand} {v u : Value} {n : Nat} {xs us : List Value}
    {ty' : TypeId} {pos' : String} {af' : Array Edge} (hm : Mem ⟨w0, X, I0⟩ I H w) (hN1 : Nat.blt d1 N = true := by rfl) (hN : Nat.blt d N = true := by rfl)
    (hs : ev l s = some v := by rfl) (hne : neTmp s d1 = true := by rfl) (hx : ev l x = some u := by rfl) (hi : H[i]? = some (.row v e sz n xs) := by first | exact gt0 | exact gt1 | exact gt2 | exact gt3 | exact gt4 | exact gt5 | exact gt6) (hus : u.cells.toList = us := by rfl) (hu : us.length = sz := by rfl) (h1 : us.all (·.oneCell') = true := by rfl)
    (hsz : Nat.ble sz 1024 = true := by rfl) (hlen : (n + 1) * by_ ≤ 140737488355328 := by omega) (h63 : n + 1 ≤ 9223372036854775807 := by omega)
    (k : ∀ a cp b1 w', Mem ⟨w0, X, I0⟩ I (H.set i (.row (.slice a (n + 1) cp) e sz (n + 1) (xs ++ us))) w' → WL P N ds ops Q tail ((d, .slice a (n + 1) cp) :: (d1, .slice (some ⟨b1, 0, none⟩) 1 1) :: l) w') :
    WS P N ds ops Q X w0 [⟨some d1, .buildSlice t 1 #[(0, x)], ty, pos, af, none⟩, ⟨some d, .call ⟨.builtin .append, #[s, .tmp d1], #[t, t]⟩, ty', pos', af', none⟩] tail l w := by
  subst hus
  obtain ⟨i', z, hi', hz, hs', hby, hzc, hpos⟩ := Elem.out (P := P) (e := e)
  have h6 := fun w => run_underlying (P := P) (w := w) (TySlice.out (P := P) (t := t))
  have hs2 : ev ((d1, .slice (some ⟨w.heap.size, 0, none⟩) 1 1) :: l) s = some v := ev_ne hne hs
  have hown := hm.getRow hi
  have hu' : u.cells.size = sz := by simpa using hu
  have hown2 : (w.alloc (.cells u.cells e (0, 0))).ownsRow 0 e sz v n xs := hown.alloc _
  obtain ⟨v', w', hr, ho, hk, hb⟩ := run_append (P := P) (t := t) hown2 ⟨w.heap.size, 0, none⟩ 1 1 u.cells.toList (by simp [hu']) (fun j r hj => by
      rw [Addr.add_lit]; exact cell_of (heap_alloc_new w _) (by simpa using hj)) (fun r hr => List.all_eq_true.1 h1 r hr) h63 hlen (by simp) ty'
  have hk2 : Kept v.ownBlock.toList w w' := ((Kept.alloc w _).mono (fun _ h => by cases h)).trans hk
  have hb2 : v'.ownBlock = v.ownBlock ∨ ∃ g, v'.ownBlock = some g ∧ w.heap.size ≤ g := hb.imp_right fun ⟨g, h1, h2⟩ => ⟨g, h1, by simp at h2; omega⟩
  have hm' := hm.turn (h' := .row v' e sz (n + 1) (xs ++ u.cells.toList)) hi hk2 ho hb2
  refine ws_value (w' := w.alloc (.cells u.cells e (0, 0))) (v := .slice (some ⟨w.heap.size, 0, none⟩) 1 1) rfl rfl hN1 (fun a ha => ?_) (hm.kept.step0 (Kept.alloc w _)) ?_
  · have hz0 : ¬ (2 ^ 24 < sz) := by have := Nat.le_of_ble_eq_true hsz; omega
    have hz1 : ¬ (sz = 0) := by omega
    have hf := fill_one hu' ((Array.range sz).map (z.cells[· % z.cells.size]!)) (by simp)
    simp [execOp, Instr.buildSlice, h6, sizeOf, typeInfo, hi', hs', zeroValue, hz, ha.ev hx, hz0, hz1, hf, newRow, newObj]
    rfl
  · refine ws_value (w' := w') (v := v') rfl rfl hN (fun a ha => ?_) hm'.kept (ws_nil ?_)
    · have e1 := ha.ev hs2
      have e2 : a.eval (.tmp d1) = .slice (some ⟨w.heap.size, 0, none⟩) 1 1 := ha.ev (by simp [ev, lk])
      simp [execOp, resolve, invoke, builtin, e1, e2, hr]
    · have hlt : i < H.length := (List.getElem?_eq_some_iff.1 hi).1
      obtain ⟨a, cp, rfl⟩ := own_val (hm'.getRow (i := i) (by rw [List.getElem?_set]; simp [hlt]; exact ⟨rfl, rfl, rfl, rfl, rfl⟩))
      exact k a cp _ w' hm'
end
end Go.Fw
end
section
namespace Go.Fw
open Go
def pickL (os : List Oper) : List Nat → List Oper
  | [] => []
  | k :: ks => match os[k]? with
    | some o => o :: pickL os ks
    | none => pickL os ks
section
variable {P : Program} {ops : Array Oper} {md : Region.Mode} {C : World → Prop}
def seqLB (md : Region.Mode) (ops : Array Oper) (g n : Nat) : List Nat → Array Bool → Bool
  | [], listed => Region.seqB md ops g n listed
  | k :: ks, listed => decide (Region.ready md ops listed = [k]) && decide (k < n) && seqLB md ops g n ks (listed.setIfInBounds k true)
def lexLB (md : Region.Mode) (ops : Array Oper) (g n : Nat) (js : List Nat) : List Nat → Array Bool → Bool
  | [], listed => seqLB md ops g n js listed
  | k :: ks, listed => (Region.ready md ops listed).contains k && Region.free md ops listed k && decide (k < n) && lexLB md ops g n js ks (listed.setIfInBounds k true)
theorem anyV_seqL {n g : Nat} {Lq : Act → World → Prop} : ∀ (js : List Nat) (l : List Oper) (listed : Array Bool) (a : Act) (w : World), js.map (ops[·]?) = l.map some →
    seqLB md ops g n js listed = true → seqV P ops C Lq l a w →
    anyV P md ops C n (fun listed' a' w' => Region.seqB md ops g n listed' = true ∧ Lq a' w') l.length listed a w
  | [], [], listed, a, w, _, hB, h => ⟨by simpa [seqLB] using hB, h⟩
  | k :: js, o :: l, listed, a, w, hl, hB, h => by
    simp only [List.map_cons, List.cons.injEq] at hl
    obtain ⟨h0, hl'⟩ := hl
    simp only [seqLB, Bool.and_eq_true, decide_eq_true_eq] at hB
    obtain ⟨⟨hB1, hkn⟩, hB2⟩ := hB
    refine ⟨fun h1 => (by rw [hB1] at h1; cases h1), fun i hi => ?_⟩
    rw [hB1] at hi
    have hik : i = k := by simpa using hi
    subst hik
    refine ⟨hkn, ?_⟩
    have next : ∀ a' w', seqV P ops C Lq l a' w' → anyV P md ops C n (fun listed' a' w' => Region.seqB md ops g n listed' = true ∧ Lq a' w') l.length (listed.setIfInBounds i true) a' w' := fun a' w' h' =>
      anyV_seqL js l _ a' w' hl' hB2 h'
    unfold vOp
    simp only [h0]
    unfold seqV at h
    split
    · rename_i hw
      rw [if_pos hw] at h
      rcases h with ⟨u, w', h1, h2, h3⟩ | ⟨f, args, h1, h2⟩
      · exact .inl ⟨u, w', h1, h2, next _ _ h3⟩
      · exact .inr ⟨f, args, h1, Calls.mono h2 (fun e w' ⟨u, he, hc, h⟩ => ⟨u, he, hc, next _ _ h⟩)⟩
    · rename_i hw
      rw [if_neg hw] at h
      exact ⟨h.1, next _ _ h.2⟩
  | [], _ :: _, _, _, _, hl, _, _ => by simp at hl
  | _ :: _, [], _, _, _, hl, _, _ => by simp at hl
theorem anyV_lexL {n g : Nat} {Lq : Act → World → Prop} {js : List Nat} {lt : List Oper} (hsel : Region.noSelect ops = true) (hs : Region.sinkB md ops n = true) (hc : Region.chainB md ops n = true) (hn : n < ops.size)
    (hlt : js.map (ops[·]?) = lt.map some) :
    ∀ (ks : List Nat) (l : List Oper) (listed : Array Bool) (a : Act) (w : World), C w → ks.map (ops[·]?) = l.map some → HeadInv md ops n listed →
    lexLB md ops g n js ks listed = true → pureV P ops C (fun a' => seqV P ops C Lq lt a' w) l a →
    anyV P md ops C n (fun listed' a' w' => Region.seqB md ops g n listed' = true ∧ Lq a' w') (l.length + lt.length) listed a w
  | [], [], listed, a, w, _, _, _, hB, h => by
    rw [List.length_nil, Nat.zero_add]
    exact anyV_seqL js lt listed a w hlt (by simpa [lexLB] using hB) h
  | k :: ks, o :: l, listed, a, w, hC, hl, inv, hB, h => by
    simp only [List.map_cons, List.cons.injEq] at hl
    obtain ⟨h0, hl'⟩ := hl
    simp only [lexLB, Bool.and_eq_true, decide_eq_true_eq] at hB
    obtain ⟨⟨⟨hr, hf⟩, hkn⟩, hB'⟩ := hB
    have hr' : k ∈ Region.ready md ops listed := by simpa using hr
    obtain ⟨v, hy, hK⟩ := h
    rw [show (o :: l).length + lt.length = (l.length + lt.length) + 1 by simp only [List.length_cons]; omega]
    exact v_first h0 (Region.noSelect_spec hsel) hs hc hn hkn (fun listed' a' w' hL => seqB_ready hL.1) (l.length + lt.length) listed a w hC inv (Region.free_spec h0 hf) hr' hy
      (anyV_lexL hsel hs hc hn hlt ks l _ _ w hC hl' (inv.set hr' hkn) hB' hK)
  | [], _ :: _, _, _, _, _, hl, _, _, _ => by simp at hl
  | _ :: _, [], _, _, _, _, hl, _, _, _ => by simp at hl
theorem pickL_map (os : List Oper) : ∀ (ks : List Nat), ks.all (fun k => Nat.blt k os.length) = true → ks.map (os.toArray[·]?) = (pickL os ks).map some ∧ (pickL os ks).length = ks.length
  | [], _ => ⟨rfl, rfl⟩
  | k :: ks, h => by
    rw [List.all_cons, Bool.and_eq_true] at h
    have hk : k < os.length := by simpa [Nat.blt_eq] using h.1
    obtain ⟨h1, h2⟩ := pickL_map os ks h.2
    have e : os[k]? = some os[k] := List.getElem?_eq_getElem hk
    rw [pickL, e]
    exact ⟨by simp only [List.map_cons]; rw [h1]; simp [e], by simp [h2]⟩
def semiLB (ops : Array Oper) (ks js : List Nat) (n : Nat) : Bool :=
  Region.noSelect ops && decide (n < ops.size) && Region.sinkB .any ops n && Region.chainB .any ops n && lexLB .any ops (ops.size - n) n js ks (Array.replicate ops.size false) && decide (ks.length + js.length = n) &&
    ks.all (fun k => Nat.blt k ops.size) && js.all (fun k => Nat.blt k ops.size)
theorem wp_region_semiL {id : Nat} {Q : Exit → Act → World → Prop} {a : Act} {w : World} {l : List Oper} (ks js : List Nat) (n : Nat) (hm : P.follows .mixedOrders = true) (hB : semiLB l.toArray ks js n = true)
    (hC : C { w with drawn := w.drawn + 1 })
    (h : pureV P l.toArray C (fun a' => seqV P l.toArray C (fun a' w' => wpList P l.toArray Q (l.drop n) a' w') (pickL l js) a' { w with drawn := w.drawn + 1 }) (pickL l ks) a) : (Code.region id l.toArray true).wp P Q a w := by
  simp only [semiLB, Bool.and_eq_true, decide_eq_true_eq] at hB
  obtain ⟨⟨⟨⟨⟨⟨⟨hsel, hn⟩, hs⟩, hc⟩, hlex⟩, hlen⟩, hks⟩, hjs⟩ := hB
  have hn' : n < l.length := by simpa using hn
  have hdl : (l.drop n).length = l.toArray.size - n := by simp
  obtain ⟨k1, k2⟩ := pickL_map l ks (by simpa using hks)
  obtain ⟨j1, j2⟩ := pickL_map l js (by simpa using hjs)
  have inv0 : HeadInv .any l.toArray n (Array.replicate l.toArray.size false) :=
    ⟨by simp, fun j oj _ hl => (by rw [getD_replicate_false] at hl; cases hl), fun t _ ht => getD_in (by simpa using ht) (getD_replicate_false _ _)⟩
  have H := anyV_lexL (md := .any) (g := l.toArray.size - n) (lt := pickL l js) hsel hs hc hn j1 ks (pickL l ks) _ a _ hC k1 inv0 hlex h
  refine wp_region_any hm ?_
  have := any_of_v (Q' := Q) (g := l.toArray.size - n) (fun listed a' w' hL => by
    have := wpAny_of_seq (md := .any) (Q' := Q) (l.drop n) n listed a' w' (fun j => by simp [List.getElem?_drop]) (by rw [hdl]; exact hL.1) hL.2
    rwa [hdl] at this) _ _ _ _ H
  rw [k2, j2, hlen, show n + (l.toArray.size - n) = l.toArray.size by omega] at this
  exact this
end
section
variable {P : Program} {N : Nat} {ds : List Deferred} {X : List Nat} {Q : Exit → Act → World → Prop} {l : Log} {w : World} {os : List Oper} {E : Ent} {I : Imm} {G R : List HItem}
theorem wc_semiL [Mixed P] {id : Nat} (ks js : List Nat) (n : Nat) (X : List Nat) (hB : semiLB os.toArray ks js n = true)
    (h : ∀ wd, Kept [] w wd → WV P N ds os.toArray X wd (fun a' => seqV P os.toArray (fun w' => Kept X wd w') (fun a' w' => wpList P os.toArray Q (os.drop n) a' w') (pickL os js) a' wd) (pickL os ks) l) :
    WC P N ds (.region id os.toArray true) Q l w :=
  ⟨fun a ha => wp_region_semiL (C := fun w' => Kept X { w with drawn := w.drawn + 1 } w') ks js n Mixed.out hB (Kept.refl _ _) ((h _ (Kept.drew w)).run a ha)⟩
theorem wc_semi_memL [Mixed P] {id : Nat} (hm : Mem E I (G ++ R) w) (ks js : List Nat) (n : Nat) (hB : semiLB os.toArray ks js n = true := by kernel_rfl)
    (h : ∀ wd, Mem E I (G ++ R) wd → Mem ⟨wd, blks G, I⟩ I G wd → WV P N ds os.toArray (blks G) wd (fun a' => seqV P os.toArray (fun w' => Kept (blks G) wd w') (fun a' w' => wpList P os.toArray Q (os.drop n) a' w') (pickL os js) a' wd) (pickL os ks) l) :
    WC P N ds (.region id os.toArray true) Q l w :=
  wc_semiL ks js n (blks G) hB (fun wd hk => h wd (hm.kept0 hk) (hm.kept0 hk).sub)
variable {d : Nat} {ty : TypeId} {pos : String} {af : Array Edge} {g : Option (Nat × Bool)} {t t' : TypeId} {x y z : Operand} {ops : Array Oper} {os' tail : List Oper} {w0 : World} {I1 : Imm} {G1 H : List HItem}
theorem mt_readR {f : FuncId} [Own P f] {xs : List Operand} {tys : Array TypeId} {vs : List Value} {v : Value} (hR : Mem E I (G ++ R) w0) (hm : Mem ⟨w0, blks G, I⟩ I1 G1 w)
    (hw : want ops l ⟨some d, .call ⟨.value (.func f), xs.toArray, tys⟩, ty, pos, af, g⟩ = some true := by rfl) (hN : Nat.blt d N = true := by rfl)
    (hx : evs l xs = some vs := by rfl) (hs : ∀ h ∈ H, h ∈ R := by first | exact sub_nil | exact sub1_0 | exact sub1_1 | exact sub1_2 | exact sub1_3 | exact sub2_0 | exact sub2_1 | exact sub2_2 | exact sub2_3 | exact sub2_4) (hc : CalR P f vs.toArray I1 H v)
    (k : ∀ w', Mem ⟨w0, blks G, I⟩ I1 G1 w' → WS P N ds ops Q (blks G) w0 os' tail ((d, v) :: l) w') :
    WS P N ds ops Q (blks G) w0 (⟨some d, .call ⟨.value (.func f), xs.toArray, tys⟩, ty, pos, af, g⟩ :: os') tail l w :=
  ws_enter rfl hw hN (fun a ha => by
    have := ha.evs hx
    simp [execOp, resolve, invoke, Act.eval, Deferred.ofValue, this, run_callFunc]) (hc.run w hm.inv (fun h hh => (by
      have hr := hs h hh
      obtain ⟨i, hi⟩ := List.mem_iff_getElem?.1 hr
      exact (hR.right.ok h hr).kept hm.kept (fun b hb => hR.notG hi hb)))) (fun u w' ⟨h1, h2⟩ => by subst h1; exact ⟨(hm.kept0 h2).kept, k w' (hm.kept0 h2)⟩)
theorem mt_struct {places : List (Nat × Nat)} {zero : List Value} [StructT P t places zero] {ps : List (Nat × Operand)} {vs : List (Nat × Value)} {r : List Value} {X : List Nat} {I0 : Imm} (hm : Mem ⟨w0, X, I0⟩ I1 G1 w)
    (hw : want ops l ⟨some d, .build t ps.toArray, ty, pos, af, g⟩ = some true := by rfl) (hN : Nat.blt d N = true := by rfl)
    (hx : evp l ps = some vs := by rfl) (hr : bld places zero vs = some r := by rfl) (k : WS P N ds ops Q X w0 os' tail ((d, .agg r.toArray) :: l) w) :
    WS P N ds ops Q X w0 (⟨some d, .build t ps.toArray, ty, pos, af, g⟩ :: os') tail l w :=
  ws_value rfl hw hN (fun a ha => by
    have e1 := ha.evp hx
    obtain ⟨fs, h1, h2, h3⟩ := StructT.out (P := P) (t := t)
    have h4 := run_underlying (P := P) (w := w) h1
    have h5 := run_places (P := P) w _ _ h2
    have h6 := fill_bld places vs zero r hr
    simp only [bind_pure_comp] at h5
    simp only [List.getElem?_toArray] at h6
    cases hi : P.info? t with
    | none => simp [hi] at h3
    | some i =>
      simp only [hi, Option.bind_some] at h3
      simp [execOp, Instr.build, e1, zeroValue, typeInfo, hi, h3, h4, Array.mapM_eq_mapM_toList, h5, Value.cells, h6]) hm.kept k
theorem iw_indexFlat {α : Type} {enc : α → List Value} {e : TypeId} {sz by_ : Nat} {X : List Nat} {KV : Act → Prop} {os : List Oper} [TySlice P t e] [Elem P e sz by_] {a : Option Addr} {n cp : Nat} {i : Int} {xs : List α} {z : α} (hw : want ops l ⟨some d, .indexAddr t x y, ty, pos, af, g⟩ = some true := by rfl) (hN : Nat.blt d N = true := by rfl)
    (hx : ev l x = some (.slice a n cp) := by rfl) (hy : ev l y = some (.int .i64 i) := by rfl) (hr : RowI I e sz (.slice a n cp) n (xs.flatMap enc)) (he : ∀ a, (enc a).length = sz) (h0 : 0 ≤ i := by omega) (h1 : i < n := by omega) (hz : xs[i.toNat]? = some z)
    (k : ∀ b off, PtrI I b off e (enc z) → WV P N ds ops X w KV os ((d, .pointer (some ⟨b, off, none⟩)) :: l)) :
    WV P N ds ops X w KV (⟨some d, .indexAddr t x y, ty, pos, af, g⟩ :: os) l := by
  obtain ⟨b, off, rfl, hp⟩ := hr.flat he hz (by omega)
  exact v_indexAddr hw hN hx hy h0 h1 (k b _ hp)
theorem iw_loadN {n : Nat} {KV : Act → Prop} [TyAgg P t n] {b off tc : Nat} {cs : List Value} (hR : Mem E I (G ++ R) w) (hw : want ops l ⟨some d, .load t x, ty, pos, af, g⟩ = some true := by rfl) (hN : Nat.blt d N = true := by rfl)
    (hx : ev l x = some (.pointer (some ⟨b, off, none⟩)) := by rfl) (hp : PtrI I b off tc cs := by assumption) (hc : cs.length = n := by rfl)
    (k : WV P N ds ops (blks G) w KV os ((d, .agg cs.toArray) :: l)) : WV P N ds ops (blks G) w KV (⟨some d, .load t x, ty, pos, af, g⟩ :: os) l := by
  obtain ⟨c, fr, h1, h2⟩ := hp
  exact v_loadN hw hN hx (hR.inv _ _ h1) (hR.notGI h1) hc h2 k
theorem mt_allocS {pl : List (Nat × Nat)} {z : List Value} [hS : StructT P t pl z] {n by_ : Nat} [Elem P t n by_] {X : List Nat} {I0 : Imm} (hm : Mem ⟨w0, X, I0⟩ I H w) (hw : want ops l ⟨some d, .alloc t, ty, pos, af, g⟩ = some true := by rfl) (hN : Nat.blt d N = true := by rfl)
    (k : ∀ b w', Mem ⟨w0, X, I0⟩ I (.obj b (.cells z.toArray t (0, 0)) :: H) w' → WS P N ds ops Q X w0 os' tail ((d, .pointer (some ⟨b, 0, none⟩)) :: l) w') :
    WS P N ds ops Q X w0 (⟨some d, .alloc t, ty, pos, af, g⟩ :: os') tail l w := by
  obtain ⟨_, _, _, hz⟩ := hS.out
  cases hi : P.info? t with
  | none => simp [hi] at hz
  | some i =>
    simp only [hi, Option.bind_some] at hz
    have hk := Kept.alloc w (.cells z.toArray t (0, 0))
    have hm' := hm.add (x := .obj w.heap.size (.cells z.toArray t (0, 0))) hk (heap_alloc_new w _) (fun b hb => by simp only [HItem.blk, Option.some.injEq] at hb; omega)
    refine ws_value (w' := w.alloc (.cells z.toArray t (0, 0))) (v := .pointer (some ⟨w.heap.size, 0, none⟩)) rfl hw hN (fun a ha => ?_) hm'.kept (k _ _ hm')
    simp [execOp, Instr.alloc, newVar, newRow, newObj, zeroValue, typeInfo, hi, hz, Value.cells]; rfl
end
end Go.Fw
end
