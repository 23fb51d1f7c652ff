/- Own work: texts FwU, SpecFlow, SpecRun, RunA, one behind the other. -/
import Derived.Test.YthmdffgiockcbaaGreatDoorRb12
section
namespace Go.Fw
open Go
def MapIZ (I : Imm) (b : Nat) (es : EntsZ) : Prop := I b = some (.map (entsZ es 0).toArray es.length)
theorem MapIZ.le {I I' : Imm} {b : Nat} {es : EntsZ} (h : MapIZ I b es) (hl : Le I I') : MapIZ I' b es := hl _ _ h
section
variable {P : Program} {N : Nat} {ds : List Deferred} {Q : Exit → Act → World → Prop} {K : Act → World → Prop} {KV : Act → Prop} {l : Log} {w w0 : World} {ops : Array Oper} {os tail : List Oper} {X : List Nat}
variable {d : Nat} {ty : TypeId} {pos : String} {af : Array Edge} {g : Option (Nat × Bool)} {t : TypeId} {x y : Operand} {E : Ent} {I I0 : Imm} {H G R : List HItem} {n f : Nat} {listed : Array Bool}
theorem wu_fieldAddr {i off : Nat} [Fld P t i off] {b o' : Nat} (hC : Kept X w0 w) (hw : want ops l ⟨some d, .fieldAddr t x i, ty, pos, af, g⟩ = some true) (hN : Nat.blt d N = true)
    (hx : ev l x = some (.pointer (some ⟨b, o', none⟩))) (k : WA P N ds ops Q X w0 n f listed tail ((d, .pointer (some ⟨b, o' + off, none⟩)) :: l) w) :
    WU P N ds ops Q X w0 n f listed tail ⟨some d, .fieldAddr t x i, ty, pos, af, g⟩ l w :=
  wu_value rfl hw hN (fun a ha => by
    obtain ⟨fs, f, inf, h1, h2, h3, h4, h5⟩ := Fld.out (P := P) (t := t) (i := i)
    have h6 := run_underlying (P := P) (w := w) h1
    simp [execOp, Instr.fieldAt, Instr.sureAddr, ha.ev hx, h6, h2, fieldPlace, sizeOf, typeInfo, h4, h5, h3, Addr.add_lit]) hC k
theorem run_load1 [TyOne P t] {a : Act} (ha : Fits N ds l a) {b off : Nat} {c : Array Value} {e : TypeId} {fr : Nat × Nat} {v : Value} (hx : ev l x = some (.pointer (some ⟨b, off, none⟩))) (hb : w.heap[b]? = some (.cells c e fr)) (hc : c[off]? = some v) :
    (execOp a.eval ⟨some d, .load t x, ty, pos, af, g⟩).run P w = .ok (.value v) w := by
  obtain ⟨dd, h1, h2⟩ := TyOne.out (P := P) (t := t)
  have h4 := cell_of hb hc
  simp [execOp, Instr.loadAt, Instr.sureAddr, loadVar, run_isAgg h1, h2, ha.ev hx, load, Sem.run, h4]
theorem mu_load1 [TyOne P t] {i b off : Nat} {c : List Value} {e : TypeId} {fr : Nat × Nat} {v : Value} (hm : Mem ⟨w0, X, I0⟩ I H w) (hw : want ops l ⟨some d, .load t x, ty, pos, af, g⟩ = some true) (hN : Nat.blt d N = true)
    (hx : ev l x = some (.pointer (some ⟨b, off, none⟩))) (hb : H[i]? = some (.obj b (.cells c.toArray e fr))) (hc : c[off]? = some v)
    (k : WA P N ds ops Q X w0 n f listed tail ((d, v) :: l) w) : WU P N ds ops Q X w0 n f listed tail ⟨some d, .load t x, ty, pos, af, g⟩ l w :=
  wu_value rfl hw hN (fun a ha => run_load1 ha hx (hm.get hb) (by simpa using hc)) hm.kept k
theorem mu_store1 {i b off by_ : Nat} [Elem P t 1 by_] {c : List Value} {e : TypeId} {v : Value} {dst : Option Nat} (hm : Mem ⟨w0, X, I0⟩ I H w) (hd : dst = none) (hw : want ops l ⟨dst, .store t x y, ty, pos, af, g⟩ = some true)
    (hx : ev l x = some (.pointer (some ⟨b, off, none⟩))) (hy : ev l y = some v) (hb : H[i]? = some (.obj b (.cells c.toArray e (0, 0)))) (hn : v.cells.toList = [v]) (ho : Nat.blt off c.length = true) (h1 : v.oneCell' = true)
    (k : ∀ w', Mem ⟨w0, X, I0⟩ I (H.set i (.obj b (.cells (c.set off v).toArray e (0, 0)))) w' → WA P N ds ops Q X w0 n f listed tail l w') :
    WU P N ds ops Q X w0 n f listed tail ⟨dst, .store t x y, ty, pos, af, g⟩ l w := by
  subst hd
  have hget := hm.get hb
  have hlt : off < c.length := by simpa [Nat.blt_eq] using ho
  have h2 := run_storeVar (P := P) (t := t) (off := off) (n := 1) v hget (by rw [← Array.length_toList, hn]; rfl) (by simp; omega) (by rw [hn]; simp [h1])
  generalize hc' : (c.toArray.toList.take off ++ v.cells.toList ++ c.toArray.toList.drop (off + 1)).toArray = c' at h2
  have e0 : c' = (c.set off v).toArray := by
    rw [← hc', hn, ← splice1 ho, List.append_assoc]
  rw [e0] at h2
  have hk : Kept [b] w (w.setRow b (c.set off v).toArray) := Kept.setRow hget _
  have hm' := hm.turn (h' := .obj b (.cells (c.set off v).toArray e (0, 0))) hb (by simpa [HItem.blk] using hk) (by
    show (w.setRow b (c.set off v).toArray).heap[b]? = _
    rw [setRow_heap w b c.toArray _ e (0, 0) hget]) (.inl rfl)
  refine wu_skip rfl hw (fun a ha => ?_) hm'.kept (k _ hm')
  simp only [execOp, Instr.storeAt, Instr.sureAddr, ha.ev hx, ha.ev hy, Sem.run_bind, Sem.run_pure, Result.andThen, h2]
end
end Go.Fw
end
section
namespace Go.Sp
def getF (sc : List Lc) (n : List UInt8) : Nat := match findLc sc n with
  | some l => l.at_
  | none => 0
def meetStep (its : List Itm) (n : Nat) (x : Rf) : Nat := match findIt its 1 x.name with
  | some j => n &&& (itNo its j).label
  | none => n
def meetF (its : List Itm) (l : List Rf) : Nat := l.foldl (meetStep its) 255
def floorsF (its : List Itm) : List Nat := its.map (fun it => meetF its it.sends)
structure FW where
  ds : List Dg
  hv : Option Nat
def FW.tell (s : FW) (f t : Nat) (n : List UInt8) : FW := { s with ds := s.ds ++ [⟨f, t, 9, n⟩] }
def FW.hit (s : FW) (at_ : Int) (f t n : Nat) : FW := if s.hv = none ∧ (f : Int) ≤ at_ ∧ at_ < t then { s with hv := some n } else s
def FW.ask (s : FW) (a b f t : Nat) (n : List UInt8) : FW := if flows a b = true then s else s.tell f t n
def callLab (its : List Itm) (n : List UInt8) : Nat := match findIt its 2 n with
  | some j => (itNo its j).label
  | none => 0
def askFloor (its : List Itm) (un : Nat) (n : List UInt8) (f t : Nat) (s : FW) : FW := match findIt its 2 n with
  | some j => s.ask un (meetF its (itNo its j).sends) f t n
  | none => s
def askArg (its : List Itm) (n : List UInt8) (i a f t : Nat) (s : FW) : FW := match findIt its 2 n with
  | some j => match (itNo its j).params[i]? with
    | some p => s.ask a p.label f t p.name
    | none => s
  | none => s
mutual
def exF (its : List Itm) (at_ : Int) (sc : List Lc) (un : Nat) : Ex → FW → Nat × FW
  | .mk k nm _ args f t, s =>
    if k = 2 then (getF sc nm, s.hit at_ f t (getF sc nm ||| un)) else
    if k = 3 then ((opsF its at_ sc un args 0 s).1, (opsF its at_ sc un args 0 s).2.hit at_ f t ((opsF its at_ sc un args 0 s).1 ||| un)) else
    if k = 4 then (callLab its nm, (askFloor its un nm f t (argsF its at_ sc un nm args 0 s)).hit at_ f t (callLab its nm ||| un)) else
    (0, s.hit at_ f t (0 ||| un))
def opsF (its : List Itm) (at_ : Int) (sc : List Lc) (un : Nat) : List Ex → Nat → FW → Nat × FW
  | [], n, s => (n, s)
  | e :: es, n, s => opsF its at_ sc un es (n ||| (exF its at_ sc un e s).1) (exF its at_ sc un e s).2
def argsF (its : List Itm) (at_ : Int) (sc : List Lc) (un : Nat) (nm : List UInt8) : List Ex → Nat → FW → FW
  | [], _, s => s
  | e :: es, i, s => argsF its at_ sc un nm es (i + 1) (askArg its nm i ((exF its at_ sc un e s).1 ||| un) e.fr e.to (exF its at_ sc un e s).2)
 end
mutual
def plainF (its : List Itm) (sc : List Lc) : Ex → Nat
  | .mk k nm _ args _ _ => if k = 2 then getF sc nm else if k = 3 then plainsF its sc args 0 else if k = 4 then callLab its nm else 0
def plainsF (its : List Itm) (sc : List Lc) : List Ex → Nat → Nat
  | [], n => n
  | e :: es, n => plainsF its sc es (n ||| plainF its sc e)
 end
def unF (its : List Itm) (sc : List Lc) (k un : Nat) (e : Ex) : Nat := if k = 4 then plainF its sc e ||| un else un
def askCh (its : List Itm) (a : Nat) (n : List UInt8) (f t : Nat) (s : FW) : FW := match findIt its 1 n with
  | some j => s.ask a (itNo its j).label f t n
  | none => s
mutual
def stmF (its : List Itm) (own : Nat) (at_ : Int) : Stm → List Lc → Nat → FW → List Lc × FW
  | .mk k nm _ lb o e thn els f t, sc, un, s =>
    let un1 := unF its sc k un e
    let r := exF its at_ sc un1 e s
    let a := r.1 ||| un1
    if k = 1 then (sc ++ [⟨nm, if o = true then a else lb⟩], r.2.ask a (if o = true then a else lb) f t nm) else
    if k = 2 then (sc, r.2.ask a (getF sc nm) f t nm) else
    if k = 5 then (sc, askCh its a nm f t r.2) else
    if k = 6 then (sc, r.2.ask a own f t nm) else
    if k = 3 ∨ k = 4 then (sc, (stmsF its own at_ els sc a (stmsF its own at_ thn sc a r.2).2).2) else (sc, r.2)
def stmsF (its : List Itm) (own : Nat) (at_ : Int) : List Stm → List Lc → Nat → FW → List Lc × FW
  | [], sc, _, s => (sc, s)
  | x :: xs, sc, un, s => stmsF its own at_ xs (stmF its own at_ x sc un s).1 un (stmF its own at_ x sc un s).2
 end
def FW0 : FW := ⟨[], none⟩
def parsF (l : List Par) : List Lc := l.map (fun p => ⟨p.name, p.label⟩)
def checkF (its : List Itm) (i : Nat) (at_ : Int) : FW :=
  if (itNo its i).kind = 2 then (stmsF its (itNo its i).label at_ (itNo its i).body (parsF (itNo its i).params) 0 FW0).2 else FW0
theorem opsF_app (its : List Itm) (at_ : Int) (sc : List Lc) (un : Nat) : ∀ (l r : List Ex) (n : Nat) (s : FW), opsF its at_ sc un (l ++ r) n s = opsF its at_ sc un r (opsF its at_ sc un l n s).1 (opsF its at_ sc un l n s).2
  | [], r, n, s => by rw [List.nil_append, opsF]
  | e :: l, r, n, s => by rw [List.cons_append, opsF, opsF, opsF_app its at_ sc un l r]
theorem opsF_step (its : List Itm) (at_ : Int) (sc : List Lc) (un : Nat) {l : List Ex} {k : Nat} {e : Ex} (h : l[k]? = some e) (n : Nat) (s : FW) :
    opsF its at_ sc un (l.take (k + 1)) n s = ((opsF its at_ sc un (l.take k) n s).1 ||| (exF its at_ sc un e (opsF its at_ sc un (l.take k) n s).2).1, (exF its at_ sc un e (opsF its at_ sc un (l.take k) n s).2).2) := by
  rw [take_succ_get h, opsF_app, opsF, opsF]
theorem argsF_app (its : List Itm) (at_ : Int) (sc : List Lc) (un : Nat) (nm : List UInt8) : ∀ (l r : List Ex) (i : Nat) (s : FW), argsF its at_ sc un nm (l ++ r) i s = argsF its at_ sc un nm r (i + l.length) (argsF its at_ sc un nm l i s)
  | [], r, i, s => by rw [List.nil_append, argsF]; rfl
  | e :: l, r, i, s => by rw [List.cons_append, argsF, argsF, argsF_app its at_ sc un nm l r, List.length_cons, show i + 1 + l.length = i + (l.length + 1) by omega]
theorem argsF_step (its : List Itm) (at_ : Int) (sc : List Lc) (un : Nat) (nm : List UInt8) {l : List Ex} {k : Nat} {e : Ex} (h : l[k]? = some e) (s : FW) :
    argsF its at_ sc un nm (l.take (k + 1)) 0 s = askArg its nm k ((exF its at_ sc un e (argsF its at_ sc un nm (l.take k) 0 s)).1 ||| un) e.fr e.to (exF its at_ sc un e (argsF its at_ sc un nm (l.take k) 0 s)).2 := by
  have hk := (List.getElem?_eq_some_iff.1 h).1
  rw [take_succ_get h, argsF_app, argsF, argsF, List.length_take, Nat.min_eq_left (by omega), Nat.zero_add]
theorem plainsF_app (its : List Itm) (sc : List Lc) : ∀ (l r : List Ex) (n : Nat), plainsF its sc (l ++ r) n = plainsF its sc r (plainsF its sc l n)
  | [], r, n => by rw [List.nil_append, plainsF]
  | e :: l, r, n => by rw [List.cons_append, plainsF, plainsF, plainsF_app its sc l r]
theorem plainsF_step (its : List Itm) (sc : List Lc) {l : List Ex} {k : Nat} {e : Ex} (h : l[k]? = some e) (n : Nat) : plainsF its sc (l.take (k + 1)) n = plainsF its sc (l.take k) n ||| plainF its sc e := by
  rw [take_succ_get h, plainsF_app, plainsF, plainsF]
theorem stmsF_app (its : List Itm) (own : Nat) (at_ : Int) : ∀ (l r : List Stm) (sc : List Lc) (un : Nat) (s : FW), stmsF its own at_ (l ++ r) sc un s = stmsF its own at_ r (stmsF its own at_ l sc un s).1 un (stmsF its own at_ l sc un s).2
  | [], r, sc, un, s => by rw [List.nil_append, stmsF]
  | e :: l, r, sc, un, s => by rw [List.cons_append, stmsF, stmsF, stmsF_app its own at_ l r]
theorem stmsF_step (its : List Itm) (own : Nat) (at_ : Int) {l : List Stm} {k : Nat} {x : Stm} (h : l[k]? = some x) (sc : List Lc) (un : Nat) (s : FW) :
    stmsF its own at_ (l.take (k + 1)) sc un s = stmF its own at_ x (stmsF its own at_ (l.take k) sc un s).1 un (stmsF its own at_ (l.take k) sc un s).2 := by
  rw [take_succ_get h, stmsF_app, stmsF, stmsF]
theorem hit_ds (s : FW) (at_ : Int) (f t n : Nat) : (s.hit at_ f t n).ds = s.ds := by rw [FW.hit]; split <;> rfl
theorem ask_n (s : FW) (a b f t : Nat) (n : List UInt8) : s.ds.length ≤ (s.ask a b f t n).ds.length ∧ (s.ask a b f t n).ds.length ≤ s.ds.length + 1 := by
  rw [FW.ask]
  split
  · omega
  · simp [FW.tell]
theorem askFloor_n (its : List Itm) (un : Nat) (n : List UInt8) (f t : Nat) (s : FW) : s.ds.length ≤ (askFloor its un n f t s).ds.length ∧ (askFloor its un n f t s).ds.length ≤ s.ds.length + 1 := by
  rw [askFloor]
  split
  · exact ask_n _ _ _ _ _ _
  · omega
theorem askCh_n (its : List Itm) (a : Nat) (n : List UInt8) (f t : Nat) (s : FW) : s.ds.length ≤ (askCh its a n f t s).ds.length ∧ (askCh its a n f t s).ds.length ≤ s.ds.length + 1 := by
  rw [askCh]
  split
  · exact ask_n _ _ _ _ _ _
  · omega
theorem askArg_n (its : List Itm) (n : List UInt8) (i a f t : Nat) (s : FW) : s.ds.length ≤ (askArg its n i a f t s).ds.length ∧ (askArg its n i a f t s).ds.length ≤ s.ds.length + 1 := by
  rw [askArg]
  split
  · split
    · exact ask_n _ _ _ _ _ _
    · omega
  · omega
mutual
theorem exF_n (its : List Itm) (at_ : Int) (sc : List Lc) (un : Nat) : ∀ (e : Ex) (s : FW), s.ds.length ≤ (exF its at_ sc un e s).2.ds.length ∧ (exF its at_ sc un e s).2.ds.length + 1 ≤ s.ds.length + 2 * e.cnt
  | .mk k nm n args f t, s => by
    rw [exF, Ex.cnt]
    have h1 := opsF_n its at_ sc un args 0 s
    have h2 := argsF_n its at_ sc un nm args 0 s
    have h3 := askFloor_n its un nm f t (argsF its at_ sc un nm args 0 s)
    split
    · dsimp only; rw [hit_ds]; omega
    · split
      · dsimp only; rw [hit_ds]; omega
      · split
        · dsimp only; rw [hit_ds]; omega
        · dsimp only; rw [hit_ds]; omega
theorem opsF_n (its : List Itm) (at_ : Int) (sc : List Lc) (un : Nat) : ∀ (l : List Ex) (n : Nat) (s : FW), s.ds.length ≤ (opsF its at_ sc un l n s).2.ds.length ∧ (opsF its at_ sc un l n s).2.ds.length ≤ s.ds.length + 2 * exsCnt l
  | [], n, s => by rw [opsF, exsCnt]; exact ⟨by dsimp only; omega, by dsimp only; omega⟩
  | e :: l, n, s => by
    rw [opsF, exsCnt]
    have h1 := exF_n its at_ sc un e s
    have h2 := opsF_n its at_ sc un l (n ||| (exF its at_ sc un e s).1) (exF its at_ sc un e s).2
    omega
theorem argsF_n (its : List Itm) (at_ : Int) (sc : List Lc) (un : Nat) (nm : List UInt8) : ∀ (l : List Ex) (i : Nat) (s : FW), s.ds.length ≤ (argsF its at_ sc un nm l i s).ds.length ∧ (argsF its at_ sc un nm l i s).ds.length ≤ s.ds.length + 2 * exsCnt l
  | [], i, s => by rw [argsF, exsCnt]; omega
  | e :: l, i, s => by
    rw [argsF, exsCnt]
    have h1 := exF_n its at_ sc un e s
    have h3 := askArg_n its nm i ((exF its at_ sc un e s).1 ||| un) e.fr e.to (exF its at_ sc un e s).2
    have h2 := argsF_n its at_ sc un nm l (i + 1) (askArg its nm i ((exF its at_ sc un e s).1 ||| un) e.fr e.to (exF its at_ sc un e s).2)
    omega
 end
mutual
theorem stmF_n (its : List Itm) (own : Nat) (at_ : Int) : ∀ (x : Stm) (sc : List Lc) (un : Nat) (s : FW), s.ds.length ≤ (stmF its own at_ x sc un s).2.ds.length ∧ (stmF its own at_ x sc un s).2.ds.length ≤ s.ds.length + 2 * x.cnt ∧
      sc.length ≤ (stmF its own at_ x sc un s).1.length ∧ (stmF its own at_ x sc un s).1.length ≤ sc.length + 1
  | .mk k nm a lb o e thn els f t, sc, un, s => by
    rw [stmF, Stm.cnt]
    try dsimp only
    generalize unF its sc k un e = un1
    have h1 := exF_n its at_ sc un1 e s
    generalize exF its at_ sc un1 e s = r at h1 ⊢
    have h2 := ask_n r.2 (r.1 ||| un1) (if o = true then r.1 ||| un1 else lb) f t nm
    have h3 := ask_n r.2 (r.1 ||| un1) (getF sc nm) f t nm
    have h4 := ask_n r.2 (r.1 ||| un1) own f t nm
    have h5 := askCh_n its (r.1 ||| un1) nm f t r.2
    have h6 := stmsF_n its own at_ thn sc (r.1 ||| un1) r.2
    have h7 := stmsF_n its own at_ els sc (r.1 ||| un1) (stmsF its own at_ thn sc (r.1 ||| un1) r.2).2
    split
    · dsimp only; rw [List.length_append, List.length_singleton]; omega
    · split
      · dsimp only; omega
      · split
        · dsimp only; omega
        · split
          · dsimp only; omega
          · split
            · dsimp only; omega
            · dsimp only; omega
theorem stmsF_n (its : List Itm) (own : Nat) (at_ : Int) : ∀ (l : List Stm) (sc : List Lc) (un : Nat) (s : FW), s.ds.length ≤ (stmsF its own at_ l sc un s).2.ds.length ∧ (stmsF its own at_ l sc un s).2.ds.length ≤ s.ds.length + 2 * stmsCnt l ∧
      sc.length ≤ (stmsF its own at_ l sc un s).1.length ∧ (stmsF its own at_ l sc un s).1.length ≤ sc.length + l.length
  | [], sc, un, s => by rw [stmsF, stmsCnt]; exact ⟨by dsimp only; omega, by dsimp only; omega, by dsimp only; omega, by dsimp only; simp⟩
  | x :: l, sc, un, s => by
    rw [stmsF, stmsCnt, List.length_cons]
    have h1 := stmF_n its own at_ x sc un s
    have h2 := stmsF_n its own at_ l (stmF its own at_ x sc un s).1 un (stmF its own at_ x sc un s).2
    omega
 end
theorem stmF_pre (its : List Itm) (own : Nat) (at_ : Int) (x : Stm) (sc : List Lc) (un : Nat) (s : FW) : sc <+: (stmF its own at_ x sc un s).1 := by
  cases x with
  | mk k nm a lb o e thn els f t =>
  rw [stmF]
  try dsimp only
  split
  · exact List.prefix_append _ _
  · split
    · exact List.prefix_refl _
    · split
      · exact List.prefix_refl _
      · split
        · exact List.prefix_refl _
        · split <;> exact List.prefix_refl _
theorem stmsF_pre (its : List Itm) (own : Nat) (at_ : Int) : ∀ (l : List Stm) (sc : List Lc) (un : Nat) (s : FW), sc <+: (stmsF its own at_ l sc un s).1
  | [], sc, un, s => by rw [stmsF]; exact List.prefix_refl _
  | x :: l, sc, un, s => by rw [stmsF]; exact (stmF_pre its own at_ x sc un s).trans (stmsF_pre its own at_ l _ _ _)
theorem stmsF_back (its : List Itm) (own : Nat) (at_ : Int) (l : List Stm) (sc : List Lc) (un : Nat) (s : FW) : (stmsF its own at_ l sc un s).1.take sc.length = sc :=
  (List.prefix_iff_eq_take.1 (stmsF_pre its own at_ l sc un s)).symm
def scLab (sc : List Lc) : Prop := ∀ l ∈ sc, l.at_ < 256
def itLab (its : List Itm) : Prop := ∀ it ∈ its, it.label < 256 ∧ ∀ p ∈ it.params, p.label < 256
theorem getF_lt {sc : List Lc} (h : scLab sc) (n : List UInt8) : getF sc n < 256 := by
  rw [getF]
  split
  · rename_i l hl
    exact h l (findLc_mem hl).1
  · omega
theorem findIt_lt {its : List Itm} {k : Int} {n : List UInt8} {j : Nat} (h : findIt its k n = some j) : j < its.length ∧ ((itNo its j).kind : Int) = k ∧ (itNo its j).name = n ∧ n ≠ [] ∧ itNo its j ∈ its := by
  obtain ⟨h1, h2, _⟩ := List.findIdx?_eq_some_iff_getElem.1 h
  have e : itNo its j = its[j] := by rw [itNo, List.getD_eq_getElem?_getD, List.getElem?_eq_getElem h1]; rfl
  rw [e]
  simp only [itIs, Bool.and_eq_true, decide_eq_true_eq] at h2
  exact ⟨h1, h2.1, h2.2.1, h2.2.2, List.getElem_mem h1⟩
theorem callLab_lt {its : List Itm} (h : itLab its) (n : List UInt8) : callLab its n < 256 := by
  rw [callLab]
  split
  · rename_i j hj
    exact (h _ (findIt_lt hj).2.2.2.2).1
  · omega
mutual
theorem exF_lt {its : List Itm} (h : itLab its) (at_ : Int) {sc : List Lc} (hs : scLab sc) (un : Nat) : ∀ (e : Ex) (s : FW), (exF its at_ sc un e s).1 < 256
  | .mk k nm n args f t, s => by
    rw [exF]
    split
    · exact getF_lt hs _
    · split
      · exact opsF_lt h at_ hs un args 0 s (by omega)
      · split
        · exact callLab_lt h _
        · dsimp only; omega
theorem opsF_lt {its : List Itm} (h : itLab its) (at_ : Int) {sc : List Lc} (hs : scLab sc) (un : Nat) : ∀ (l : List Ex) (n : Nat) (s : FW), n < 256 → (opsF its at_ sc un l n s).1 < 256
  | [], n, s, hn => by rw [opsF]; exact hn
  | e :: l, n, s, hn => by rw [opsF]; exact opsF_lt h at_ hs un l _ _ (or_lt hn (exF_lt h at_ hs un e s))
 end
mutual
theorem plainF_lt {its : List Itm} (h : itLab its) {sc : List Lc} (hs : scLab sc) : ∀ (e : Ex), plainF its sc e < 256
  | .mk k nm n args f t => by
    rw [plainF]
    split
    · exact getF_lt hs _
    · split
      · exact plainsF_lt h hs args 0 (by omega)
      · split
        · exact callLab_lt h _
        · omega
theorem plainsF_lt {its : List Itm} (h : itLab its) {sc : List Lc} (hs : scLab sc) : ∀ (l : List Ex) (n : Nat), n < 256 → plainsF its sc l n < 256
  | [], n, hn => by rw [plainsF]; exact hn
  | e :: l, n, hn => by rw [plainsF]; exact plainsF_lt h hs l _ (or_lt hn (plainF_lt h hs e))
 end
theorem meetF_lt (its : List Itm) (l : List Rf) : meetF its l < 256 := by
  have key : ∀ (l : List Rf) (n : Nat), n < 256 → l.foldl (meetStep its) n < 256 := by
    intro l
    induction l with
    | nil => intro n h; exact h
    | cons x l ih =>
      intro n h
      rw [List.foldl_cons]
      refine ih _ ?_
      rw [meetStep]
      split
      · exact and_lt h
      · exact h
  exact key l 255 (by omega)
theorem unF_lt {its : List Itm} (h : itLab its) {sc : List Lc} (hs : scLab sc) (k : Nat) {un : Nat} (hu : un < 256) (e : Ex) : unF its sc k un e < 256 := by
  rw [unF]
  split
  · exact or_lt (plainF_lt h hs e) hu
  · exact hu
theorem scLab_snoc {sc : List Lc} (h : scLab sc) {n : List UInt8} {a : Nat} (ha : a < 256) : scLab (sc ++ [⟨n, a⟩]) := fun l hl => by
  rcases List.mem_append.1 hl with hl | hl
  · exact h l hl
  · obtain rfl := List.mem_singleton.1 hl
    exact ha
theorem stmF_lab {its : List Itm} (h : itLab its) (own : Nat) (at_ : Int) (x : Stm) {sc : List Lc} (hs : scLab sc) {un : Nat} (hu : un < 256) (hx : x.label < 256) (s : FW) : scLab (stmF its own at_ x sc un s).1 := by
  cases x with
  | mk k nm a lb o e thn els f t =>
  rw [stmF]
  try dsimp only
  have h1 := unF_lt h hs k hu e
  generalize unF its sc k un e = un1 at h1 ⊢
  have h2 := exF_lt h at_ hs un1 e s
  split
  · refine scLab_snoc hs ?_
    split
    · exact or_lt h2 h1
    · exact hx
  · split
    · exact hs
    · split
      · exact hs
      · split
        · exact hs
        · split <;> exact hs
theorem parsF_lab {its : List Itm} (h : itLab its) {it : Itm} (hi : it ∈ its) : scLab (parsF it.params) := fun l hl => by
  obtain ⟨p, hp, rfl⟩ := List.mem_map.1 hl
  exact (h it hi).2 p hp
end Go.Sp
end
section
namespace Go.Sp
def w64 (n : Int) : Int := (n + 9223372036854775808) % 18446744073709551616 - 9223372036854775808
structure Cl where
  name : List UInt8
  n : Int
structure Ev where
  ch : List UInt8
  n : Int
  deriving DecidableEq
structure MR where
  ev : List Ev
  steps : Nat
  err : Nat
def MR.go (m : MR) : Bool := decide (m.err = 0) && decide (m.steps < 3000)
def MR.step (m : MR) : MR := if m.err ≠ 0 then m else if m.steps < 3000 then { m with steps := m.steps + 1 } else { m with err := 11 }
def findCl : List Cl → List UInt8 → Option Nat
  | [], _ => none
  | c :: sc, n => match findCl sc n with
    | some i => some (i + 1)
    | none => if c.name = n then some 0 else none
def getR (sc : List Cl) (n : List UInt8) : Int := match findCl sc n with
  | some i => (sc.getD i ⟨[], 0⟩).n
  | none => 0
def setR (sc : List Cl) (n : List UInt8) (v : Int) : List Cl := match findCl sc n with
  | some i => sc.set i ⟨(sc.getD i ⟨[], 0⟩).name, v⟩
  | none => sc
def opR (nm : List UInt8) (a b : Int) : Int :=
  if nm = [43] then w64 (a + b) else if nm = [45] then w64 (a - b) else if nm = [42] then w64 (a * b) else
  if nm = [60] then (if a < b then 1 else 0) else if a = b then 1 else 0
abbrev CallR := List UInt8 → List Int → MR → Int × MR
mutual
def exR (C : CallR) (sc : List Cl) : Ex → MR → Int × MR
  | .mk k nm n args _ _, m =>
    if m.go = false then (0, m.step) else
    if k = 1 then ((n : Int), m.step) else
    if k = 2 then (getR sc nm, m.step) else
    if k = 3 then (opR nm ((exsR C sc args m.step).1.getD 0 0) ((exsR C sc args m.step).1.getD 1 0), (exsR C sc args m.step).2) else
    C nm (exsR C sc args m.step).1 (exsR C sc args m.step).2
def exsR (C : CallR) (sc : List Cl) : List Ex → MR → List Int × MR
  | [], m => ([], m)
  | e :: es, m => ((exR C sc e m).1 :: (exsR C sc es (exR C sc e m).2).1, (exsR C sc es (exR C sc e m).2).2)
 end
structure SR where
  sc : List Cl
  back : Int
  m : MR
def loopR (f : List Cl → MR → Int × MR) (b : SR → SR) : Nat → SR → SR
  | 0, s => s
  | k + 1, s =>
    if s.m.go = false then { s with m := s.m.step } else
    if (f s.sc s.m.step).1 ≠ 0 ∧ (f s.sc s.m.step).2.err = 0 then loopR f b k (b { s with m := (f s.sc s.m.step).2 }) else { s with m := (f s.sc s.m.step).2 }
def shutR (n : Nat) (r : SR × Bool) : SR := if r.2 = true then { r.1 with sc := r.1.sc.take n } else r.1
mutual
def stmR (C : CallR) : Stm → SR → SR
  | .mk k nm _ _ _ e thn els _ _, s =>
    if k = 4 then loopR (fun sc m => exR C sc e m) (fun s => shutR s.sc.length (goR C thn s)) 3001 s else
    if s.m.go = false then { s with m := s.m.step } else
    if (exR C s.sc e s.m.step).2.err ≠ 0 then { s with m := (exR C s.sc e s.m.step).2 } else
    if k = 1 then { s with sc := s.sc ++ [⟨nm, (exR C s.sc e s.m.step).1⟩], m := (exR C s.sc e s.m.step).2 } else
    if k = 2 then { s with sc := setR s.sc nm (exR C s.sc e s.m.step).1, m := (exR C s.sc e s.m.step).2 } else
    if k = 5 then { s with m := { (exR C s.sc e s.m.step).2 with ev := (exR C s.sc e s.m.step).2.ev ++ [⟨nm, (exR C s.sc e s.m.step).1⟩] } } else
    if k = 6 then { s with back := (exR C s.sc e s.m.step).1, m := (exR C s.sc e s.m.step).2 } else
    if k = 3 then
      if (exR C s.sc e s.m.step).1 ≠ 0 then shutR s.sc.length (goR C thn { s with m := (exR C s.sc e s.m.step).2 })
      else shutR s.sc.length (goR C els { s with m := (exR C s.sc e s.m.step).2 })
    else { s with m := (exR C s.sc e s.m.step).2 }
def goR (C : CallR) : List Stm → SR → SR × Bool
  | [], s => (s, true)
  | x :: xs, s => if s.m.err ≠ 0 then (s, false) else goR C xs (stmR C x s)
 end
def blkR (C : CallR) (l : List Stm) (s : SR) : SR := shutR s.sc.length (goR C l s)
def parsR (l : List Par) (args : List Int) : List Cl := List.zipWith (fun p n => ⟨p.name, n⟩) l args
def callR (its : List Itm) : Nat → CallR
  | 0, _, _, m => (0, if m.err ≠ 0 then m else { m with err := 12 })
  | d + 1, nm, args, m =>
    if m.err ≠ 0 then (0, m) else
    match findIt its 2 nm with
    | none => (0, m)
    | some j => ((blkR (callR its d) (itNo its j).body ⟨parsR (itNo its j).params args, 0, m⟩).back, (blkR (callR its d) (itNo its j).body ⟨parsR (itNo its j).params args, 0, m⟩).m)
structure Rn where
  ev : List Ev
  n : Int
  err : Nat
  steps : Nat
def MR0 : MR := ⟨[], 0, 0⟩
end Go.Sp
end
section
namespace Go.Fw
open Go
section
variable {P : Program} {N : Nat} {ds : List Deferred} {Q : Exit → Act → World → Prop} {l : Log} {w : World} {ops : Array Oper} {os : List Oper}
variable {d : Nat} {ty : TypeId} {pos : String} {af : Array Edge} {g : Option (Nat × Bool)} {t t' : TypeId} {x y : Operand}
theorem wrap_w64 (n : Int) : IntKind.i64.wrap n = Sp.w64 n := by rw [IntKind.wrap_i64]; rfl
theorem op_addW {a b : Int} (hw : want ops l ⟨some d, .binOp .add t x y t', ty, pos, af, g⟩ = some true) (hN : Nat.blt d N = true)
    (hx : ev l x = some (.int .i64 a)) (hy : ev l y = some (.int .i64 b))
    (k : WL P N ds ops Q os ((d, .int .i64 (Sp.w64 (a + b))) :: l) w) : WL P N ds ops Q (⟨some d, .binOp .add t x y t', ty, pos, af, g⟩ :: os) l w :=
  wl_value rfl hw hN (fun c hc => by simp [execOp, hc.ev hx, hc.ev hy, eqGuard, binOp, Op.intArith, wrap_w64]) k
theorem op_subW {a b : Int} (hw : want ops l ⟨some d, .binOp .sub t x y t', ty, pos, af, g⟩ = some true) (hN : Nat.blt d N = true)
    (hx : ev l x = some (.int .i64 a)) (hy : ev l y = some (.int .i64 b))
    (k : WL P N ds ops Q os ((d, .int .i64 (Sp.w64 (a - b))) :: l) w) : WL P N ds ops Q (⟨some d, .binOp .sub t x y t', ty, pos, af, g⟩ :: os) l w :=
  wl_value rfl hw hN (fun c hc => by simp [execOp, hc.ev hx, hc.ev hy, eqGuard, binOp, Op.intArith, wrap_w64]) k
theorem op_mulW {a b : Int} (hw : want ops l ⟨some d, .binOp .mul t x y t', ty, pos, af, g⟩ = some true) (hN : Nat.blt d N = true)
    (hx : ev l x = some (.int .i64 a)) (hy : ev l y = some (.int .i64 b))
    (k : WL P N ds ops Q os ((d, .int .i64 (Sp.w64 (a * b))) :: l) w) : WL P N ds ops Q (⟨some d, .binOp .mul t x y t', ty, pos, af, g⟩ :: os) l w :=
  wl_value rfl hw hN (fun c hc => by simp [execOp, hc.ev hx, hc.ev hy, eqGuard, binOp, Op.intArith, wrap_w64]) k
end
end Go.Fw
namespace Go.Sp
theorem step_ev (m : MR) : m.step.ev = m.ev := by
  rw [MR.step]
  split
  · rfl
  · split <;> rfl
theorem findCl_none {n : List UInt8} : ∀ {l : List Cl}, (∀ (j : Nat) (y : Cl), l[j]? = some y → y.name ≠ n) → findCl l n = none
  | [], _ => rfl
  | a :: l, h => by
    rw [findCl, findCl_none (l := l) (fun j y hy => h (j + 1) y (by rw [List.getElem?_cons_succ]; exact hy))]
    dsimp only
    rw [if_neg (h 0 a rfl)]
theorem findCl_at {n : List UInt8} : ∀ {l : List Cl} {i : Nat} {x : Cl}, l[i]? = some x → x.name = n → (∀ (j : Nat) (y : Cl), i < j → l[j]? = some y → y.name ≠ n) → findCl l n = some i
  | [], _, _, h, _, _ => by simp at h
  | a :: l, 0, x, h, hn, hno => by
    simp only [List.getElem?_cons_zero, Option.some.injEq] at h
    subst h
    rw [findCl, findCl_none (fun j y hy => hno (j + 1) y (by omega) (by rw [List.getElem?_cons_succ]; exact hy))]
    dsimp only
    rw [if_pos hn]
  | a :: l, i + 1, x, h, hn, hno => by
    rw [List.getElem?_cons_succ] at h
    rw [findCl, findCl_at h hn (fun j y hj hy => hno (j + 1) y (by omega) (by rw [List.getElem?_cons_succ]; exact hy))]
end Go.Sp
namespace Go.Proofs.YthmdffgiockcbaaGreatDoor
open Go.Fw
abbrev encEv (e : Sp.Ev) : List Value := [str e.ch, .int .i64 e.n]
abbrev encCl (c : Sp.Cl) : List Value := [str c.name, .int .i64 c.n]
theorem encCl_at : ∀ {sc : List Sp.Cl} {i : Nat} {p : Sp.Cl}, sc[i]? = some p → (sc.flatMap encCl)[i * 2]? = some (str p.name) ∧ (sc.flatMap encCl)[i * 2 + 1]? = some (.int .i64 p.n)
  | [], i, p, h => by simp at h
  | a :: sc, 0, p, h => by
    simp only [List.getElem?_cons_zero, Option.some.injEq] at h
    subst h
    exact ⟨rfl, rfl⟩
  | a :: sc, i + 1, p, h => by
    rw [List.getElem?_cons_succ] at h
    obtain ⟨h1, h2⟩ := encCl_at h
    rw [show (i + 1) * 2 = i * 2 + 2 by omega]
    exact ⟨h1, h2⟩
theorem encCl_set : ∀ {sc : List Sp.Cl} {i : Nat} {p : Sp.Cl} (v : Int), sc[i]? = some p → (sc.flatMap encCl).set (i * 2 + 1) (.int .i64 v) = (sc.set i ⟨p.name, v⟩).flatMap encCl
  | [], i, p, v, h => by simp at h
  | a :: sc, 0, p, v, h => by
    simp only [List.getElem?_cons_zero, Option.some.injEq] at h
    subst h; rfl
  | a :: sc, i + 1, p, v, h => by
    rw [List.getElem?_cons_succ] at h
    have := encCl_set v h
    rw [show (i + 1) * 2 + 1 = (i * 2 + 1) + 2 by omega, List.set_cons_succ, List.flatMap_cons, List.flatMap_cons, ← this]; rfl
theorem encCl_len (sc : List Sp.Cl) : (sc.flatMap encCl).length = sc.length * 2 := by
  induction sc with
  | nil => rfl
  | cons a sc ih =>
    rw [List.flatMap_cons, List.length_append, ih]
    show 2 + sc.length * 2 = (sc.length + 1) * 2
    omega
abbrev mCell (bm bf : Nat) (m : Sp.MR) (ea : Option Addr) (ep deep : Nat) : HItem := .cell bm [ptr bf, .slice ea m.ev.length ep, nt m.steps, nt deep, nt m.err] 127
abbrev evRow (m : Sp.MR) (ea : Option Addr) (ep : Nat) : HItem := .row (.slice ea m.ev.length ep) 59 2 m.ev.length (m.ev.flatMap encEv)
abbrev fCell (br bm : Nat) (sc : List Sp.Cl) (sa : Option Addr) (sp : Nat) (back : Int) : HItem := .cell br [ptr bm, .slice sa sc.length sp, .int .i64 back] 170
abbrev scRow (sc : List Sp.Cl) (sa : Option Addr) (sp : Nat) : HItem := .row (.slice sa sc.length sp) 172 2 sc.length (sc.flatMap encCl)
set_option maxHeartbeats 8000000 in
theorem r_step {bm bf : Nat} {m : Sp.MR} {ea : Option Addr} {ep deep : Nat} (hs : m.steps ≤ 3000) (I : Imm) :
    CalM Tryz.prog 138 #[ptr bm] I [mCell bm bf m ea ep deep] (fun v _ H' => v = .bool m.go ∧ H' = [mCell bm bf m.step ea ep deep]) := by
  refine CalM.of fun w E hm => enter (N := 23) Tryz.func138 rfl [(0, ptr bm)] args1 rfl ?_
  by_cases h1 : m.err = 0
  · by_cases h2 : m.steps = 3000
    · have hg : m.go = false := by rw [Sp.MR.go, decide_eq_true h1, decide_eq_false (by omega)]; rfl
      have hst : m.step = { m with err := 11 } := by rw [Sp.MR.step, if_neg (by omega), if_neg (by omega)]
      rw [hg, hst]
      repeat' (first|refine m_load1 hm (k:=?_)|(refine m_store1 hm (k:=?_); clear hm; intro _ hm; try simp only [setn] at hm)|refine op_move (k:=?_)|refine op_assign (k:=?_)|refine op_eql (k:=?_)|refine op_neq (k:=?_)|refine op_nilCheck (k:=?_)|refine op_fieldAddr (k:=?_)|refine wl_nil ?_|refine at_then_normal ?_|refine at_then_ret ?_|refine wc_seq ?_|refine wc_region ?_|refine wc_skip ?_|refine wc_ret ?_|refine at_ret1 (h:=?_)|(refine wc_cond_dec (ht:=fun _ => ?_) (hf:=fun _ => ?_)<;> (try first | contradiction | (exfalso; omega))))
      all_goals try (exfalso; first | omega | contradiction)
      exact ⟨I, _, ⟨rfl, rfl⟩, hm⟩
    · have hg : m.go = true := by rw [Sp.MR.go, decide_eq_true h1, decide_eq_true (by omega)]; rfl
      have hst : m.step = { m with steps := m.steps + 1 } := by rw [Sp.MR.step, if_neg (by omega), if_pos (by omega)]
      rw [hg, hst]
      repeat' (first|refine m_load1 hm (k:=?_)|(refine m_store1 hm (k:=?_); clear hm; intro _ hm; try simp only [setn] at hm)|refine op_move (k:=?_)|refine op_assign (k:=?_)|refine op_eql (k:=?_)|refine op_neq (k:=?_)|refine op_nilCheck (k:=?_)|refine op_add (k:=?_)|refine op_fieldAddr (k:=?_)|refine wl_nil ?_|refine at_then_normal ?_|refine wc_seq ?_|refine wc_region ?_|refine wc_skip ?_|refine wc_ret ?_|refine at_ret1 (h:=?_)|(refine wc_cond_dec (ht:=fun _ => ?_) (hf:=fun _ => ?_)<;> (try first | contradiction | (exfalso; omega))))
      all_goals try (exfalso; first | omega | contradiction)
      exact ⟨I, _, ⟨rfl, rfl⟩, hm⟩
  · have hg : m.go = false := by rw [Sp.MR.go, decide_eq_false h1]; rfl
    have hst : m.step = m := by rw [Sp.MR.step, if_pos h1]
    rw [hg, hst]
    repeat' (first|refine m_load1 hm (k:=?_)|refine op_move (k:=?_)|refine op_assign (k:=?_)|refine op_neq (k:=?_)|refine op_nilCheck (k:=?_)|refine op_fieldAddr (k:=?_)|refine wl_nil ?_|refine at_then_normal ?_|refine at_then_ret ?_|refine wc_seq ?_|refine wc_region ?_|refine wc_ret ?_|refine at_ret1 (h:=?_)|(refine wc_cond_dec (ht:=fun _ => ?_) (hf:=fun _ => ?_)<;> (try first | contradiction | (exfalso; omega))))
    all_goals try (exfalso; first | omega | contradiction)
    exact ⟨I, _, ⟨rfl, rfl⟩, hm⟩
set_option maxHeartbeats 8000000 in
theorem r_get {br bm : Nat} {sc : List Sp.Cl} {sa : Option Addr} {sp : Nat} {back : Int} (nm : List UInt8) (I : Imm) (hl : sc.length ≤ 1000000000) :
    CalM Tryz.prog 140 #[ptr br, str nm] I [fCell br bm sc sa sp back, scRow sc sa sp] (fun v _ H' =>
      (∃ i p b, sc[i]? = some p ∧ Sp.findCl sc nm = some i ∧ sa = some ⟨b, 0, none⟩ ∧ v = .pointer (some ⟨b, i * 2, none⟩) ∧ H' = [fCell br bm sc sa sp back, scRow sc sa sp]) ∨
      (Sp.findCl sc nm = none ∧ ∃ bl, v = ptr bl ∧ H' = [.cell bl [str [], .int .i64 0] 172, fCell br bm sc sa sp back, scRow sc sa sp])) := by
  refine CalM.of fun w E hm => enter (N := 34) Tryz.func140 rfl [(0, ptr br), (1, str nm)] args2 rfl ?_
  repeat' (first|refine m_load1 hm (k:=?_)|refine op_move (k:=?_)|refine op_assign (k:=?_)|refine op_len_slice (k:=?_)|refine op_nilCheck (k:=?_)|refine op_sub (k:=?_)|refine op_fieldAddr (k:=?_)|refine wl_nil ?_|refine at_then_normal ?_|refine wc_seq ?_|refine wc_region ?_|refine wc_block ?_)
  refine wc_loop (fun x : Nat => [(0, ptr br), (1, str nm), (5, .int .i64 ((x : Int) - 1))])
    (fun x w' => Mem E I [fCell br bm sc sa sp back, scRow sc sa sp] w' ∧ x ≤ sc.length ∧ ∀ m y, x ≤ m → sc[m]? = some y → y.name ≠ nm) (fun x => x) sc.length (by exact ⟨rfl, rfl, rfl, trivial⟩)
    ⟨hm, Nat.le_refl _, fun m y hm hy => by rw [List.getElem?_eq_none hm] at hy; cases hy⟩ ?_
  clear hm
  rintro x w1 ⟨hm, hx, hno⟩
  try dsimp only at hm hx hno ⊢
  cases x with
  | zero =>
    repeat' (first|(refine m_box (d:=33) hm (k:=?_); clear hm; intro b33 _ hm)|refine op_move (k:=?_)|refine op_assign (k:=?_)|refine op_geq (k:=?_)|refine op_struct (k:=?_)|refine wl_nil ?_|refine at_then_normal ?_|refine at_then_exit ?_|refine at_block_exit ?_|refine wc_seq ?_|refine wc_region ?_|refine wc_exit ?_|refine wc_ret ?_|refine at_ret1 (h:=?_)|refine wc_cond_false (hf:=?_))
    all_goals try (exfalso; omega)
    exact ⟨I, _, .inr ⟨Sp.findCl_none (fun j y hy => hno j y (Nat.zero_le _) hy), b33, rfl, rfl⟩, hm⟩
  | succ i =>
    have hg : sc[i]? = some sc[i] := List.getElem?_eq_getElem hx
    generalize sc[i] = p at hg
    rw [show ((i + 1 : Nat) : Int) - 1 = (i : Int) by omega]
    obtain ⟨b, rfl⟩ := (hm.front 1 gt1).rowAddr (by omega)
    obtain ⟨q1, q2⟩ := encCl_at hg
    by_cases hn : p.name = nm
    · skip
      repeat' (first|(refine mi_loadRow (i := 1) (d := 23) hm (by rfl) (by rfl) (by rfl) gt1 (by rw [Nat.zero_add, Nat.add_zero]; exact q1) ?_)|refine m_load1 hm (k:=?_)|refine op_move (k:=?_)|refine op_assign (k:=?_)|refine op_geq (k:=?_)|refine op_eql_str (k:=?_)|refine op_nilCheck (k:=?_)|refine op_fieldAddr (k:=?_)|refine op_indexAddr (k:=?_)|refine wl_nil ?_|refine at_then_normal ?_|refine at_then_ret ?_|refine at_block_ret ?_|refine wc_seq ?_|refine wc_region ?_|refine wc_block ?_|refine wc_skip ?_|refine wc_ret ?_|refine at_ret1 (h:=?_)|refine wc_cond_true (ht:=?_)|(refine wc_cond_dec (ht:=fun _ => ?_) (hf:=fun _ => ?_)<;> (try first | contradiction | (exfalso; omega))))
      all_goals try (exfalso; first | omega | contradiction)
      exact ⟨I, _, .inl ⟨i, p, b, hg, Sp.findCl_at hg hn (fun j y hj hy => hno j y (by omega) hy), rfl, by rw [Nat.zero_add, Int.toNat_natCast], rfl⟩, hm⟩
    · skip
      repeat' (first|(refine mi_loadRow (i := 1) (d := 23) hm (by rfl) (by rfl) (by rfl) gt1 (by rw [Nat.zero_add, Nat.add_zero]; exact q1) ?_)|refine m_load1 hm (k:=?_)|refine op_move (k:=?_)|refine op_assign (k:=?_)|refine op_geq (k:=?_)|refine op_eql_str (k:=?_)|refine op_nilCheck (k:=?_)|refine op_sub (k:=?_)|refine op_fieldAddr (k:=?_)|refine op_indexAddr (k:=?_)|refine wl_nil ?_|refine at_then_normal ?_|refine at_block_normal ?_|refine wc_seq ?_|refine wc_region ?_|refine wc_block ?_|refine wc_skip ?_|refine wc_cond_true (ht:=?_)|(refine wc_cond_dec (ht:=fun _ => ?_) (hf:=fun _ => ?_)<;> (try first | contradiction | (exfalso; omega))))
      all_goals try (exfalso; first | omega | contradiction)
      refine at_round (i : Nat) (by exact ⟨rfl, rfl, rfl, trivial⟩) ⟨hm, by omega, fun m y hm hy => ?_⟩ (by omega)
      rcases Nat.lt_or_ge i m with h | h
      · exact hno m y h hy
      · obtain rfl : m = i := by omega
        rw [hg] at hy
        obtain rfl := Option.some.inj hy
        exact hn
set_option maxHeartbeats 8000000 in
theorem r_op (nm : List UInt8) (a b : Int) (I : Imm) : CalM Tryz.prog 175 #[str nm, .int .i64 a, .int .i64 b] I [] (fun v _ H' => v = .int .i64 (Sp.opR nm a b) ∧ H' = []) := by
  refine CalM.of fun w E hm => enter (N := 33) Tryz.func175 rfl [(0, str nm), (1, .int .i64 a), (2, .int .i64 b)] args3 rfl ?_
  rw [Sp.opR]
  by_cases h1 : nm = [43]
  · rw [if_pos h1]
    repeat' (first|(refine op_addW (by rfl) (by rfl) (by rfl) (by rfl) ?_)|refine op_move (k:=?_)|refine op_assign (k:=?_)|refine op_eql_str (k:=?_)|refine wl_nil ?_|refine at_then_normal ?_|refine at_then_ret ?_|refine at_block_ret ?_|refine wc_seq ?_|refine wc_region ?_|refine wc_block ?_|refine wc_ret ?_|refine at_ret1 (h:=?_)|(refine wc_cond_dec (ht:=fun _ => ?_) (hf:=fun _ => ?_)<;> (try first | contradiction | (exfalso; omega))))
    all_goals try (exfalso; first | omega | contradiction)
    exact ⟨I, _, ⟨rfl, rfl⟩, hm⟩
  rw [if_neg h1]
  by_cases h2 : nm = [45]
  · rw [if_pos h2]
    repeat' (first|(refine op_subW (by rfl) (by rfl) (by rfl) (by rfl) ?_)|refine op_move (k:=?_)|refine op_assign (k:=?_)|refine op_eql_str (k:=?_)|refine wl_nil ?_|refine at_then_normal ?_|refine at_then_ret ?_|refine at_block_ret ?_|refine wc_seq ?_|refine wc_region ?_|refine wc_block ?_|refine wc_ret ?_|refine at_ret1 (h:=?_)|(refine wc_cond_dec (ht:=fun _ => ?_) (hf:=fun _ => ?_)<;> (try first | contradiction | (exfalso; omega))))
    all_goals try (exfalso; first | omega | contradiction)
    exact ⟨I, _, ⟨rfl, rfl⟩, hm⟩
  rw [if_neg h2]
  by_cases h3 : nm = [42]
  · rw [if_pos h3]
    repeat' (first|(refine op_mulW (by rfl) (by rfl) (by rfl) (by rfl) ?_)|refine op_move (k:=?_)|refine op_assign (k:=?_)|refine op_eql_str (k:=?_)|refine wl_nil ?_|refine at_then_normal ?_|refine at_then_ret ?_|refine at_block_ret ?_|refine wc_seq ?_|refine wc_region ?_|refine wc_block ?_|refine wc_ret ?_|refine at_ret1 (h:=?_)|(refine wc_cond_dec (ht:=fun _ => ?_) (hf:=fun _ => ?_)<;> (try first | contradiction | (exfalso; omega))))
    all_goals try (exfalso; first | omega | contradiction)
    exact ⟨I, _, ⟨rfl, rfl⟩, hm⟩
  rw [if_neg h3]
  by_cases h4 : nm = [60]
  · rw [if_pos h4]
    by_cases h5 : a < b
    · rw [if_pos h5]
      repeat' (first|refine op_move (k:=?_)|refine op_assign (k:=?_)|refine op_lss (k:=?_)|refine op_eql_str (k:=?_)|refine wl_nil ?_|refine at_then_normal ?_|refine at_then_ret ?_|refine at_block_normal ?_|refine wc_seq ?_|refine wc_region ?_|refine wc_block ?_|refine wc_ret ?_|refine at_ret1 (h:=?_)|(refine wc_cond_dec (ht:=fun _ => ?_) (hf:=fun _ => ?_)<;> (try first | contradiction | (exfalso; omega))))
      all_goals try (exfalso; first | omega | contradiction)
      exact ⟨I, _, ⟨rfl, rfl⟩, hm⟩
    · rw [if_neg h5]
      repeat' (first|refine op_move (k:=?_)|refine op_assign (k:=?_)|refine op_lss (k:=?_)|refine op_eql_str (k:=?_)|refine wl_nil ?_|refine at_then_normal ?_|refine at_block_normal ?_|refine wc_seq ?_|refine wc_region ?_|refine wc_block ?_|refine wc_skip ?_|refine wc_ret ?_|refine at_ret1 (h:=?_)|(refine wc_cond_dec (ht:=fun _ => ?_) (hf:=fun _ => ?_)<;> (try first | contradiction | (exfalso; omega))))
      all_goals try (exfalso; first | omega | contradiction)
      exact ⟨I, _, ⟨rfl, rfl⟩, hm⟩
  rw [if_neg h4]
  by_cases h5 : a = b
  · rw [if_pos h5]
    repeat' (first|refine op_move (k:=?_)|refine op_assign (k:=?_)|refine op_eql (k:=?_)|refine op_eql_str (k:=?_)|refine wl_nil ?_|refine at_then_normal ?_|refine at_then_ret ?_|refine at_block_normal ?_|refine wc_seq ?_|refine wc_region ?_|refine wc_block ?_|refine wc_ret ?_|refine at_ret1 (h:=?_)|(refine wc_cond_dec (ht:=fun _ => ?_) (hf:=fun _ => ?_)<;> (try first | contradiction | (exfalso; omega))))
    all_goals try (exfalso; first | omega | contradiction)
    exact ⟨I, _, ⟨rfl, rfl⟩, hm⟩
  · rw [if_neg h5]
    repeat' (first|refine op_move (k:=?_)|refine op_assign (k:=?_)|refine op_eql (k:=?_)|refine op_eql_str (k:=?_)|refine wl_nil ?_|refine at_then_normal ?_|refine at_block_normal ?_|refine wc_seq ?_|refine wc_region ?_|refine wc_block ?_|refine wc_skip ?_|refine wc_ret ?_|refine at_ret1 (h:=?_)|(refine wc_cond_dec (ht:=fun _ => ?_) (hf:=fun _ => ?_)<;> (try first | contradiction | (exfalso; omega))))
    all_goals try (exfalso; first | omega | contradiction)
    exact ⟨I, _, ⟨rfl, rfl⟩, hm⟩
end Go.Proofs.YthmdffgiockcbaaGreatDoor
end
