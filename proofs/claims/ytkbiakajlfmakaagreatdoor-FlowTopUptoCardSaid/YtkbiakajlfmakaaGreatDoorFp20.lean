/- Own work: texts SpecFlow, SpecFlow2, SpecTop, FtA, one behind the other. -/
import Derived.Test.YtkbiakajlfmakaaGreatDoorFp19
section
namespace Go.Sp
/-- a local's label; of none it is the least one. -/
def getF (sc : List Lc) (n : List UInt8) : Nat := match findLc sc n with
  | some l => l.at_
  | none => 0
def meetStep (its : List Itm) (n : Nat) (x : Rf) : Nat := match findIt its 1 x.name with
  | some j => n &&& (itNo its j).label
  | none => n
def meetF (its : List Itm) (l : List Rf) : Nat := l.foldl (meetStep its) 255
def floorsF (its : List Itm) : List Nat := its.map (fun it => meetF its it.sends)
structure FW where
  ds : List Dg
  hv : Option Nat
def FW.tell (s : FW) (f t : Nat) (n : List UInt8) : FW := { s with ds := s.ds ++ [⟨f, t, 9, n⟩] }
def FW.hit (s : FW) (at_ : Int) (f t n : Nat) : FW := if s.hv = none ∧ (f : Int) ≤ at_ ∧ at_ < t then { s with hv := some n } else s
/-- asks that what has a label may go where another one is. -/
def FW.ask (s : FW) (a b f t : Nat) (n : List UInt8) : FW := if flows a b = true then s else s.tell f t n
def callLab (its : List Itm) (n : List UInt8) : Nat := match findIt its 2 n with
  | some j => (itNo its j).label
  | none => 0
def askFloor (its : List Itm) (un : Nat) (n : List UInt8) (f t : Nat) (s : FW) : FW := match findIt its 2 n with
  | some j => s.ask un (meetF its (itNo its j).sends) f t n
  | none => s
/-- an argument is handed on. -/
def askArg (its : List Itm) (n : List UInt8) (i a f t : Nat) (s : FW) : FW := match findIt its 2 n with
  | some j => match (itNo its j).params[i]? with
    | some p => s.ask a p.label f t p.name
    | none => s
  | none => s
mutual
def exF (its : List Itm) (at_ : Int) (sc : List Lc) (un : Nat) : Ex → FW → Nat × FW
  | .mk k nm _ args f t, s =>
    if k = 2 then (getF sc nm, s.hit at_ f t (getF sc nm ||| un)) else
    if k = 3 then ((opsF its at_ sc un args 0 s).1, (opsF its at_ sc un args 0 s).2.hit at_ f t ((opsF its at_ sc un args 0 s).1 ||| un)) else
    if k = 4 then (callLab its nm, (askFloor its un nm f t (argsF its at_ sc un nm args 0 s)).hit at_ f t (callLab its nm ||| un)) else
    (0, s.hit at_ f t (0 ||| un))
def opsF (its : List Itm) (at_ : Int) (sc : List Lc) (un : Nat) : List Ex → Nat → FW → Nat × FW
  | [], n, s => (n, s)
  | e :: es, n, s => opsF its at_ sc un es (n ||| (exF its at_ sc un e s).1) (exF its at_ sc un e s).2
def argsF (its : List Itm) (at_ : Int) (sc : List Lc) (un : Nat) (nm : List UInt8) : List Ex → Nat → FW → FW
  | [], _, s => s
  | e :: es, i, s => argsF its at_ sc un nm es (i + 1) (askArg its nm i ((exF its at_ sc un e s).1 ||| un) e.fr e.to (exF its at_ sc un e s).2)
 end
mutual
/-- a label, of which nothing is asked. -/
def plainF (its : List Itm) (sc : List Lc) : Ex → Nat
  | .mk k nm _ args _ _ => if k = 2 then getF sc nm else if k = 3 then plainsF its sc args 0 else if k = 4 then callLab its nm else 0
def plainsF (its : List Itm) (sc : List Lc) : List Ex → Nat → Nat
  | [], n => n
  | e :: es, n => plainsF its sc es (n ||| plainF its sc e)
 end
/-- a statement's label, under what is known. -/
def unF (its : List Itm) (sc : List Lc) (k un : Nat) (e : Ex) : Nat := if k = 4 then plainF its sc e ||| un else un
def askCh (its : List Itm) (a : Nat) (n : List UInt8) (f t : Nat) (s : FW) : FW := match findIt its 1 n with
  | some j => s.ask a (itNo its j).label f t n
  | none => s
mutual
def stmF (its : List Itm) (own : Nat) (at_ : Int) : Stm → List Lc → Nat → FW → List Lc × FW
  | .mk k nm _ lb o e thn els f t, sc, un, s =>
    let un1 := unF its sc k un e
    let r := exF its at_ sc un1 e s
    let a := r.1 ||| un1
    if k = 1 then (sc ++ [⟨nm, if o = true then a else lb⟩], r.2.ask a (if o = true then a else lb) f t nm) else
    if k = 2 then (sc, r.2.ask a (getF sc nm) f t nm) else
    if k = 5 then (sc, askCh its a nm f t r.2) else
    if k = 6 then (sc, r.2.ask a own f t nm) else
    if k = 3 ∨ k = 4 then (sc, (stmsF its own at_ els sc a (stmsF its own at_ thn sc a r.2).2).2) else (sc, r.2)
def stmsF (its : List Itm) (own : Nat) (at_ : Int) : List Stm → List Lc → Nat → FW → List Lc × FW
  | [], sc, _, s => (sc, s)
  | x :: xs, sc, un, s => stmsF its own at_ xs (stmF its own at_ x sc un s).1 un (stmF its own at_ x sc un s).2
 end
def FW0 : FW := ⟨[], none⟩
def parsF (l : List Par) : List Lc := l.map (fun p => ⟨p.name, p.label⟩)
def checkF (its : List Itm) (i : Nat) (at_ : Int) : FW :=
  if (itNo its i).kind = 2 then (stmsF its (itNo its i).label at_ (itNo its i).body (parsF (itNo its i).params) 0 FW0).2 else FW0
def soundF (its : List Itm) : Prop := ∀ i, i < its.length → (checkF its i (-1)).ds = []
theorem opsF_app (its : List Itm) (at_ : Int) (sc : List Lc) (un : Nat) : ∀ (l r : List Ex) (n : Nat) (s : FW), opsF its at_ sc un (l ++ r) n s = opsF its at_ sc un r (opsF its at_ sc un l n s).1 (opsF its at_ sc un l n s).2
  | [], r, n, s => by rw [List.nil_append, opsF]
  | e :: l, r, n, s => by rw [List.cons_append, opsF, opsF, opsF_app its at_ sc un l r]
theorem opsF_step (its : List Itm) (at_ : Int) (sc : List Lc) (un : Nat) {l : List Ex} {k : Nat} {e : Ex} (h : l[k]? = some e) (n : Nat) (s : FW) :
    opsF its at_ sc un (l.take (k + 1)) n s = ((opsF its at_ sc un (l.take k) n s).1 ||| (exF its at_ sc un e (opsF its at_ sc un (l.take k) n s).2).1, (exF its at_ sc un e (opsF its at_ sc un (l.take k) n s).2).2) := by
  rw [take_succ_get h, opsF_app, opsF, opsF]
theorem argsF_app (its : List Itm) (at_ : Int) (sc : List Lc) (un : Nat) (nm : List UInt8) : ∀ (l r : List Ex) (i : Nat) (s : FW), argsF its at_ sc un nm (l ++ r) i s = argsF its at_ sc un nm r (i + l.length) (argsF its at_ sc un nm l i s)
  | [], r, i, s => by rw [List.nil_append, argsF]; rfl
  | e :: l, r, i, s => by rw [List.cons_append, argsF, argsF, argsF_app its at_ sc un nm l r, List.length_cons, show i + 1 + l.length = i + (l.length + 1) by omega]
theorem argsF_step (its : List Itm) (at_ : Int) (sc : List Lc) (un : Nat) (nm : List UInt8) {l : List Ex} {k : Nat} {e : Ex} (h : l[k]? = some e) (s : FW) :
    argsF its at_ sc un nm (l.take (k + 1)) 0 s = askArg its nm k ((exF its at_ sc un e (argsF its at_ sc un nm (l.take k) 0 s)).1 ||| un) e.fr e.to (exF its at_ sc un e (argsF its at_ sc un nm (l.take k) 0 s)).2 := by
  have hk := (List.getElem?_eq_some_iff.1 h).1
  rw [take_succ_get h, argsF_app, argsF, argsF, List.length_take, Nat.min_eq_left (by omega), Nat.zero_add]
theorem plainsF_app (its : List Itm) (sc : List Lc) : ∀ (l r : List Ex) (n : Nat), plainsF its sc (l ++ r) n = plainsF its sc r (plainsF its sc l n)
  | [], r, n => by rw [List.nil_append, plainsF]
  | e :: l, r, n => by rw [List.cons_append, plainsF, plainsF, plainsF_app its sc l r]
theorem plainsF_step (its : List Itm) (sc : List Lc) {l : List Ex} {k : Nat} {e : Ex} (h : l[k]? = some e) (n : Nat) : plainsF its sc (l.take (k + 1)) n = plainsF its sc (l.take k) n ||| plainF its sc e := by
  rw [take_succ_get h, plainsF_app, plainsF, plainsF]
theorem stmsF_app (its : List Itm) (own : Nat) (at_ : Int) : ∀ (l r : List Stm) (sc : List Lc) (un : Nat) (s : FW), stmsF its own at_ (l ++ r) sc un s = stmsF its own at_ r (stmsF its own at_ l sc un s).1 un (stmsF its own at_ l sc un s).2
  | [], r, sc, un, s => by rw [List.nil_append, stmsF]
  | e :: l, r, sc, un, s => by rw [List.cons_append, stmsF, stmsF, stmsF_app its own at_ l r]
theorem stmsF_step (its : List Itm) (own : Nat) (at_ : Int) {l : List Stm} {k : Nat} {x : Stm} (h : l[k]? = some x) (sc : List Lc) (un : Nat) (s : FW) :
    stmsF its own at_ (l.take (k + 1)) sc un s = stmF its own at_ x (stmsF its own at_ (l.take k) sc un s).1 un (stmsF its own at_ (l.take k) sc un s).2 := by
  rw [take_succ_get h, stmsF_app, stmsF, stmsF]
/-! how much is told -/
theorem hit_ds (s : FW) (at_ : Int) (f t n : Nat) : (s.hit at_ f t n).ds = s.ds := by rw [FW.hit]; split <;> rfl
theorem ask_n (s : FW) (a b f t : Nat) (n : List UInt8) : s.ds.length ≤ (s.ask a b f t n).ds.length ∧ (s.ask a b f t n).ds.length ≤ s.ds.length + 1 := by
  rw [FW.ask]
  split
  · omega
  · simp [FW.tell]
theorem askFloor_n (its : List Itm) (un : Nat) (n : List UInt8) (f t : Nat) (s : FW) : s.ds.length ≤ (askFloor its un n f t s).ds.length ∧ (askFloor its un n f t s).ds.length ≤ s.ds.length + 1 := by
  rw [askFloor]
  split
  · exact ask_n _ _ _ _ _ _
  · omega
theorem askCh_n (its : List Itm) (a : Nat) (n : List UInt8) (f t : Nat) (s : FW) : s.ds.length ≤ (askCh its a n f t s).ds.length ∧ (askCh its a n f t s).ds.length ≤ s.ds.length + 1 := by
  rw [askCh]
  split
  · exact ask_n _ _ _ _ _ _
  · omega
theorem askArg_n (its : List Itm) (n : List UInt8) (i a f t : Nat) (s : FW) : s.ds.length ≤ (askArg its n i a f t s).ds.length ∧ (askArg its n i a f t s).ds.length ≤ s.ds.length + 1 := by
  rw [askArg]
  split
  · split
    · exact ask_n _ _ _ _ _ _
    · omega
  · omega
mutual
theorem exF_n (its : List Itm) (at_ : Int) (sc : List Lc) (un : Nat) : ∀ (e : Ex) (s : FW), s.ds.length ≤ (exF its at_ sc un e s).2.ds.length ∧ (exF its at_ sc un e s).2.ds.length + 1 ≤ s.ds.length + 2 * e.cnt
  | .mk k nm n args f t, s => by
    rw [exF, Ex.cnt]
    have h1 := opsF_n its at_ sc un args 0 s
    have h2 := argsF_n its at_ sc un nm args 0 s
    have h3 := askFloor_n its un nm f t (argsF its at_ sc un nm args 0 s)
    split
    · dsimp only; rw [hit_ds]; omega
    · split
      · dsimp only; rw [hit_ds]; omega
      · split
        · dsimp only; rw [hit_ds]; omega
        · dsimp only; rw [hit_ds]; omega
theorem opsF_n (its : List Itm) (at_ : Int) (sc : List Lc) (un : Nat) : ∀ (l : List Ex) (n : Nat) (s : FW), s.ds.length ≤ (opsF its at_ sc un l n s).2.ds.length ∧ (opsF its at_ sc un l n s).2.ds.length ≤ s.ds.length + 2 * exsCnt l
  | [], n, s => by rw [opsF, exsCnt]; exact ⟨by dsimp only; omega, by dsimp only; omega⟩
  | e :: l, n, s => by
    rw [opsF, exsCnt]
    have h1 := exF_n its at_ sc un e s
    have h2 := opsF_n its at_ sc un l (n ||| (exF its at_ sc un e s).1) (exF its at_ sc un e s).2
    omega
theorem argsF_n (its : List Itm) (at_ : Int) (sc : List Lc) (un : Nat) (nm : List UInt8) : ∀ (l : List Ex) (i : Nat) (s : FW), s.ds.length ≤ (argsF its at_ sc un nm l i s).ds.length ∧ (argsF its at_ sc un nm l i s).ds.length ≤ s.ds.length + 2 * exsCnt l
  | [], i, s => by rw [argsF, exsCnt]; omega
  | e :: l, i, s => by
    rw [argsF, exsCnt]
    have h1 := exF_n its at_ sc un e s
    have h3 := askArg_n its nm i ((exF its at_ sc un e s).1 ||| un) e.fr e.to (exF its at_ sc un e s).2
    have h2 := argsF_n its at_ sc un nm l (i + 1) (askArg its nm i ((exF its at_ sc un e s).1 ||| un) e.fr e.to (exF its at_ sc un e s).2)
    omega
 end
mutual
theorem stmF_n (its : List Itm) (own : Nat) (at_ : Int) : ∀ (x : Stm) (sc : List Lc) (un : Nat) (s : FW), s.ds.length ≤ (stmF its own at_ x sc un s).2.ds.length ∧ (stmF its own at_ x sc un s).2.ds.length ≤ s.ds.length + 2 * x.cnt ∧
      sc.length ≤ (stmF its own at_ x sc un s).1.length ∧ (stmF its own at_ x sc un s).1.length ≤ sc.length + 1
  | .mk k nm a lb o e thn els f t, sc, un, s => by
    rw [stmF, Stm.cnt]
    try dsimp only
    generalize unF its sc k un e = un1
    have h1 := exF_n its at_ sc un1 e s
    generalize exF its at_ sc un1 e s = r at h1 ⊢
    have h2 := ask_n r.2 (r.1 ||| un1) (if o = true then r.1 ||| un1 else lb) f t nm
    have h3 := ask_n r.2 (r.1 ||| un1) (getF sc nm) f t nm
    have h4 := ask_n r.2 (r.1 ||| un1) own f t nm
    have h5 := askCh_n its (r.1 ||| un1) nm f t r.2
    have h6 := stmsF_n its own at_ thn sc (r.1 ||| un1) r.2
    have h7 := stmsF_n its own at_ els sc (r.1 ||| un1) (stmsF its own at_ thn sc (r.1 ||| un1) r.2).2
    split
    · dsimp only; rw [List.length_append, List.length_singleton]; omega
    · split
      · dsimp only; omega
      · split
        · dsimp only; omega
        · split
          · dsimp only; omega
          · split
            · dsimp only; omega
            · dsimp only; omega
theorem stmsF_n (its : List Itm) (own : Nat) (at_ : Int) : ∀ (l : List Stm) (sc : List Lc) (un : Nat) (s : FW), s.ds.length ≤ (stmsF its own at_ l sc un s).2.ds.length ∧ (stmsF its own at_ l sc un s).2.ds.length ≤ s.ds.length + 2 * stmsCnt l ∧
      sc.length ≤ (stmsF its own at_ l sc un s).1.length ∧ (stmsF its own at_ l sc un s).1.length ≤ sc.length + l.length
  | [], sc, un, s => by rw [stmsF, stmsCnt]; exact ⟨by dsimp only; omega, by dsimp only; omega, by dsimp only; omega, by dsimp only; simp⟩
  | x :: l, sc, un, s => by
    rw [stmsF, stmsCnt, List.length_cons]
    have h1 := stmF_n its own at_ x sc un s
    have h2 := stmsF_n its own at_ l (stmF its own at_ x sc un s).1 un (stmF its own at_ x sc un s).2
    omega
 end
theorem stmF_pre (its : List Itm) (own : Nat) (at_ : Int) (x : Stm) (sc : List Lc) (un : Nat) (s : FW) : sc <+: (stmF its own at_ x sc un s).1 := by
  cases x with
  | mk k nm a lb o e thn els f t =>
  rw [stmF]
  try dsimp only
  split
  · exact List.prefix_append _ _
  · split
    · exact List.prefix_refl _
    · split
      · exact List.prefix_refl _
      · split
        · exact List.prefix_refl _
        · split <;> exact List.prefix_refl _
theorem stmsF_pre (its : List Itm) (own : Nat) (at_ : Int) : ∀ (l : List Stm) (sc : List Lc) (un : Nat) (s : FW), sc <+: (stmsF its own at_ l sc un s).1
  | [], sc, un, s => by rw [stmsF]; exact List.prefix_refl _
  | x :: l, sc, un, s => by rw [stmsF]; exact (stmF_pre its own at_ x sc un s).trans (stmsF_pre its own at_ l _ _ _)
theorem stmsF_back (its : List Itm) (own : Nat) (at_ : Int) (l : List Stm) (sc : List Lc) (un : Nat) (s : FW) : (stmsF its own at_ l sc un s).1.take sc.length = sc :=
  (List.prefix_iff_eq_take.1 (stmsF_pre its own at_ l sc un s)).symm
/-! labels are labels -/
def scLab (sc : List Lc) : Prop := ∀ l ∈ sc, l.at_ < 256
def itLab (its : List Itm) : Prop := ∀ it ∈ its, it.label < 256 ∧ ∀ p ∈ it.params, p.label < 256
theorem getF_lt {sc : List Lc} (h : scLab sc) (n : List UInt8) : getF sc n < 256 := by
  rw [getF]
  split
  · rename_i l hl
    exact h l (findLc_mem hl).1
  · omega
theorem findIt_lt {its : List Itm} {k : Int} {n : List UInt8} {j : Nat} (h : findIt its k n = some j) : j < its.length ∧ ((itNo its j).kind : Int) = k ∧ (itNo its j).name = n ∧ n ≠ [] ∧ itNo its j ∈ its := by
  obtain ⟨h1, h2, _⟩ := List.findIdx?_eq_some_iff_getElem.1 h
  have e : itNo its j = its[j] := by rw [itNo, List.getD_eq_getElem?_getD, List.getElem?_eq_getElem h1]; rfl
  rw [e]
  simp only [itIs, Bool.and_eq_true, decide_eq_true_eq] at h2
  exact ⟨h1, h2.1, h2.2.1, h2.2.2, List.getElem_mem h1⟩
theorem callLab_lt {its : List Itm} (h : itLab its) (n : List UInt8) : callLab its n < 256 := by
  rw [callLab]
  split
  · rename_i j hj
    exact (h _ (findIt_lt hj).2.2.2.2).1
  · omega
mutual
theorem exF_lt {its : List Itm} (h : itLab its) (at_ : Int) {sc : List Lc} (hs : scLab sc) (un : Nat) : ∀ (e : Ex) (s : FW), (exF its at_ sc un e s).1 < 256
  | .mk k nm n args f t, s => by
    rw [exF]
    split
    · exact getF_lt hs _
    · split
      · exact opsF_lt h at_ hs un args 0 s (by omega)
      · split
        · exact callLab_lt h _
        · dsimp only; omega
theorem opsF_lt {its : List Itm} (h : itLab its) (at_ : Int) {sc : List Lc} (hs : scLab sc) (un : Nat) : ∀ (l : List Ex) (n : Nat) (s : FW), n < 256 → (opsF its at_ sc un l n s).1 < 256
  | [], n, s, hn => by rw [opsF]; exact hn
  | e :: l, n, s, hn => by rw [opsF]; exact opsF_lt h at_ hs un l _ _ (or_lt hn (exF_lt h at_ hs un e s))
 end
mutual
theorem plainF_lt {its : List Itm} (h : itLab its) {sc : List Lc} (hs : scLab sc) : ∀ (e : Ex), plainF its sc e < 256
  | .mk k nm n args f t => by
    rw [plainF]
    split
    · exact getF_lt hs _
    · split
      · exact plainsF_lt h hs args 0 (by omega)
      · split
        · exact callLab_lt h _
        · omega
theorem plainsF_lt {its : List Itm} (h : itLab its) {sc : List Lc} (hs : scLab sc) : ∀ (l : List Ex) (n : Nat), n < 256 → plainsF its sc l n < 256
  | [], n, hn => by rw [plainsF]; exact hn
  | e :: l, n, hn => by rw [plainsF]; exact plainsF_lt h hs l _ (or_lt hn (plainF_lt h hs e))
 end
theorem meetF_lt (its : List Itm) (l : List Rf) : meetF its l < 256 := by
  have key : ∀ (l : List Rf) (n : Nat), n < 256 → l.foldl (meetStep its) n < 256 := by
    intro l
    induction l with
    | nil => intro n h; exact h
    | cons x l ih =>
      intro n h
      rw [List.foldl_cons]
      refine ih _ ?_
      rw [meetStep]
      split
      · exact and_lt h
      · exact h
  exact key l 255 (by omega)
theorem unF_lt {its : List Itm} (h : itLab its) {sc : List Lc} (hs : scLab sc) (k : Nat) {un : Nat} (hu : un < 256) (e : Ex) : unF its sc k un e < 256 := by
  rw [unF]
  split
  · exact or_lt (plainF_lt h hs e) hu
  · exact hu
theorem scLab_snoc {sc : List Lc} (h : scLab sc) {n : List UInt8} {a : Nat} (ha : a < 256) : scLab (sc ++ [⟨n, a⟩]) := fun l hl => by
  rcases List.mem_append.1 hl with hl | hl
  · exact h l hl
  · obtain rfl := List.mem_singleton.1 hl
    exact ha
theorem stmF_lab {its : List Itm} (h : itLab its) (own : Nat) (at_ : Int) (x : Stm) {sc : List Lc} (hs : scLab sc) {un : Nat} (hu : un < 256) (hx : x.label < 256) (s : FW) : scLab (stmF its own at_ x sc un s).1 := by
  cases x with
  | mk k nm a lb o e thn els f t =>
  rw [stmF]
  try dsimp only
  have h1 := unF_lt h hs k hu e
  generalize unF its sc k un e = un1 at h1 ⊢
  have h2 := exF_lt h at_ hs un1 e s
  split
  · refine scLab_snoc hs ?_
    split
    · exact or_lt h2 h1
    · exact hx
  · split
    · exact hs
    · split
      · exact hs
      · split
        · exact hs
        · split <;> exact hs
theorem parsF_lab {its : List Itm} (h : itLab its) {it : Itm} (hi : it ∈ its) : scLab (parsF it.params) := fun l hl => by
  obtain ⟨p, hp, rfl⟩ := List.mem_map.1 hl
  exact (h it hi).2 p hp
end Go.Sp
end
section
namespace Go.Sp
def anyE : PE := fun _ _ _ _ _ _ => True
theorem itNo_mem {its : List Itm} {i : Nat} (h : i < its.length) : itNo its i ∈ its := by
  rw [itNo, List.getD_eq_getElem?_getD, List.getElem?_eq_getElem h]; exact List.getElem_mem h
theorem itNo_get {its : List Itm} {i : Nat} (h : i < its.length) : its[i]? = some (itNo its i) := by
  rw [itNo, List.getD_eq_getElem?_getD, List.getElem?_eq_getElem h]; rfl
/-- the second has channels' labels that are as great at least. -/
structure Up (its its' : List Itm) : Prop where
  len : its'.length = its.length
  kind : ∀ j, (itNo its' j).kind = (itNo its j).kind
  name : ∀ j, (itNo its' j).name = (itNo its j).name
  params : ∀ j, (itNo its' j).params = (itNo its j).params
  sends : ∀ j, (itNo its' j).sends = (itNo its j).sends
  body : ∀ j, (itNo its' j).body = (itNo its j).body
  own : ∀ j, (itNo its j).kind ≠ 1 → (itNo its' j).label = (itNo its j).label
  up : ∀ j a, flows a (itNo its j).label = true → flows a (itNo its' j).label = true
theorem Up.find {its its' : List Itm} (h : Up its its') (k : Int) (n : List UInt8) : findIt its' k n = findIt its k n := by
  have e : ∀ j (h1 : j < its'.length) (h2 : j < its.length), itIs k n its'[j] = itIs k n its[j] := fun j h1 h2 => by
    have a1 := h.kind j
    have a2 := h.name j
    have e1 : itNo its' j = its'[j] := by have := itNo_get h1; rw [List.getElem?_eq_getElem h1] at this; exact (Option.some.inj this).symm
    have e2 : itNo its j = its[j] := by have := itNo_get h2; rw [List.getElem?_eq_getElem h2] at this; exact (Option.some.inj this).symm
    rw [e1, e2] at a1 a2
    rw [itIs, itIs, a1, a2]
  have hl := h.len
  rw [findIt, findIt]
  cases hf : its.findIdx? (itIs k n) with
  | none =>
    rw [List.findIdx?_eq_none_iff] at hf ⊢
    intro x hx
    obtain ⟨j, hj, rfl⟩ := List.getElem_of_mem hx
    rw [e j hj (by omega)]
    exact hf _ (List.getElem_mem _)
  | some j =>
    rw [List.findIdx?_eq_some_iff_getElem] at hf ⊢
    obtain ⟨h1, h2, h3⟩ := hf
    exact ⟨by omega, by rw [e j (by omega) h1]; exact h2, fun i hi => by rw [e i (by omega) (by omega)]; exact h3 i hi⟩
theorem Up.callLab {its its' : List Itm} (h : Up its its') (n : List UInt8) : callLab its' n = callLab its n := by
  rw [Sp.callLab, Sp.callLab, h.find]
  split
  · rename_i j hj
    exact h.own j (by have := (findIt_lt hj).2.1; omega)
  · rfl
theorem Up.meet {its its' : List Itm} (h : Up its its') (l : List Rf) (a : Nat) (hf : flows a (meetF its l) = true) : flows a (meetF its' l) = true := by
  have key : ∀ (l : List Rf) (n n' : Nat), (flows a n = true → flows a n' = true) → flows a (l.foldl (meetStep its) n) = true → flows a (l.foldl (meetStep its') n') = true := by
    intro l
    induction l with
    | nil => intro n n' h1 h2; exact h1 h2
    | cons x l ih =>
      intro n n' h1 h2
      rw [List.foldl_cons] at h2 ⊢
      refine ih _ _ (fun h3 => ?_) h2
      rw [meetStep] at h3 ⊢
      rw [h.find]
      cases hx : findIt its 1 x.name with
      | none => rw [hx] at h3; exact h1 h3
      | some j =>
        rw [hx] at h3
        dsimp only at h3 ⊢
        rw [flows_and, Bool.and_eq_true] at h3 ⊢
        exact ⟨h1 h3.1, h.up j a h3.2⟩
  exact key l 255 255 id hf
theorem ask_up {s : FW} {a b b' f t : Nat} {n : List UInt8} (h : flows a b = true → flows a b' = true) (h0 : (s.ask a b f t n).ds = []) : s.ask a b' f t n = s.ask a b f t n := by
  rw [FW.ask] at h0 ⊢
  rw [FW.ask]
  split at h0
  · rename_i hf; rw [if_pos (h hf), if_pos hf]
  · simp [FW.tell] at h0
theorem nil_of {α : Type} {l r : List α} (h : l.length ≤ r.length) (h0 : r = []) : l = [] := by
  rw [h0] at h; exact List.length_eq_zero_iff.1 (by simpa using h)
theorem Up.askFloor {its its' : List Itm} (h : Up its its') (un : Nat) (n : List UInt8) (f t : Nat) (s : FW) (h0 : (askFloor its un n f t s).ds = []) : askFloor its' un n f t s = askFloor its un n f t s := by
  rw [Sp.askFloor] at h0 ⊢
  rw [Sp.askFloor, h.find]
  split
  · rename_i j hj
    rw [hj] at h0
    rw [h.sends]
    exact ask_up (h.meet _ _) h0
  · rfl
theorem Up.askArg {its its' : List Itm} (h : Up its its') (n : List UInt8) (i a f t : Nat) (s : FW) : askArg its' n i a f t s = askArg its n i a f t s := by
  rw [Sp.askArg, Sp.askArg, h.find]
  split
  · rw [h.params]
  · rfl
theorem Up.askCh {its its' : List Itm} (h : Up its its') (a : Nat) (n : List UInt8) (f t : Nat) (s : FW) (h0 : (askCh its a n f t s).ds = []) : askCh its' a n f t s = askCh its a n f t s := by
  rw [Sp.askCh] at h0 ⊢
  rw [Sp.askCh, h.find]
  split
  · rename_i j hj
    rw [hj] at h0
    exact ask_up (h.up j a) h0
  · rfl
mutual
theorem Up.exF {its its' : List Itm} (h : Up its its') (at_ : Int) (sc : List Lc) (un : Nat) : ∀ (e : Ex) (s : FW), (Sp.exF its at_ sc un e s).2.ds = [] → Sp.exF its' at_ sc un e s = Sp.exF its at_ sc un e s
  | .mk k nm n args f t, s, h0 => by
    rw [Sp.exF] at h0 ⊢
    rw [Sp.exF, h.callLab]
    split
    · rfl
    · rename_i hk
      rw [if_neg hk] at h0
      split
      · rename_i hk3
        rw [if_pos hk3] at h0
        dsimp only at h0
        rw [hit_ds] at h0
        rw [Up.opsF h at_ sc un args 0 s h0]
      · rename_i hk3
        rw [if_neg hk3] at h0
        split
        · rename_i hk4
          rw [if_pos hk4] at h0
          dsimp only at h0
          rw [hit_ds] at h0
          have h1 := nil_of (askFloor_n its un nm f t (Sp.argsF its at_ sc un nm args 0 s)).1 h0
          rw [Up.argsF h at_ sc un nm args 0 s h1, h.askFloor un nm f t _ h0]
        · rfl
theorem Up.opsF {its its' : List Itm} (h : Up its its') (at_ : Int) (sc : List Lc) (un : Nat) : ∀ (l : List Ex) (n : Nat) (s : FW), (Sp.opsF its at_ sc un l n s).2.ds = [] → Sp.opsF its' at_ sc un l n s = Sp.opsF its at_ sc un l n s
  | [], n, s, h0 => by rw [Sp.opsF, Sp.opsF]
  | e :: l, n, s, h0 => by
    rw [Sp.opsF] at h0 ⊢
    rw [Sp.opsF]
    have h1 := nil_of (opsF_n its at_ sc un l (n ||| (Sp.exF its at_ sc un e s).1) (Sp.exF its at_ sc un e s).2).1 h0
    rw [Up.exF h at_ sc un e s h1]
    exact Up.opsF h at_ sc un l _ _ h0
theorem Up.argsF {its its' : List Itm} (h : Up its its') (at_ : Int) (sc : List Lc) (un : Nat) (nm : List UInt8) : ∀ (l : List Ex) (i : Nat) (s : FW), (Sp.argsF its at_ sc un nm l i s).ds = [] → Sp.argsF its' at_ sc un nm l i s = Sp.argsF its at_ sc un nm l i s
  | [], i, s, h0 => by rw [Sp.argsF, Sp.argsF]
  | e :: l, i, s, h0 => by
    rw [Sp.argsF] at h0 ⊢
    rw [Sp.argsF]
    have h1 := nil_of (argsF_n its at_ sc un nm l (i + 1) _).1 h0
    have h2 := nil_of (askArg_n its nm i ((Sp.exF its at_ sc un e s).1 ||| un) e.fr e.to (Sp.exF its at_ sc un e s).2).1 h1
    rw [Up.exF h at_ sc un e s h2, h.askArg]
    exact Up.argsF h at_ sc un nm l _ _ h0
 end
mutual
theorem Up.plainF {its its' : List Itm} (h : Up its its') (sc : List Lc) : ∀ (e : Ex), Sp.plainF its' sc e = Sp.plainF its sc e
  | .mk k nm n args f t => by rw [Sp.plainF, Sp.plainF, h.callLab, Up.plainsF h sc args 0]
theorem Up.plainsF {its its' : List Itm} (h : Up its its') (sc : List Lc) : ∀ (l : List Ex) (n : Nat), Sp.plainsF its' sc l n = Sp.plainsF its sc l n
  | [], n => by rw [Sp.plainsF, Sp.plainsF]
  | e :: l, n => by rw [Sp.plainsF, Sp.plainsF, Up.plainF h sc e, Up.plainsF h sc l]
 end
mutual
theorem Up.stmF {its its' : List Itm} (h : Up its its') (own : Nat) (at_ : Int) : ∀ (x : Stm) (sc : List Lc) (un : Nat) (s : FW), (Sp.stmF its own at_ x sc un s).2.ds = [] → Sp.stmF its' own at_ x sc un s = Sp.stmF its own at_ x sc un s
  | .mk k nm a lb o e thn els f t, sc, un, s, h0 => by
    have hu : unF its' sc k un e = unF its sc k un e := by rw [unF, unF, h.plainF]
    rw [Sp.stmF] at h0 ⊢
    rw [Sp.stmF, hu]
    try dsimp only at h0 ⊢
    generalize unF its sc k un e = un1 at h0 ⊢
    have he := Up.exF h at_ sc un1 e s
    have hn := exF_n its at_ sc un1 e s
    split
    · rename_i k1
      rw [if_pos k1] at h0
      dsimp only at h0
      rw [he (nil_of (ask_n _ _ _ _ _ _).1 h0)]
    · rename_i k1
      rw [if_neg k1] at h0
      split
      · rename_i k2
        rw [if_pos k2] at h0
        dsimp only at h0
        rw [he (nil_of (ask_n _ _ _ _ _ _).1 h0)]
      · rename_i k2
        rw [if_neg k2] at h0
        split
        · rename_i k5
          rw [if_pos k5] at h0
          dsimp only at h0
          rw [he (nil_of (askCh_n _ _ _ _ _ _).1 h0), h.askCh _ _ _ _ _ h0]
        · rename_i k5
          rw [if_neg k5] at h0
          split
          · rename_i k6
            rw [if_pos k6] at h0
            dsimp only at h0
            rw [he (nil_of (ask_n _ _ _ _ _ _).1 h0)]
          · rename_i k6
            rw [if_neg k6] at h0
            split
            · rename_i k3
              rw [if_pos k3] at h0
              dsimp only at h0
              have h1 := nil_of (stmsF_n its own at_ els sc _ _).1 h0
              have h2 := nil_of (stmsF_n its own at_ thn sc _ _).1 h1
              rw [he h2, Up.stmsF h own at_ thn sc _ _ h1, Up.stmsF h own at_ els sc _ _ h0]
            · rename_i k3
              rw [if_neg k3] at h0
              dsimp only at h0
              rw [he h0]
theorem Up.stmsF {its its' : List Itm} (h : Up its its') (own : Nat) (at_ : Int) : ∀ (l : List Stm) (sc : List Lc) (un : Nat) (s : FW), (Sp.stmsF its own at_ l sc un s).2.ds = [] → Sp.stmsF its' own at_ l sc un s = Sp.stmsF its own at_ l sc un s
  | [], sc, un, s, h0 => by rw [Sp.stmsF, Sp.stmsF]
  | x :: l, sc, un, s, h0 => by
    rw [Sp.stmsF] at h0 ⊢
    rw [Sp.stmsF]
    have h1 := nil_of (stmsF_n its own at_ l (Sp.stmF its own at_ x sc un s).1 un (Sp.stmF its own at_ x sc un s).2).1 h0
    rw [Up.stmF h own at_ x sc un s h1]
    exact Up.stmsF h own at_ l _ _ _ h0
 end
end Go.Sp
end
section
namespace Go.Sp
mutual
/-- a statement, all of whose lets have all tags. -/
def topS : Stm → Stm
  | .mk k nm a _ _ e thn els f t => .mk k nm a 255 false e (topsS thn) (topsS els) f t
def topsS : List Stm → List Stm
  | [] => []
  | x :: xs => topS x :: topsS xs
 end
def topI (it : Itm) : Itm := { it with label := 255, params := it.params.map (fun p => ⟨p.name, 255, p.at_⟩), body := topsS it.body }
theorem topsS_map : ∀ (l : List Stm), topsS l = l.map topS
  | [] => by rw [topsS]; rfl
  | x :: l => by rw [topsS, topsS_map l]; rfl
theorem top_find (its : List Itm) (k : Int) (n : List UInt8) : findIt (its.map topI) k n = findIt its k n := by
  rw [findIt, findIt, List.findIdx?_map]
  rfl
theorem top_no (its : List Itm) {j : Nat} (h : j < its.length) : itNo (its.map topI) j = topI (itNo its j) := by
  rw [itNo, itNo, List.getD_eq_getElem?_getD, List.getD_eq_getElem?_getD, List.getElem?_map, List.getElem?_eq_getElem h]; rfl
theorem flows_top {a : Nat} (_h : a < 256) : flows a 255 = true := (flows_iff a 255).2 (fun k hk _ => by
  have key : ∀ k < 8, (255 : Nat).testBit k = true := by decide
  exact key k hk)
theorem ask_top (s : FW) {a : Nat} (h : a < 256) (f t : Nat) (n : List UInt8) : s.ask a 255 f t n = s := by rw [FW.ask, if_pos (flows_top h)]
theorem top_meet (its : List Itm) (l : List Rf) : meetF (its.map topI) l = 255 := by
  rw [meetF]
  have key : ∀ (l : List Rf), l.foldl (meetStep (its.map topI)) 255 = 255 := by
    intro l
    induction l with
    | nil => rfl
    | cons x l ih =>
      rw [List.foldl_cons, meetStep, top_find]
      cases hf : findIt its 1 x.name with
      | none => exact ih
      | some j =>
        dsimp only
        rw [top_no its (findIt_lt hf).1, show 255 &&& (topI (itNo its j)).label = 255 from (by show 255 &&& 255 = 255; decide)]
        exact ih
  exact key l
theorem top_lab (its : List Itm) : itLab (its.map topI) := fun it h => by
  obtain ⟨x, _, rfl⟩ := List.mem_map.1 h
  refine ⟨by show 255 < 256; omega, fun p hp => ?_⟩
  obtain ⟨q, _, rfl⟩ := List.mem_map.1 hp
  show 255 < 256
  omega
section
variable {its : List Itm} {at_ : Int}
theorem top_floor {un : Nat} (hu : un < 256) (n : List UInt8) (f t : Nat) (s : FW) : askFloor (its.map topI) un n f t s = s := by
  rw [askFloor, top_find]
  cases hf : findIt its 2 n with
  | none => rfl
  | some j => dsimp only; rw [top_meet, ask_top s hu]
theorem top_arg (n : List UInt8) (i : Nat) {a : Nat} (ha : a < 256) (f t : Nat) (s : FW) : askArg (its.map topI) n i a f t s = s := by
  rw [askArg, top_find]
  cases hf : findIt its 2 n with
  | none => rfl
  | some j =>
    dsimp only
    rw [top_no its (findIt_lt hf).1]
    show (match ((itNo its j).params.map (fun p => (⟨p.name, 255, p.at_⟩ : Par)))[i]? with | some p => s.ask a p.label f t p.name | none => s) = s
    rw [List.getElem?_map]
    cases (itNo its j).params[i]? with
    | none => rfl
    | some p => exact ask_top s ha f t p.name
theorem top_ch {a : Nat} (ha : a < 256) (n : List UInt8) (f t : Nat) (s : FW) : askCh (its.map topI) a n f t s = s := by
  rw [askCh, top_find]
  cases hf : findIt its 1 n with
  | none => rfl
  | some j => dsimp only; rw [top_no its (findIt_lt hf).1]; exact ask_top s ha f t n
mutual
theorem top_ex {sc : List Lc} (hs : scLab sc) {un : Nat} (hu : un < 256) : ∀ (e : Ex) (s : FW), (exF (its.map topI) at_ sc un e s).2.ds = s.ds
  | .mk k nm n args f t, s => by
    rw [exF]
    split
    · rw [hit_ds]
    · split
      · dsimp only; rw [hit_ds]; exact top_ops hs hu args 0 s
      · split
        · dsimp only; rw [hit_ds, top_floor hu]; exact top_args hs hu nm args 0 s
        · dsimp only; rw [hit_ds]
theorem top_ops {sc : List Lc} (hs : scLab sc) {un : Nat} (hu : un < 256) : ∀ (l : List Ex) (n : Nat) (s : FW), (opsF (its.map topI) at_ sc un l n s).2.ds = s.ds
  | [], n, s => by rw [opsF]
  | e :: l, n, s => by rw [opsF, top_ops hs hu l, top_ex hs hu e s]
theorem top_args {sc : List Lc} (hs : scLab sc) {un : Nat} (hu : un < 256) (nm : List UInt8) : ∀ (l : List Ex) (i : Nat) (s : FW), (argsF (its.map topI) at_ sc un nm l i s).ds = s.ds
  | [], i, s => by rw [argsF]
  | e :: l, i, s => by rw [argsF, top_args hs hu nm l, top_arg nm i (or_lt (exF_lt (top_lab its) at_ hs un e s) hu), top_ex hs hu e s]
 end
/-- locals of both: each that is known has all tags. -/
structure ScT (sn sf : List Lc) : Prop where
  top : ∀ l ∈ sf, l.at_ = 255
  has : ∀ n, n ≠ [] → findLc sn n ≠ none → findLc sf n ≠ none
theorem ScT.lab {sn sf : List Lc} (h : ScT sn sf) : scLab sf := fun l hl => by rw [h.top l hl]; omega
theorem ScT.get {sn sf : List Lc} (h : ScT sn sf) {n : List UInt8} (hn : n ≠ []) (hf : findLc sn n ≠ none) : getF sf n = 255 := by
  rw [getF]
  cases hs : findLc sf n with
  | none => exact absurd hs (h.has n hn hf)
  | some l => exact h.top l (findLc_mem hs).1
theorem ScT.snoc {sn sf : List Lc} (h : ScT sn sf) (n : List UInt8) (a : Nat) : ScT (if n = [] then sn else sn ++ [⟨n, a⟩]) (sf ++ [⟨n, 255⟩]) := by
  refine ⟨fun l hl => ?_, fun m hm hf => ?_⟩
  · rcases List.mem_append.1 hl with hl | hl
    · exact h.top l hl
    · rw [List.mem_singleton] at hl; subst hl; rfl
  · rw [findLc_snoc]
    dsimp only
    by_cases e : n = m
    · rw [if_pos e]; simp
    · rw [if_neg e]
      refine h.has m hm ?_
      split at hf
      · exact hf
      · rw [findLc_snoc] at hf
        dsimp only at hf
        rw [if_neg e] at hf
        exact hf
/-! nothing that was told is taken back -/
theorem tell_ds (s : NW) (a e : Nat) (n : List UInt8) : (s.tell a e n).ds ≠ [] := by simp [NW.tell]
theorem locN_ds {b : Int} {sc : List Lc} {a : Nat} {n : List UInt8} {s : NW} (h : (locN b sc a n s).ds = []) : s.ds = [] ∧ (n ≠ [] → findLc sc n ≠ none) := by
  rw [locN] at h
  split at h
  · rename_i l hl
    exact ⟨h, fun _ => by rw [hl]; simp⟩
  · split at h
    · rename_i hn
      exact ⟨h, fun h1 => absurd hn h1⟩
    · exact absurd h (tell_ds _ _ _ _)
theorem itmN_ds {its : List Itm} {b k : Int} {a : Nat} {n : List UInt8} {s : NW} (h : (itmN its b k a n s).ds = []) : s.ds = [] := by
  rw [itmN] at h
  split at h
  · exact h
  · split at h
    · exact h
    · exact absurd h (tell_ds _ _ _ _)
theorem callN_ds {its : List Itm} {b : Int} {a : Nat} {n : List UInt8} {m : Nat} {s : NW} (h : (callN its b a n m s).ds = []) : s.ds = [] := by
  rw [callN] at h
  split at h
  · split at h
    · exact absurd h (tell_ds _ _ _ _)
    · exact itmN_ds h
  · exact itmN_ds h
theorem mkN_ds {n : List UInt8} {a : Nat} {sc : List Lc} {s : NW} (h : (mkN n a sc s).2.ds = []) : s.ds = [] := by
  rw [mkN] at h
  split at h
  · exact h
  · dsimp only at h
    split at h
    · exact absurd h (tell_ds _ _ _ _)
    · exact h
mutual
theorem exN_ds {its : List Itm} {b : Int} {sc : List Lc} : ∀ (e : Ex) {s : NW}, (exN its b sc e s).ds = [] → s.ds = []
  | .mk k nm n args f t, s, h => by
    rw [exN] at h
    have h1 := exsN_ds args h
    split at h1
    · exact (locN_ds h1).1
    · split at h1
      · exact callN_ds h1
      · exact h1
theorem exsN_ds {its : List Itm} {b : Int} {sc : List Lc} : ∀ (l : List Ex) {s : NW}, (exsN its b sc l s).ds = [] → s.ds = []
  | [], s, h => by rw [exsN] at h; exact h
  | e :: l, s, h => by rw [exsN] at h; exact exN_ds e (exsN_ds l h)
 end
mutual
theorem stmN_ds {its : List Itm} {b : Int} : ∀ (x : Stm) {sc : List Lc} {s : NW}, (stmN its b x sc s).2.ds = [] → s.ds = []
  | .mk k nm a lb o e thn els f t, sc, s, h => by
    rw [stmN] at h
    split at h
    · exact exN_ds e (mkN_ds h)
    · split at h
      · exact exN_ds e (locN_ds h).1
      · split at h
        · exact exN_ds e (itmN_ds h)
        · split at h
          · exact exN_ds e (stmsN_ds thn (stmsN_ds els h))
          · exact exN_ds e h
theorem stmsN_ds {its : List Itm} {b : Int} : ∀ (l : List Stm) {sc : List Lc} {s : NW}, (stmsN its b l sc s).2.ds = [] → s.ds = []
  | [], sc, s, h => by rw [stmsN] at h; exact h
  | x :: l, sc, s, h => by rw [stmsN] at h; exact stmN_ds x (stmsN_ds l h)
 end
/-- what is asked of statements: a name that is set is one. -/
def setS : PS := fun k nm _ _ _ _ _ => k = 2 → nm ≠ []
mutual
theorem top_stm {b : Int} : ∀ (x : Stm), x.all anyE setS → ∀ {sn sf : List Lc} {s : NW} {un : Nat} (q : FW), ScT sn sf → un < 256 → (stmN its b x sn s).2.ds = [] →
    (stmF (its.map topI) 255 at_ (topS x) sf un q).2.ds = q.ds ∧ ScT (stmN its b x sn s).1 (stmF (its.map topI) 255 at_ (topS x) sf un q).1
  | .mk k nm a lb o e thn els f t, hx, sn, sf, s, un, q, hT, hu, h => by
    rw [Stm.all] at hx
    obtain ⟨hset, _, hxt, hxe⟩ := hx
    rw [stmN] at h ⊢
    rw [topS, stmF]
    try dsimp only
    have hl := hT.lab
    have hun : unF (its.map topI) sf k un e < 256 := by
      rw [unF]; split
      · exact or_lt (plainF_lt (top_lab its) hl e) hu
      · exact hu
    generalize unF (its.map topI) sf k un e = un1 at hun
    have h1 := top_ex (its := its) (at_ := at_) hl hun e q
    have h2 := exF_lt (top_lab its) at_ hl un1 e q
    generalize exF (its.map topI) at_ sf un1 e q = r at h1 h2
    have ha := or_lt h2 hun
    generalize r.1 ||| un1 = av at ha
    by_cases k1 : k = 1
    · rw [if_pos k1] at h ⊢
      rw [if_pos k1]
      dsimp only
      rw [if_neg (by decide), ask_top _ ha]
      refine ⟨h1, ?_⟩
      have := hT.snoc nm a
      rw [mkN]
      split at this
      · rename_i hn; rw [if_pos hn]; exact this
      · rename_i hn; rw [if_neg hn]; exact this
    rw [if_neg k1] at h ⊢
    rw [if_neg k1]
    by_cases k2 : k = 2
    · rw [if_pos k2] at h ⊢
      rw [if_pos k2]
      dsimp only at h ⊢
      obtain ⟨_, hf⟩ := locN_ds h
      rw [hT.get (hset k2) (hf (hset k2)), ask_top _ ha]
      exact ⟨h1, hT⟩
    rw [if_neg k2] at h ⊢
    rw [if_neg k2]
    by_cases k5 : k = 5
    · rw [if_pos k5] at h ⊢
      rw [if_pos k5]
      dsimp only at h ⊢
      rw [top_ch ha]
      exact ⟨h1, hT⟩
    rw [if_neg k5] at h ⊢
    rw [if_neg k5]
    by_cases k6 : k = 6
    · have hn34 : ¬ (k = 3 ∨ k = 4) := by omega
      rw [if_neg hn34] at h
      rw [if_pos k6, if_neg hn34]
      dsimp only at h ⊢
      rw [ask_top _ ha]
      exact ⟨h1, hT⟩
    rw [if_neg k6]
    by_cases k34 : k = 3 ∨ k = 4
    · rw [if_pos k34] at h ⊢
      rw [if_pos k34]
      dsimp only at h ⊢
      have g1 := top_stms thn hxt r.2 hT ha (stmsN_ds els h)
      have g2 := top_stms els hxe (stmsF (its.map topI) 255 at_ (topsS thn) sf av r.2).2 hT ha h
      exact ⟨by rw [g2.1, g1.1, h1], hT⟩
    · rw [if_neg k34] at h ⊢
      rw [if_neg k34]
      exact ⟨h1, hT⟩
theorem top_stms {b : Int} : ∀ (l : List Stm), stmsAll anyE setS l → ∀ {sn sf : List Lc} {s : NW} {un : Nat} (q : FW), ScT sn sf → un < 256 → (stmsN its b l sn s).2.ds = [] →
    (stmsF (its.map topI) 255 at_ (topsS l) sf un q).2.ds = q.ds ∧ ScT (stmsN its b l sn s).1 (stmsF (its.map topI) 255 at_ (topsS l) sf un q).1
  | [], _, sn, sf, s, un, q, hT, hu, h => by rw [topsS, stmsF, stmsN]; exact ⟨rfl, hT⟩
  | x :: l, hx, sn, sf, s, un, q, hT, hu, h => by
    rw [stmsAll] at hx
    rw [stmsN] at h
    rw [topsS, stmsF, stmsN]
    have g1 := top_stm x hx.1 q hT hu (stmsN_ds l h)
    have g2 := top_stms l hx.2 (stmF (its.map topI) 255 at_ (topS x) sf un q).2 g1.2 hu h
    exact ⟨by rw [g2.1, g1.1], g2.2⟩
 end
end
theorem top_par : ∀ (l : List Par) {sn sf : List Lc} {s : NW}, ScT sn sf → ScT (parN l sn s).1 (sf ++ parsF (l.map (fun p => ⟨p.name, 255, p.at_⟩)))
  | [], sn, sf, s, h => by rw [parN]; simpa [parsF] using h
  | p :: l, sn, sf, s, h => by
    rw [parN]
    have h1 := h.snoc p.name p.at_
    have h2 : ScT (mkN p.name p.at_ sn s).1 (sf ++ [⟨p.name, 255⟩]) := by
      rw [mkN]
      split at h1
      · rename_i hn; rw [if_pos hn]; exact h1
      · rename_i hn; rw [if_neg hn]; exact h1
    have h3 := top_par l (s := (mkN p.name p.at_ sn s).2) h2
    rw [List.append_assoc] at h3
    exact h3
/-- WHERE ALL IS SECRET NOTHING IS TOLD. -/
theorem top_check {its : List Itm} {i : Nat} (hi : i < its.length) (at_ : Int) (hS : stmsAll anyE setS (itNo its i).body) (h : (walkN its i).ds = []) : (checkF (its.map topI) i at_).ds = [] := by
  rw [checkF, top_no its hi]
  by_cases k2 : (itNo its i).kind = 2
  · rw [if_pos (show (topI (itNo its i)).kind = 2 from k2)]
    rw [walkN, if_pos k2, fnN] at h
    have h0 := top_par (itNo its i).params (sn := []) (sf := []) (s := (if taken its i (itNo its i) = true then NW0.tell (itNo its i).mark 7 (itNo its i).name else NW0)) ⟨fun l hl => (by cases hl), fun n _ hf => absurd rfl hf⟩
    rw [List.nil_append] at h0
    exact (top_stms (at_ := at_) (itNo its i).body hS FW0 h0 (by omega) h).1
  · rw [if_neg (show ¬ (topI (itNo its i)).kind = 2 from k2)]; rfl
end Go.Sp
end
section
namespace Go.Sp
theorem topsS_len (l : List Stm) : (topsS l).length = l.length := by rw [topsS_map, List.length_map]
theorem topsS_app (l r : List Stm) : topsS (l ++ r) = topsS l ++ topsS r := by rw [topsS_map, topsS_map, topsS_map, List.map_append]
theorem take_drop_get {α : Type} {l : List α} {k : Nat} {x : α} (h : l[k]? = some x) : l.drop k = x :: l.drop (k + 1) := by
  obtain ⟨hk, e⟩ := List.getElem?_eq_some_iff.1 h
  rw [← e]; exact List.drop_eq_getElem_cons hk
end Go.Sp
namespace Go.Proofs.YtkbiakajlfmakaaGreatDoor
open Go.Fw
theorem mid_get {x1 c x2 : List Value} {n j : Nat} (h1 : x1.length = n) (hj : j < c.length) : (x1 ++ (c ++ x2))[n + j]? = c[j]? := by
  rw [List.getElem?_append_right (by omega), show n + j - x1.length = j by omega, List.getElem?_append_left hj]
theorem mid_lt {x1 c x2 : List Value} {n j : Nat} (h1 : x1.length = n) (hj : j < c.length) : n + j < (x1 ++ (c ++ x2)).length := by
  rw [List.length_append, List.length_append]; omega
theorem mid_set {x1 c x2 : List Value} {n j : Nat} {v : Value} (h1 : x1.length = n) (hj : j < c.length) : (x1 ++ (c ++ x2)).set (n + j) v = x1 ++ (c.set j v ++ x2) := by
  rw [List.set_append, if_neg (by omega), show n + j - x1.length = j by omega, List.set_append, if_pos hj]
abbrev ToTop (l : List Sp.Stm) (a : Option Addr) (c : Nat) : Value → Imm → List HItem → Prop := fun v J H' => v = .tuple #[] ∧ StsO J (Sp.topsS l) a c H'
set_option maxHeartbeats 16000000 in
theorem ft_top : ∀ (n : Nat) (l : List Sp.Stm), SizeOf.sizeOf l ≤ n → l.length ≤ 64 → Sp.stmsSmall l → ∀ (I : Imm) (a : Option Addr) (c : Nat) (H : List HItem), StsO I l a c H →
    CalM Tryz.prog 23 #[.slice a l.length c] I H (ToTop l a c) := by
  intro n
  induction n with
  | zero => intro l h; cases l <;> simp at h
  | succ n ih =>
  intro l hsz hll hsm I a c H hO
  obtain ⟨xs, Hs, rfl, hC⟩ := hO
  refine CalM.of fun w E hm => enter (N := 29) Tryz.func23 rfl [(0, .slice a l.length c)] args1 rfl ?_
  repeat' (first
  | refine op_move (k:=?_)
  | refine op_len_slice (k:=?_)
  | refine wl_nil ?_
  | refine at_then_normal ?_
  | refine wc_seq ?_
  | refine wc_region ?_
  | refine wc_block ?_)
  refine wc_loop (fun x : OwX => [(0, .slice a l.length c), (4, nt l.length), (5, nt x.k)])
    (fun x w' => Mem E x.I (stRow l.length a c x.xs :: x.Hs) w' ∧ Le I x.I ∧ StsC x.I (Sp.topsS (l.take x.k) ++ l.drop x.k) x.xs x.Hs ∧ x.k ≤ l.length)
    (fun x => l.length - x.k) ⟨0, I, none, 0, xs, Hs⟩ (by exact ⟨rfl, rfl, rfl, trivial⟩) ⟨hm, Le.refl _, by dsimp only; rw [List.take_zero, Sp.topsS, List.nil_append, List.drop_zero]; exact hC, Nat.zero_le _⟩ ?_
  clear hm hC
  rintro ⟨k, I1, _, _, xs1, Hs1⟩ w2 ⟨hm, hle1, hC, hk⟩
  dsimp only at hm hle1 hC hk ⊢
  by_cases hlt : k < l.length
  · have hg : l[k]? = some l[k] := List.getElem?_eq_getElem hlt
    have hme := Sp.sizeL_mem (List.getElem_mem hlt)
    have hsm2 := Sp.stmsSmall_get hsm hg
    generalize l[k] = y at hg hsm2 hme
    rw [Sp.take_drop_get hg] at hC
    obtain ⟨s1, s2, s3, s4, s5⟩ := Sp.small_parts hsm2
    obtain ⟨z1, z2⟩ := Sp.size_thn (s := y)
    obtain ⟨x1, x2, G1, G2, rfl, rfl, hC1, hC2⟩ := hC.part
    obtain ⟨cy, x3, G3, G4, rfl, rfl, hY, hC3⟩ := hC2.uncons
    have hl1 := hC1.len
    rw [Sp.topsS_len, List.length_take, Nat.min_eq_left hk] at hl1
    obtain ⟨ea, ec, ex, a1, c1, a2, c2, H1, H2, rfl, hr, hx, rfl, hO1, hO2⟩ := hY.out
    obtain ⟨gb, rfl⟩ := hm.rowAddr (by omega)
    have hct := fun (J : Imm) (m : Le I1 J) => ih y.thn (by omega) s2 s3 J a1 c1 H1 (hO1.le m)
    have hcl := fun (J : Imm) (m : Le I1 J) => ih y.els (by omega) s4 s5 J a2 c2 H2 (hO2.le m)
    have hoff : ∀ j : Nat, 0 + (k : Int).toNat * 15 + j = k * 15 + j := fun j => by rw [Int.toNat_natCast]; omega
    have htk : Sp.topsS (l.take (k + 1)) = Sp.topsS (l.take k) ++ [Sp.topS y] := by rw [Sp.take_succ_get hg, Sp.topsS_app, Sp.topsS_map [y]]; rfl
    repeat' (first
    | (refine m_storeRow (off := k * 15 + 3) hm (by rfl) (by rfl) (by rw [← hoff]; rfl) (by rfl) (by rfl) (by rfl) (mid_lt hl1 (by simp)) ?_; clear hm; intro _ hm; rw [mid_set hl1 (by simp)] at hm)
    | (refine m_storeRow (off := k * 15 + 4) hm (by rfl) (by rfl) (by rw [← hoff]; rfl) (by rfl) (by rfl) (by rfl) (mid_lt hl1 (by simp)) ?_; clear hm; intro _ hm; rw [mid_set hl1 (by simp)] at hm; simp only [List.set_cons_zero, List.set_cons_succ] at hm)
    | (refine m_loadRow (off := k * 15 + 11) (d := 20) hm (by rfl) (by rfl) (by rw [← hoff]; rfl) (by rw [mid_get hl1 (by simp)]; rfl) ?_)
    | (refine m_loadRow (off := k * 15 + 12) (d := 26) hm (by rfl) (by rfl) (by rw [← hoff]; rfl) (by rw [mid_get hl1 (by simp)]; rfl) ?_)
    | (refine m_call (d:=21) hm (hp:=pmT1) (hc:=hct I1 (Le.refl _)) (k:=?_); clear hm; rintro _ I2 H1' _ ⟨rfl, ho4⟩ hleI2 hm; replace hm := hm.perm pmT1.symm)
    | (refine m_call (d:=27) hm (hp:=pmT1.trans pmT2) (hc:=hcl I2 hleI2) (k:=?_); clear hm; rintro _ I3 H2' _ ⟨rfl, ho5⟩ hleI3 hm; replace hm := hm.perm pmT3)
    | refine op_move (k:=?_)
    | refine op_assign (k:=?_)
    | refine op_lss (k:=?_)
    | refine op_add (k:=?_)
    | refine op_fieldAddr (k:=?_)
    | refine op_indexAddr (k:=?_)
    | refine wl_nil ?_
    | refine at_then_normal ?_
    | refine at_block_normal ?_
    | refine wc_seq ?_
    | refine wc_region ?_
    | refine wc_block ?_
    | refine wc_skip ?_
    | (refine wc_cond_dec (ht:=fun _ => ?_) (hf:=fun _ => ?_)<;> (try first | contradiction | (exfalso; omega))))
    all_goals try (exfalso; omega)
    have hY2 : StO I3 (Sp.topS y) (stCells y.kind y.name y.at_ 255 false y.e ea ec (.slice a1 y.thn.length c1) (.slice a2 y.els.length c2) y.fr y.to) (H1' ++ H2') := by
      have h := stO_cells (s := Sp.topS y) (I := I3) (ea := ea) (a1 := a1) (a2 := a2) (ec := ec) (c1 := c1) (c2 := c2) (ex := ex) (H1 := H1') (H2 := H2')
      cases y with
      | mk k0 n0 at0 l0 o0 e0 t0 x0 f0 u0 =>
        simp only [Sp.topS, Sp.Stm.kind, Sp.Stm.name, Sp.Stm.at_, Sp.Stm.label, Sp.Stm.opn, Sp.Stm.e, Sp.Stm.thn, Sp.Stm.els, Sp.Stm.fr, Sp.Stm.to, Sp.topsS_len] at h hr hx ho4 ho5 ⊢
        exact h (hr.le (hleI2.trans hleI3)) (ExsAt.le (hleI2.trans hleI3) _ _ hx) (ho4.le hleI3) ho5
    refine at_round (⟨k + 1, I3, none, 0, _, _⟩ : OwX) (by exact ⟨rfl, rfl, rfl, trivial⟩) ⟨hm, (hle1.trans hleI2).trans hleI3, ?_, by dsimp only; omega⟩ (by dsimp only; omega)
    dsimp only
    rw [htk, List.append_assoc]
    exact (StsC.le (hleI2.trans hleI3) _ _ _ hC1).app ((StsC.one hY2).app (StsC.le (hleI2.trans hleI3) _ _ _ hC3))
  · obtain rfl : k = l.length := by omega
    rw [List.take_length, List.drop_length, List.append_nil] at hC
    repeat' (first
    | refine op_lss (k:=?_)
    | refine wl_nil ?_
    | refine at_then_normal ?_
    | refine at_then_exit ?_
    | refine at_block_exit ?_
    | refine wc_seq ?_
    | refine wc_region ?_
    | refine wc_exit ?_
    | refine at_end0 (h:=?_)
    | (refine wc_cond_dec (ht:=fun _ => ?_) (hf:=fun _ => ?_)<;> (try first | contradiction | (exfalso; omega))))
    all_goals try (exfalso; omega)
    exact ⟨I1, _, ⟨rfl, xs1, Hs1, by rw [Sp.topsS_len], hC⟩, hm⟩
end Go.Proofs.YtkbiakajlfmakaaGreatDoor
end
