/- Own work: texts SpecFlow2, FlA, one behind the other. -/
import Derived.Test.YtkbiakajlfmakaaDoorMn19
section
namespace Go.Sp
theorem flows_zero (b : Nat) : flows 0 b = true := (flows_iff 0 b).2 (fun k _ h => by simp at h)
def anyE : PE := fun _ _ _ _ _ _ => True
def zeroS : PS := fun _ _ _ l _ _ _ => l = 0
/-- no tags. -/
def itZero (its : List Itm) : Prop := ∀ it ∈ its, it.label = 0 ∧ (∀ p ∈ it.params, p.label = 0) ∧ stmsAll anyE zeroS it.body
def scZero (sc : List Lc) : Prop := ∀ l ∈ sc, l.at_ = 0
theorem getF_zero {sc : List Lc} (h : scZero sc) (n : List UInt8) : getF sc n = 0 := by
  rw [getF]
  split
  · rename_i l hl
    exact h l (findLc_mem hl).1
  · rfl
theorem callLab_zero {its : List Itm} (h : itZero its) (n : List UInt8) : callLab its n = 0 := by
  rw [callLab]
  split
  · rename_i j hj
    exact (h _ (findIt_lt hj).2.2.2.2).1
  · rfl
theorem ask_zero (s : FW) (b f t : Nat) (n : List UInt8) : s.ask 0 b f t n = s := by rw [FW.ask, if_pos (flows_zero b)]
theorem askArg_zero (its : List Itm) (n : List UInt8) (i f t : Nat) (s : FW) : askArg its n i 0 f t s = s := by
  rw [askArg]
  split
  · split
    · exact ask_zero _ _ _ _ _
    · rfl
  · rfl
theorem askFloor_zero (its : List Itm) (n : List UInt8) (f t : Nat) (s : FW) : askFloor its 0 n f t s = s := by
  rw [askFloor]
  split
  · exact ask_zero _ _ _ _ _
  · rfl
theorem askCh_zero (its : List Itm) (n : List UInt8) (f t : Nat) (s : FW) : askCh its 0 n f t s = s := by
  rw [askCh]
  split
  · exact ask_zero _ _ _ _ _
  · rfl
mutual
theorem exF_zero {its : List Itm} (h : itZero its) (at_ : Int) {sc : List Lc} (hs : scZero sc) : ∀ (e : Ex) (s : FW), (exF its at_ sc 0 e s).1 = 0 ∧ (exF its at_ sc 0 e s).2.ds = s.ds
  | .mk k nm n args f t, s => by
    rw [exF, getF_zero hs, callLab_zero h, askFloor_zero]
    have h1 := opsF_zero h at_ hs args s
    have h2 := argsF_zero h at_ hs nm args 0 s
    split
    · exact ⟨rfl, hit_ds _ _ _ _ _⟩
    · split
      · exact ⟨h1.1, (hit_ds _ _ _ _ _).trans h1.2⟩
      · split
        · exact ⟨rfl, (hit_ds _ _ _ _ _).trans h2⟩
        · exact ⟨rfl, hit_ds _ _ _ _ _⟩
theorem opsF_zero {its : List Itm} (h : itZero its) (at_ : Int) {sc : List Lc} (hs : scZero sc) : ∀ (l : List Ex) (s : FW), (opsF its at_ sc 0 l 0 s).1 = 0 ∧ (opsF its at_ sc 0 l 0 s).2.ds = s.ds
  | [], s => by rw [opsF]; exact ⟨rfl, rfl⟩
  | e :: l, s => by
    rw [opsF]
    obtain ⟨h1, h2⟩ := exF_zero h at_ hs e s
    rw [h1]
    obtain ⟨h3, h4⟩ := opsF_zero h at_ hs l (exF its at_ sc 0 e s).2
    exact ⟨h3, h4.trans h2⟩
theorem argsF_zero {its : List Itm} (h : itZero its) (at_ : Int) {sc : List Lc} (hs : scZero sc) (nm : List UInt8) : ∀ (l : List Ex) (i : Nat) (s : FW), (argsF its at_ sc 0 nm l i s).ds = s.ds
  | [], i, s => by rw [argsF]
  | e :: l, i, s => by
    rw [argsF]
    obtain ⟨h1, h2⟩ := exF_zero h at_ hs e s
    rw [h1, Nat.or_zero, askArg_zero]
    exact (argsF_zero h at_ hs nm l (i + 1) _).trans h2
 end
mutual
theorem plainF_zero {its : List Itm} (h : itZero its) {sc : List Lc} (hs : scZero sc) : ∀ (e : Ex), plainF its sc e = 0
  | .mk k nm n args f t => by
    rw [plainF, getF_zero hs, callLab_zero h, plainsF_zero h hs args]
    split
    · rfl
    · split
      · rfl
      · split <;> rfl
theorem plainsF_zero {its : List Itm} (h : itZero its) {sc : List Lc} (hs : scZero sc) : ∀ (l : List Ex), plainsF its sc l 0 = 0
  | [] => by rw [plainsF]
  | e :: l => by rw [plainsF, plainF_zero h hs e, Nat.or_zero]; exact plainsF_zero h hs l
 end
mutual
theorem stmF_zero {its : List Itm} (h : itZero its) (own : Nat) (at_ : Int) : ∀ (x : Stm) (sc : List Lc) (s : FW), scZero sc → x.all anyE zeroS → (stmF its own at_ x sc 0 s).2.ds = s.ds ∧ scZero (stmF its own at_ x sc 0 s).1
  | .mk k nm a lb o e thn els f t, sc, s, hs, hx => by
    rw [Stm.all] at hx
    obtain ⟨hl, _, ht, he⟩ := hx
    have hu : unF its sc k 0 e = 0 := by
      rw [unF, plainF_zero h hs]
      split <;> rfl
    rw [stmF, hu]
    try dsimp only
    obtain ⟨h1, h2⟩ := exF_zero h at_ hs e s
    generalize exF its at_ sc 0 e s = r at h1 h2 ⊢
    have hb := stmsF_zero h own at_ thn sc r.2 hs ht
    have hc := stmsF_zero h own at_ els sc (stmsF its own at_ thn sc 0 r.2).2 hs he
    rw [h1, Nat.or_zero, ask_zero, ask_zero, ask_zero, askCh_zero]
    split
    · refine ⟨h2, fun l hl2 => ?_⟩
      rcases List.mem_append.1 hl2 with hl2 | hl2
      · exact hs l hl2
      · obtain rfl := List.mem_singleton.1 hl2
        dsimp only
        split
        · rfl
        · exact hl
    · split
      · exact ⟨h2, hs⟩
      · split
        · exact ⟨h2, hs⟩
        · split
          · exact ⟨h2, hs⟩
          · split
            · exact ⟨(hc.1.trans hb.1).trans h2, hs⟩
            · exact ⟨h2, hs⟩
theorem stmsF_zero {its : List Itm} (h : itZero its) (own : Nat) (at_ : Int) : ∀ (l : List Stm) (sc : List Lc) (s : FW), scZero sc → stmsAll anyE zeroS l → (stmsF its own at_ l sc 0 s).2.ds = s.ds ∧ scZero (stmsF its own at_ l sc 0 s).1
  | [], sc, s, hs, _ => by rw [stmsF]; exact ⟨rfl, hs⟩
  | x :: l, sc, s, hs, hx => by
    rw [stmsAll] at hx
    rw [stmsF]
    obtain ⟨h1, h2⟩ := stmF_zero h own at_ x sc s hs hx.1
    obtain ⟨h3, h4⟩ := stmsF_zero h own at_ l (stmF its own at_ x sc 0 s).1 (stmF its own at_ x sc 0 s).2 h2 hx.2
    exact ⟨h3.trans h1, h4⟩
 end
theorem itNo_mem {its : List Itm} {i : Nat} (h : i < its.length) : itNo its i ∈ its := by
  rw [itNo, List.getD_eq_getElem?_getD, List.getElem?_eq_getElem h]; exact List.getElem_mem h
theorem itNo_get {its : List Itm} {i : Nat} (h : i < its.length) : its[i]? = some (itNo its i) := by
  rw [itNo, List.getD_eq_getElem?_getD, List.getElem?_eq_getElem h]; rfl
/-- WHERE NOTHING IS SECRET NOTHING IS TOLD. -/
theorem none_sound {its : List Itm} (h : itZero its) : soundF its := fun i hi => by
  have hm := h _ (itNo_mem hi)
  rw [checkF]
  split
  · exact (stmsF_zero h _ _ _ _ FW0 (fun l hl => by
      obtain ⟨p, hp, rfl⟩ := List.mem_map.1 hl
      exact hm.2.1 p hp) hm.2.2).1
  · rfl
/-- the second has channels' labels that are as great at least. -/
structure Up (its its' : List Itm) : Prop where
  len : its'.length = its.length
  kind : ∀ j, (itNo its' j).kind = (itNo its j).kind
  name : ∀ j, (itNo its' j).name = (itNo its j).name
  params : ∀ j, (itNo its' j).params = (itNo its j).params
  sends : ∀ j, (itNo its' j).sends = (itNo its j).sends
  body : ∀ j, (itNo its' j).body = (itNo its j).body
  own : ∀ j, (itNo its j).kind ≠ 1 → (itNo its' j).label = (itNo its j).label
  up : ∀ j a, flows a (itNo its j).label = true → flows a (itNo its' j).label = true
theorem Up.find {its its' : List Itm} (h : Up its its') (k : Int) (n : List UInt8) : findIt its' k n = findIt its k n := by
  have e : ∀ j (h1 : j < its'.length) (h2 : j < its.length), itIs k n its'[j] = itIs k n its[j] := fun j h1 h2 => by
    have a1 := h.kind j
    have a2 := h.name j
    have e1 : itNo its' j = its'[j] := by have := itNo_get h1; rw [List.getElem?_eq_getElem h1] at this; exact (Option.some.inj this).symm
    have e2 : itNo its j = its[j] := by have := itNo_get h2; rw [List.getElem?_eq_getElem h2] at this; exact (Option.some.inj this).symm
    rw [e1, e2] at a1 a2
    rw [itIs, itIs, a1, a2]
  have hl := h.len
  rw [findIt, findIt]
  cases hf : its.findIdx? (itIs k n) with
  | none =>
    rw [List.findIdx?_eq_none_iff] at hf ⊢
    intro x hx
    obtain ⟨j, hj, rfl⟩ := List.getElem_of_mem hx
    rw [e j hj (by omega)]
    exact hf _ (List.getElem_mem _)
  | some j =>
    rw [List.findIdx?_eq_some_iff_getElem] at hf ⊢
    obtain ⟨h1, h2, h3⟩ := hf
    exact ⟨by omega, by rw [e j (by omega) h1]; exact h2, fun i hi => by rw [e i (by omega) (by omega)]; exact h3 i hi⟩
theorem Up.callLab {its its' : List Itm} (h : Up its its') (n : List UInt8) : callLab its' n = callLab its n := by
  rw [Sp.callLab, Sp.callLab, h.find]
  split
  · rename_i j hj
    exact h.own j (by have := (findIt_lt hj).2.1; omega)
  · rfl
theorem Up.meet {its its' : List Itm} (h : Up its its') (l : List Rf) (a : Nat) (hf : flows a (meetF its l) = true) : flows a (meetF its' l) = true := by
  have key : ∀ (l : List Rf) (n n' : Nat), (flows a n = true → flows a n' = true) → flows a (l.foldl (meetStep its) n) = true → flows a (l.foldl (meetStep its') n') = true := by
    intro l
    induction l with
    | nil => intro n n' h1 h2; exact h1 h2
    | cons x l ih =>
      intro n n' h1 h2
      rw [List.foldl_cons] at h2 ⊢
      refine ih _ _ (fun h3 => ?_) h2
      rw [meetStep] at h3 ⊢
      rw [h.find]
      cases hx : findIt its 1 x.name with
      | none => rw [hx] at h3; exact h1 h3
      | some j =>
        rw [hx] at h3
        dsimp only at h3 ⊢
        rw [flows_and, Bool.and_eq_true] at h3 ⊢
        exact ⟨h1 h3.1, h.up j a h3.2⟩
  exact key l 255 255 id hf
theorem ask_up {s : FW} {a b b' f t : Nat} {n : List UInt8} (h : flows a b = true → flows a b' = true) (h0 : (s.ask a b f t n).ds = []) : s.ask a b' f t n = s.ask a b f t n := by
  rw [FW.ask] at h0 ⊢
  rw [FW.ask]
  split at h0
  · rename_i hf; rw [if_pos (h hf), if_pos hf]
  · simp [FW.tell] at h0
theorem nil_of {α : Type} {l r : List α} (h : l.length ≤ r.length) (h0 : r = []) : l = [] := by
  rw [h0] at h; exact List.length_eq_zero_iff.1 (by simpa using h)
theorem Up.askFloor {its its' : List Itm} (h : Up its its') (un : Nat) (n : List UInt8) (f t : Nat) (s : FW) (h0 : (askFloor its un n f t s).ds = []) : askFloor its' un n f t s = askFloor its un n f t s := by
  rw [Sp.askFloor] at h0 ⊢
  rw [Sp.askFloor, h.find]
  split
  · rename_i j hj
    rw [hj] at h0
    rw [h.sends]
    exact ask_up (h.meet _ _) h0
  · rfl
theorem Up.askArg {its its' : List Itm} (h : Up its its') (n : List UInt8) (i a f t : Nat) (s : FW) : askArg its' n i a f t s = askArg its n i a f t s := by
  rw [Sp.askArg, Sp.askArg, h.find]
  split
  · rw [h.params]
  · rfl
theorem Up.askCh {its its' : List Itm} (h : Up its its') (a : Nat) (n : List UInt8) (f t : Nat) (s : FW) (h0 : (askCh its a n f t s).ds = []) : askCh its' a n f t s = askCh its a n f t s := by
  rw [Sp.askCh] at h0 ⊢
  rw [Sp.askCh, h.find]
  split
  · rename_i j hj
    rw [hj] at h0
    exact ask_up (h.up j a) h0
  · rfl
mutual
theorem Up.exF {its its' : List Itm} (h : Up its its') (at_ : Int) (sc : List Lc) (un : Nat) : ∀ (e : Ex) (s : FW), (Sp.exF its at_ sc un e s).2.ds = [] → Sp.exF its' at_ sc un e s = Sp.exF its at_ sc un e s
  | .mk k nm n args f t, s, h0 => by
    rw [Sp.exF] at h0 ⊢
    rw [Sp.exF, h.callLab]
    split
    · rfl
    · rename_i hk
      rw [if_neg hk] at h0
      split
      · rename_i hk3
        rw [if_pos hk3] at h0
        dsimp only at h0
        rw [hit_ds] at h0
        rw [Up.opsF h at_ sc un args 0 s h0]
      · rename_i hk3
        rw [if_neg hk3] at h0
        split
        · rename_i hk4
          rw [if_pos hk4] at h0
          dsimp only at h0
          rw [hit_ds] at h0
          have h1 := nil_of (askFloor_n its un nm f t (Sp.argsF its at_ sc un nm args 0 s)).1 h0
          rw [Up.argsF h at_ sc un nm args 0 s h1, h.askFloor un nm f t _ h0]
        · rfl
theorem Up.opsF {its its' : List Itm} (h : Up its its') (at_ : Int) (sc : List Lc) (un : Nat) : ∀ (l : List Ex) (n : Nat) (s : FW), (Sp.opsF its at_ sc un l n s).2.ds = [] → Sp.opsF its' at_ sc un l n s = Sp.opsF its at_ sc un l n s
  | [], n, s, h0 => by rw [Sp.opsF, Sp.opsF]
  | e :: l, n, s, h0 => by
    rw [Sp.opsF] at h0 ⊢
    rw [Sp.opsF]
    have h1 := nil_of (opsF_n its at_ sc un l (n ||| (Sp.exF its at_ sc un e s).1) (Sp.exF its at_ sc un e s).2).1 h0
    rw [Up.exF h at_ sc un e s h1]
    exact Up.opsF h at_ sc un l _ _ h0
theorem Up.argsF {its its' : List Itm} (h : Up its its') (at_ : Int) (sc : List Lc) (un : Nat) (nm : List UInt8) : ∀ (l : List Ex) (i : Nat) (s : FW), (Sp.argsF its at_ sc un nm l i s).ds = [] → Sp.argsF its' at_ sc un nm l i s = Sp.argsF its at_ sc un nm l i s
  | [], i, s, h0 => by rw [Sp.argsF, Sp.argsF]
  | e :: l, i, s, h0 => by
    rw [Sp.argsF] at h0 ⊢
    rw [Sp.argsF]
    have h1 := nil_of (argsF_n its at_ sc un nm l (i + 1) _).1 h0
    have h2 := nil_of (askArg_n its nm i ((Sp.exF its at_ sc un e s).1 ||| un) e.fr e.to (Sp.exF its at_ sc un e s).2).1 h1
    rw [Up.exF h at_ sc un e s h2, h.askArg]
    exact Up.argsF h at_ sc un nm l _ _ h0
 end
mutual
theorem Up.plainF {its its' : List Itm} (h : Up its its') (sc : List Lc) : ∀ (e : Ex), Sp.plainF its' sc e = Sp.plainF its sc e
  | .mk k nm n args f t => by rw [Sp.plainF, Sp.plainF, h.callLab, Up.plainsF h sc args 0]
theorem Up.plainsF {its its' : List Itm} (h : Up its its') (sc : List Lc) : ∀ (l : List Ex) (n : Nat), Sp.plainsF its' sc l n = Sp.plainsF its sc l n
  | [], n => by rw [Sp.plainsF, Sp.plainsF]
  | e :: l, n => by rw [Sp.plainsF, Sp.plainsF, Up.plainF h sc e, Up.plainsF h sc l]
 end
mutual
theorem Up.stmF {its its' : List Itm} (h : Up its its') (own : Nat) (at_ : Int) : ∀ (x : Stm) (sc : List Lc) (un : Nat) (s : FW), (Sp.stmF its own at_ x sc un s).2.ds = [] → Sp.stmF its' own at_ x sc un s = Sp.stmF its own at_ x sc un s
  | .mk k nm a lb o e thn els f t, sc, un, s, h0 => by
    have hu : unF its' sc k un e = unF its sc k un e := by rw [unF, unF, h.plainF]
    rw [Sp.stmF] at h0 ⊢
    rw [Sp.stmF, hu]
    try dsimp only at h0 ⊢
    generalize unF its sc k un e = un1 at h0 ⊢
    have he := Up.exF h at_ sc un1 e s
    have hn := exF_n its at_ sc un1 e s
    split
    · rename_i k1
      rw [if_pos k1] at h0
      dsimp only at h0
      rw [he (nil_of (ask_n _ _ _ _ _ _).1 h0)]
    · rename_i k1
      rw [if_neg k1] at h0
      split
      · rename_i k2
        rw [if_pos k2] at h0
        dsimp only at h0
        rw [he (nil_of (ask_n _ _ _ _ _ _).1 h0)]
      · rename_i k2
        rw [if_neg k2] at h0
        split
        · rename_i k5
          rw [if_pos k5] at h0
          dsimp only at h0
          rw [he (nil_of (askCh_n _ _ _ _ _ _).1 h0), h.askCh _ _ _ _ _ h0]
        · rename_i k5
          rw [if_neg k5] at h0
          split
          · rename_i k6
            rw [if_pos k6] at h0
            dsimp only at h0
            rw [he (nil_of (ask_n _ _ _ _ _ _).1 h0)]
          · rename_i k6
            rw [if_neg k6] at h0
            split
            · rename_i k3
              rw [if_pos k3] at h0
              dsimp only at h0
              have h1 := nil_of (stmsF_n its own at_ els sc _ _).1 h0
              have h2 := nil_of (stmsF_n its own at_ thn sc _ _).1 h1
              rw [he h2, Up.stmsF h own at_ thn sc _ _ h1, Up.stmsF h own at_ els sc _ _ h0]
            · rename_i k3
              rw [if_neg k3] at h0
              dsimp only at h0
              rw [he h0]
theorem Up.stmsF {its its' : List Itm} (h : Up its its') (own : Nat) (at_ : Int) : ∀ (l : List Stm) (sc : List Lc) (un : Nat) (s : FW), (Sp.stmsF its own at_ l sc un s).2.ds = [] → Sp.stmsF its' own at_ l sc un s = Sp.stmsF its own at_ l sc un s
  | [], sc, un, s, h0 => by rw [Sp.stmsF, Sp.stmsF]
  | x :: l, sc, un, s, h0 => by
    rw [Sp.stmsF] at h0 ⊢
    rw [Sp.stmsF]
    have h1 := nil_of (stmsF_n its own at_ l (Sp.stmF its own at_ x sc un s).1 un (Sp.stmF its own at_ x sc un s).2).1 h0
    rw [Up.stmF h own at_ x sc un s h1]
    exact Up.stmsF h own at_ l _ _ _ h0
 end
end Go.Sp
end
section
namespace Go.Sp
theorem findLc_cut (n : List UInt8) {l : List Lc} {k : Nat} {x : Lc} (h : l[k]? = some x) : findLc (l.take (k + 1)) n = if x.name = n then some x else findLc (l.take k) n := by
  rw [take_succ_get h, findLc_snoc]
end Go.Sp
namespace Go.Proofs.YtkbiakajlfmakaaDoor
open Go.Fw
abbrev encLc (l : Sp.Lc) : List Value := [str l.name, nt l.at_]
abbrev lcRow (sc : List Sp.Lc) (sa : Option Addr) (sp : Nat) : HItem := .row (.slice sa sc.length sp) 198 2 sc.length (sc.flatMap encLc)
abbrev fCells (bf : Nat) (pi : Value) (sc : List Sp.Lc) (sa : Option Addr) (sp : Nat) (s : Sp.FW) (da : Option Addr) (dp : Nat) (vf : Value) (at_ : Int) : List Value :=
  [ptr bf, pi, .slice sa sc.length sp, .slice da s.ds.length dp, vf, .int .i64 at_, .bool s.hv.isSome, nt (s.hv.getD 0)]
abbrev fObj (bc bf : Nat) (pi : Value) (sc : List Sp.Lc) (sa : Option Addr) (sp : Nat) (s : Sp.FW) (da : Option Addr) (dp : Nat) (vf : Value) (at_ : Int) : HItem :=
  .obj bc (.cells (fCells bf pi sc sa sp s da dp vf at_).toArray 169 (0, 0))
/-- who goes through a function: it, its locals, what it told. -/
abbrev FSt (bc bf : Nat) (pi : Value) (sc : List Sp.Lc) (sa : Option Addr) (sp : Nat) (s : Sp.FW) (da : Option Addr) (dp : Nat) (vf : Value) (at_ : Int) : List HItem :=
  [fObj bc bf pi sc sa sp s da dp vf at_, lcRow sc sa sp, dgRow s.ds da dp]
/-- it comes to 's', with locals 'sc'. -/
abbrev ToF (bc bf : Nat) (pi : Value) (vf : Value) (at_ : Int) (sc : List Sp.Lc) (s : Sp.FW) (val : Value) : Value → Imm → List HItem → Prop :=
  fun v _ H' => v = val ∧ ∃ sa sp da dp, H' = FSt bc bf pi sc sa sp s da dp vf at_
/-- what does not turn of it. -/
structure FRd (J : Imm) (bc bf : Nat) (pi : Value) (sc : List Sp.Lc) (sa : Option Addr) (sp : Nat) (v3 v4 v5 v6 v7 : Value) : Prop where
  ptr : PtrI J bc 0 169 [ptr bf, pi, .slice sa sc.length sp, v3, v4, v5, v6, v7]
  row : RowI J 198 2 (.slice sa sc.length sp) sc.length (sc.flatMap encLc)
theorem FRd.le {I J : Imm} (m : Le I J) {bc bf : Nat} {pi : Value} {sc : List Sp.Lc} {sa : Option Addr} {sp : Nat} {v3 v4 v5 v6 v7 : Value} (h : FRd I bc bf pi sc sa sp v3 v4 v5 v6 v7) : FRd J bc bf pi sc sa sp v3 v4 v5 v6 v7 := ⟨h.ptr.le m, h.row.le m⟩
section
variable {I : Imm} {bc bf sp dp : Nat} {pi vf : Value} {sc : List Sp.Lc} {sa da : Option Addr} {s : Sp.FW} {at_ : Int}
/-- a reader of it, from where all does not turn. -/
theorem CalR.flow {f : FuncId} {args : Array Value} {v : Value} (h : ∀ J, Le I J → FRd J bc bf pi sc sa sp (.slice da s.ds.length dp) vf (.int .i64 at_) (.bool s.hv.isSome) (nt (s.hv.getD 0)) → CalR Tryd.prog f args J [] v) :
    CalR Tryd.prog f args I (FSt bc bf pi sc sa sp s da dp vf at_) v :=
  CalR.of fun w J hm hl hH hJ => by
    have h1 := immOf_ptr (hH (fObj bc bf pi sc sa sp s da dp vf at_) (by simp))
    have h2 := immOf_row (hH (lcRow sc sa sp) (by simp))
    rw [← hJ] at h1 h2
    exact (h J hl ⟨h1, h2⟩).run w hm.inv (fun _ h => by cases h)
theorem f_get0 {J : Imm} {v3 v4 v5 v6 v7 : Value} (n : List UInt8) (hs : sc.length ≤ 1099511627776) (h : FRd J bc bf pi sc sa sp v3 v4 v5 v6 v7) : CalR Tryd.prog 194 #[ptr bc, str n] J [] (nt (Sp.getF sc n)) := by
  refine CalR.of fun w K hm hl _ _ => enter (N := 34) Tryd.func194 rfl [(0, ptr bc), (1, str n)] args2 rfl ?_
  obtain ⟨hp, hr⟩ := h.le hl
  repeat' (first
    | refine m_load1 hm (by rfl) (by rfl) (by rfl) (by first | exact gt0 | exact gt1 | exact gt2 | exact gt3 | exact gt4 | exact gt5 | exact gt6) (by rfl) ?_
    | refine i_load1 hm (by rfl) (by rfl) (by rfl) (by assumption) (by rfl) ?_
    | refine m_loadAll hm (by rfl) (by rfl) (by rfl) (by first | exact gt0 | exact gt1 | exact gt2 | exact gt3 | exact gt4 | exact gt5 | exact gt6) (by rfl) ?_
    | refine i_loadN hm (by rfl) (by rfl) (by rfl) (by assumption) (by rfl) ?_
    | refine i_load1z hm (by rfl) (by rfl) (by rfl) (by assumption) (by rfl) ?_
    | refine m_ret_agg hm (by rfl) (by rfl) (by first | exact gt0 | exact gt1 | exact gt2 | exact gt3 | exact gt4 | exact gt5 | exact gt6) (by rfl) ?_
    | refine m_ret2_agg hm (by rfl) (by rfl) (by rfl) (by first | exact gt0 | exact gt1 | exact gt2 | exact gt3 | exact gt4 | exact gt5 | exact gt6) (by rfl) ?_
    | refine op_move (by rfl) (by rfl) (by rfl) ?_
    | refine op_assign (by rfl) (by rfl) (by rfl) ?_
    | refine op_geq (by rfl) (by rfl) (by rfl) (by rfl) ?_
    | refine op_eql (by rfl) (by rfl) (by rfl) (by rfl) ?_
    | refine op_eql_str (by rfl) (by rfl) (by rfl) (by rfl) ?_
    | refine op_eql_bool (by rfl) (by rfl) (by rfl) (by rfl) ?_
    | refine op_eql_flat (by rfl) (by rfl) (by rfl) (by rfl) (by rfl) (by rfl) ?_
    | refine op_len_str (by rfl) (by rfl) (by rfl) ?_
    | refine op_len_slice (by rfl) (by rfl) (by rfl) ?_
    | refine op_nilCheck (by rfl) (by rfl) (by rfl) ?_
    | refine op_sub (by rfl) (by rfl) (by rfl) (by rfl) (by omega) ?_
    | refine op_sub_u8 (by rfl) (by rfl) (by rfl) (by rfl) (by omega) ?_
    | refine op_indexAddr_arr (by rfl) (by rfl) (by rfl) (by rfl) (by omega) (by omega) ?_
    | refine op_fieldAddr (by rfl) (by rfl) (by rfl) ?_
    | refine op_indexAddr (by rfl) (by rfl) (by rfl) (by rfl) (by omega) (by omega) ?_
    | refine op_load1 (by rfl) (by rfl) (by rfl) (by assumption) (by rfl) ?_
    | refine wl_nil ?_
    | refine at_then_normal ?_
    | refine at_then_ret ?_
    | refine at_then_exit ?_
    | refine at_block_normal ?_
    | refine at_block_ret ?_
    | refine at_block_exit ?_
    | refine at_block_other (by rfl) ?_
    | refine wc_seq ?_
    | refine wc_region ?_
    | refine wc_block ?_
    | refine wc_skip ?_
    | refine wc_exit ?_
    | refine wc_ret ?_
    | refine at_ret1 (by rfl) (by rfl) ?_
    | refine wc_cond_true (by rfl) ?_
    | refine wc_cond_false (by rfl) ?_
    | (refine wc_cond_dec (by rfl) (fun _ => ?_) (fun _ => ?_) <;> (try first | contradiction | (exfalso; omega)))
    | refine wc_cond (by rfl) (fun _ => ?_) (fun _ => ?_))
  refine wc_loop (fun k : Nat => [(0, ptr bc), (1, str n), (5, .int .i64 ((k : Int) - 1))]) (fun k w' => Mem ⟨w, [], K⟩ K [] w' ∧ k ≤ sc.length ∧ Sp.findLc sc n = Sp.findLc (sc.take k) n) (fun k => k) sc.length (by exact ⟨rfl, rfl, rfl, trivial⟩) ⟨hm, Nat.le_refl _, by rw [List.take_length]⟩ ?_
  clear hm
  rintro k w1 ⟨hm, hk, hf⟩
  try dsimp only at hm hk hf ⊢
  by_cases h0 : 0 < k
  · have hg : sc[k - 1]? = some sc[k - 1] := List.getElem?_eq_getElem (by omega)
    have hcut := Sp.findLc_cut n hg
    rw [show k - 1 + 1 = k by omega] at hcut
    generalize sc[k - 1] = x at hg hcut
    rw [hcut] at hf
    have hi : sc[((k : Int) - 1).toNat]? = some x := by rw [show ((k : Int) - 1).toNat = k - 1 by omega]; exact hg
    by_cases hx : x.name = n
    · rw [if_pos hx] at hf
      repeat' (first
        | (refine i_indexFlat (d := 21) (enc := encLc) (z := x) (by rfl) (by rfl) (by rfl) (by rfl) hr (fun _ => rfl) (by omega) (by omega) hi ?_; intro b1 o1 p1)
        | (refine i_indexFlat (d := 31) (enc := encLc) (z := x) (by rfl) (by rfl) (by rfl) (by rfl) hr (fun _ => rfl) (by omega) (by omega) hi ?_; intro b2 o2 p2)
        | refine m_load1 hm (by rfl) (by rfl) (by rfl) (by first | exact gt0 | exact gt1 | exact gt2 | exact gt3 | exact gt4 | exact gt5 | exact gt6) (by rfl) ?_
        | refine i_load1 hm (by rfl) (by rfl) (by rfl) (by assumption) (by rfl) ?_
        | refine m_loadAll hm (by rfl) (by rfl) (by rfl) (by first | exact gt0 | exact gt1 | exact gt2 | exact gt3 | exact gt4 | exact gt5 | exact gt6) (by rfl) ?_
        | refine i_loadN hm (by rfl) (by rfl) (by rfl) (by assumption) (by rfl) ?_
        | refine i_load1z hm (by rfl) (by rfl) (by rfl) (by assumption) (by rfl) ?_
        | refine m_ret_agg hm (by rfl) (by rfl) (by first | exact gt0 | exact gt1 | exact gt2 | exact gt3 | exact gt4 | exact gt5 | exact gt6) (by rfl) ?_
        | refine m_ret2_agg hm (by rfl) (by rfl) (by rfl) (by first | exact gt0 | exact gt1 | exact gt2 | exact gt3 | exact gt4 | exact gt5 | exact gt6) (by rfl) ?_
        | refine op_move (by rfl) (by rfl) (by rfl) ?_
        | refine op_assign (by rfl) (by rfl) (by rfl) ?_
        | refine op_geq (by rfl) (by rfl) (by rfl) (by rfl) ?_
        | refine op_eql (by rfl) (by rfl) (by rfl) (by rfl) ?_
        | refine op_eql_str (by rfl) (by rfl) (by rfl) (by rfl) ?_
        | refine op_eql_bool (by rfl) (by rfl) (by rfl) (by rfl) ?_
        | refine op_eql_flat (by rfl) (by rfl) (by rfl) (by rfl) (by rfl) (by rfl) ?_
        | refine op_len_str (by rfl) (by rfl) (by rfl) ?_
        | refine op_len_slice (by rfl) (by rfl) (by rfl) ?_
        | refine op_nilCheck (by rfl) (by rfl) (by rfl) ?_
        | refine op_sub (by rfl) (by rfl) (by rfl) (by rfl) (by omega) ?_
        | refine op_sub_u8 (by rfl) (by rfl) (by rfl) (by rfl) (by omega) ?_
        | refine op_indexAddr_arr (by rfl) (by rfl) (by rfl) (by rfl) (by omega) (by omega) ?_
        | refine op_fieldAddr (by rfl) (by rfl) (by rfl) ?_
        | refine op_indexAddr (by rfl) (by rfl) (by rfl) (by rfl) (by omega) (by omega) ?_
        | refine op_load1 (by rfl) (by rfl) (by rfl) (by assumption) (by rfl) ?_
        | refine wl_nil ?_
        | refine at_then_normal ?_
        | refine at_then_ret ?_
        | refine at_then_exit ?_
        | refine at_block_normal ?_
        | refine at_block_ret ?_
        | refine at_block_exit ?_
        | refine at_block_other (by rfl) ?_
        | refine wc_seq ?_
        | refine wc_region ?_
        | refine wc_block ?_
        | refine wc_skip ?_
        | refine wc_exit ?_
        | refine wc_ret ?_
        | refine at_ret1 (by rfl) (by rfl) ?_
        | refine wc_cond_true (by rfl) ?_
        | refine wc_cond_false (by rfl) ?_
        | (refine wc_cond_dec (by rfl) (fun _ => ?_) (fun _ => ?_) <;> (try first | contradiction | (exfalso; omega)))
        | refine wc_cond (by rfl) (fun _ => ?_) (fun _ => ?_))
      all_goals try (exfalso; first | omega | contradiction)
      exact ⟨by rw [Sp.getF, hf], hm.kept⟩
    · rw [if_neg hx] at hf
      repeat' (first
        | (refine i_indexFlat (d := 21) (enc := encLc) (z := x) (by rfl) (by rfl) (by rfl) (by rfl) hr (fun _ => rfl) (by omega) (by omega) hi ?_; intro b1 o1 p1)
        | refine m_load1 hm (by rfl) (by rfl) (by rfl) (by first | exact gt0 | exact gt1 | exact gt2 | exact gt3 | exact gt4 | exact gt5 | exact gt6) (by rfl) ?_
        | refine i_load1 hm (by rfl) (by rfl) (by rfl) (by assumption) (by rfl) ?_
        | refine m_loadAll hm (by rfl) (by rfl) (by rfl) (by first | exact gt0 | exact gt1 | exact gt2 | exact gt3 | exact gt4 | exact gt5 | exact gt6) (by rfl) ?_
        | refine i_loadN hm (by rfl) (by rfl) (by rfl) (by assumption) (by rfl) ?_
        | refine i_load1z hm (by rfl) (by rfl) (by rfl) (by assumption) (by rfl) ?_
        | refine m_ret_agg hm (by rfl) (by rfl) (by first | exact gt0 | exact gt1 | exact gt2 | exact gt3 | exact gt4 | exact gt5 | exact gt6) (by rfl) ?_
        | refine m_ret2_agg hm (by rfl) (by rfl) (by rfl) (by first | exact gt0 | exact gt1 | exact gt2 | exact gt3 | exact gt4 | exact gt5 | exact gt6) (by rfl) ?_
        | refine op_move (by rfl) (by rfl) (by rfl) ?_
        | refine op_assign (by rfl) (by rfl) (by rfl) ?_
        | refine op_geq (by rfl) (by rfl) (by rfl) (by rfl) ?_
        | refine op_eql (by rfl) (by rfl) (by rfl) (by rfl) ?_
        | refine op_eql_str (by rfl) (by rfl) (by rfl) (by rfl) ?_
        | refine op_eql_bool (by rfl) (by rfl) (by rfl) (by rfl) ?_
        | refine op_eql_flat (by rfl) (by rfl) (by rfl) (by rfl) (by rfl) (by rfl) ?_
        | refine op_len_str (by rfl) (by rfl) (by rfl) ?_
        | refine op_len_slice (by rfl) (by rfl) (by rfl) ?_
        | refine op_nilCheck (by rfl) (by rfl) (by rfl) ?_
        | refine op_sub (by rfl) (by rfl) (by rfl) (by rfl) (by omega) ?_
        | refine op_sub_u8 (by rfl) (by rfl) (by rfl) (by rfl) (by omega) ?_
        | refine op_indexAddr_arr (by rfl) (by rfl) (by rfl) (by rfl) (by omega) (by omega) ?_
        | refine op_fieldAddr (by rfl) (by rfl) (by rfl) ?_
        | refine op_indexAddr (by rfl) (by rfl) (by rfl) (by rfl) (by omega) (by omega) ?_
        | refine op_load1 (by rfl) (by rfl) (by rfl) (by assumption) (by rfl) ?_
        | refine wl_nil ?_
        | refine at_then_normal ?_
        | refine at_then_ret ?_
        | refine at_then_exit ?_
        | refine at_block_normal ?_
        | refine at_block_ret ?_
        | refine at_block_exit ?_
        | refine at_block_other (by rfl) ?_
        | refine wc_seq ?_
        | refine wc_region ?_
        | refine wc_block ?_
        | refine wc_skip ?_
        | refine wc_exit ?_
        | refine wc_ret ?_
        | refine at_ret1 (by rfl) (by rfl) ?_
        | refine wc_cond_true (by rfl) ?_
        | refine wc_cond_false (by rfl) ?_
        | (refine wc_cond_dec (by rfl) (fun _ => ?_) (fun _ => ?_) <;> (try first | contradiction | (exfalso; omega)))
        | refine wc_cond (by rfl) (fun _ => ?_) (fun _ => ?_))
      all_goals try (exfalso; first | omega | contradiction)
      refine at_round (k - 1 : Nat) (by exact ⟨rfl, rfl, by rw [show (((k - 1 : Nat) : Int) - 1) = (k : Int) - 1 - 1 by omega]; rfl, trivial⟩) ⟨hm, by omega, hf⟩ (by omega)
  · obtain rfl : k = 0 := by omega
    repeat' (first
      | refine m_load1 hm (by rfl) (by rfl) (by rfl) (by first | exact gt0 | exact gt1 | exact gt2 | exact gt3 | exact gt4 | exact gt5 | exact gt6) (by rfl) ?_
      | refine i_load1 hm (by rfl) (by rfl) (by rfl) (by assumption) (by rfl) ?_
      | refine m_loadAll hm (by rfl) (by rfl) (by rfl) (by first | exact gt0 | exact gt1 | exact gt2 | exact gt3 | exact gt4 | exact gt5 | exact gt6) (by rfl) ?_
      | refine i_loadN hm (by rfl) (by rfl) (by rfl) (by assumption) (by rfl) ?_
      | refine i_load1z hm (by rfl) (by rfl) (by rfl) (by assumption) (by rfl) ?_
      | refine m_ret_agg hm (by rfl) (by rfl) (by first | exact gt0 | exact gt1 | exact gt2 | exact gt3 | exact gt4 | exact gt5 | exact gt6) (by rfl) ?_
      | refine m_ret2_agg hm (by rfl) (by rfl) (by rfl) (by first | exact gt0 | exact gt1 | exact gt2 | exact gt3 | exact gt4 | exact gt5 | exact gt6) (by rfl) ?_
      | refine op_move (by rfl) (by rfl) (by rfl) ?_
      | refine op_assign (by rfl) (by rfl) (by rfl) ?_
      | refine op_geq (by rfl) (by rfl) (by rfl) (by rfl) ?_
      | refine op_eql (by rfl) (by rfl) (by rfl) (by rfl) ?_
      | refine op_eql_str (by rfl) (by rfl) (by rfl) (by rfl) ?_
      | refine op_eql_bool (by rfl) (by rfl) (by rfl) (by rfl) ?_
      | refine op_eql_flat (by rfl) (by rfl) (by rfl) (by rfl) (by rfl) (by rfl) ?_
      | refine op_len_str (by rfl) (by rfl) (by rfl) ?_
      | refine op_len_slice (by rfl) (by rfl) (by rfl) ?_
      | refine op_nilCheck (by rfl) (by rfl) (by rfl) ?_
      | refine op_sub (by rfl) (by rfl) (by rfl) (by rfl) (by omega) ?_
      | refine op_sub_u8 (by rfl) (by rfl) (by rfl) (by rfl) (by omega) ?_
      | refine op_indexAddr_arr (by rfl) (by rfl) (by rfl) (by rfl) (by omega) (by omega) ?_
      | refine op_fieldAddr (by rfl) (by rfl) (by rfl) ?_
      | refine op_indexAddr (by rfl) (by rfl) (by rfl) (by rfl) (by omega) (by omega) ?_
      | refine op_load1 (by rfl) (by rfl) (by rfl) (by assumption) (by rfl) ?_
      | refine wl_nil ?_
      | refine at_then_normal ?_
      | refine at_then_ret ?_
      | refine at_then_exit ?_
      | refine at_block_normal ?_
      | refine at_block_ret ?_
      | refine at_block_exit ?_
      | refine at_block_other (by rfl) ?_
      | refine wc_seq ?_
      | refine wc_region ?_
      | refine wc_block ?_
      | refine wc_skip ?_
      | refine wc_exit ?_
      | refine wc_ret ?_
      | refine at_ret1 (by rfl) (by rfl) ?_
      | refine wc_cond_true (by rfl) ?_
      | refine wc_cond_false (by rfl) ?_
      | (refine wc_cond_dec (by rfl) (fun _ => ?_) (fun _ => ?_) <;> (try first | contradiction | (exfalso; omega)))
      | refine wc_cond (by rfl) (fun _ => ?_) (fun _ => ?_))
    all_goals try (exfalso; omega)
    exact ⟨by rw [Sp.getF, hf]; rfl, hm.kept⟩
theorem FSt_tell (bc bf : Nat) (pi : Value) (sc : List Sp.Lc) (sa : Option Addr) (sp : Nat) (s : Sp.FW) (f t : Nat) (n : List UInt8) (da : Option Addr) (dp : Nat) (vf : Value) (at_ : Int) :
    [.obj bc (.cells [ptr bf, pi, .slice sa sc.length sp, .slice da (s.ds.length + 1) dp, vf, .int .i64 at_, .bool s.hv.isSome, nt (s.hv.getD 0)].toArray 169 (0, 0)), lcRow sc sa sp, .row (.slice da (s.ds.length + 1) dp) 116 4 (s.ds.length + 1) (s.ds.flatMap encDg ++ encDg ⟨f, t, 9, n⟩)] = FSt bc bf pi sc sa sp (s.tell f t n) da dp vf at_ := by
  simp [Sp.FW.tell, List.flatMap_append]
theorem f_tell (n : List UInt8) (f t : Nat) (hd : s.ds.length < 1099511627776) :
    CalM Tryd.prog 206 #[ptr bc, nt f, nt t, str n] I (FSt bc bf pi sc sa sp s da dp vf at_) (ToF bc bf pi vf at_ sc (s.tell f t n) (.tuple #[])) := by
  refine CalM.of fun w E hm => enter (N := 21) Tryd.func206 rfl [(0, ptr bc), (1, nt f), (2, nt t), (3, str n)] args4 rfl ?_
  repeat' (first
    | (refine m_push (d := 18) hm (by rfl) (by rfl) (by rfl) (by rfl) (by rfl) (by first | exact gt0 | exact gt1 | exact gt2 | exact gt3 | exact gt4 | exact gt5 | exact gt6) (by rfl) (by rfl) (by rfl) (by rfl) (by omega) (by omega) ?_; clear hm; intro a18 cp18 _ _ hm; try simp only [setn] at hm)
    | refine m_load1 hm (by rfl) (by rfl) (by rfl) (by first | exact gt0 | exact gt1 | exact gt2 | exact gt3 | exact gt4 | exact gt5 | exact gt6) (by rfl) ?_
    | refine i_load1 hm (by rfl) (by rfl) (by rfl) (by assumption) (by rfl) ?_
    | refine m_loadAll hm (by rfl) (by rfl) (by rfl) (by first | exact gt0 | exact gt1 | exact gt2 | exact gt3 | exact gt4 | exact gt5 | exact gt6) (by rfl) ?_
    | refine i_loadN hm (by rfl) (by rfl) (by rfl) (by assumption) (by rfl) ?_
    | refine i_load1z hm (by rfl) (by rfl) (by rfl) (by assumption) (by rfl) ?_
    | (refine m_storeAll hm (by rfl) (by rfl) (by rfl) (by rfl) (by first | exact gt0 | exact gt1 | exact gt2 | exact gt3 | exact gt4 | exact gt5 | exact gt6) (by rfl) (by rfl) (by rfl) ?_; clear hm; intro _ hm; try simp only [setn] at hm)
    | (refine m_store1 hm (by rfl) (by rfl) (by rfl) (by rfl) (by first | exact gt0 | exact gt1 | exact gt2 | exact gt3 | exact gt4 | exact gt5 | exact gt6) (by rfl) (by rfl) (by rfl) ?_; clear hm; intro _ hm; try simp only [setn] at hm)
    | (refine m_storeN hm (by rfl) (by rfl) (by rfl) (by rfl) (by first | exact gt0 | exact gt1 | exact gt2 | exact gt3 | exact gt4 | exact gt5 | exact gt6) (by rfl) (by rfl) (by rfl) ?_; clear hm; intro _ hm; try simp only [setn] at hm)
    | refine m_ret_agg hm (by rfl) (by rfl) (by first | exact gt0 | exact gt1 | exact gt2 | exact gt3 | exact gt4 | exact gt5 | exact gt6) (by rfl) ?_
    | refine m_ret2_agg hm (by rfl) (by rfl) (by rfl) (by first | exact gt0 | exact gt1 | exact gt2 | exact gt3 | exact gt4 | exact gt5 | exact gt6) (by rfl) ?_
    | refine op_move (by rfl) (by rfl) (by rfl) ?_
    | refine op_nilCheck (by rfl) (by rfl) (by rfl) ?_
    | refine op_fieldAddr (by rfl) (by rfl) (by rfl) ?_
    | refine op_load1 (by rfl) (by rfl) (by rfl) (by assumption) (by rfl) ?_
    | refine op_struct (by rfl) (by rfl) (by rfl) (by rfl) ?_
    | refine op_build (by rfl) (by rfl) (by rfl) (fun _ => (by rfl)) ?_
    | refine wl_nil ?_
    | refine at_then_normal ?_
    | refine at_then_ret ?_
    | refine wc_seq ?_
    | refine wc_region ?_
    | refine wc_skip ?_
    | refine wc_ret ?_
    | refine at_ret0 (by rfl) ?_
    | refine at_end0 (by rfl) ?_)
  exact ⟨I, _, ⟨rfl, _, _, _, _, FSt_tell _ _ _ _ _ _ s f t n _ _ _ _⟩, hm⟩
theorem f_to (x : Sp.Stm) (b o tc : Nat) (cs : List Value) (hp : PtrI I b o tc cs) (hx : StAt I x cs) (a c : Nat) (ha : a < 256) (hc : c < 256) (hd : s.ds.length < 1099511627776) :
    CalM Tryd.prog 193 #[ptr bc, .pointer (some ⟨b, o, none⟩), nt a, nt c] I (FSt bc bf pi sc sa sp s da dp vf at_) (ToF bc bf pi vf at_ sc (s.ask a c x.fr x.to x.name) (.tuple #[])) := by
  refine CalM.of fun w E hm => enter (N := 26) Tryd.func193 rfl [(0, ptr bc), (1, .pointer (some ⟨b, o, none⟩)), (2, nt a), (3, nt c)] args4 rfl ?_
  obtain ⟨ea, ec, ex, a1, c1, xs1, a2, c2, xs2, rfl, _⟩ := hx.out
  have hF := fun w => c_flows a c ha hc w
  rw [Sp.FW.ask]
  cases hb : Sp.flows a c with
  | true =>
    rw [hb] at hF
    repeat' (first
      | (refine op_call (d := 10) (by rfl) (by rfl) (by rfl) (by exact hF _) ?_; rintro _ _ ⟨rfl, rfl⟩)
      | refine m_load1 hm (by rfl) (by rfl) (by rfl) (by first | exact gt0 | exact gt1 | exact gt2 | exact gt3 | exact gt4 | exact gt5 | exact gt6) (by rfl) ?_
      | refine i_load1 hm (by rfl) (by rfl) (by rfl) (by assumption) (by rfl) ?_
      | refine m_loadAll hm (by rfl) (by rfl) (by rfl) (by first | exact gt0 | exact gt1 | exact gt2 | exact gt3 | exact gt4 | exact gt5 | exact gt6) (by rfl) ?_
      | refine i_loadN hm (by rfl) (by rfl) (by rfl) (by assumption) (by rfl) ?_
      | refine i_load1z hm (by rfl) (by rfl) (by rfl) (by assumption) (by rfl) ?_
      | refine mq_load1 hm (by rfl) (by rfl) (by rfl) (by first | exact gt0 | exact gt1 | exact gt2 | exact gt3 | exact gt4 | exact gt5 | exact gt6) (by rfl) ?_
      | refine iq_load1 hm (by rfl) (by rfl) (by rfl) (by assumption) (by rfl) ?_
      | refine mq_loadAll hm (by rfl) (by rfl) (by rfl) (by first | exact gt0 | exact gt1 | exact gt2 | exact gt3 | exact gt4 | exact gt5 | exact gt6) (by rfl) ?_
      | refine iq_loadN hm (by rfl) (by rfl) (by rfl) (by assumption) (by rfl) ?_
      | refine iq_load1z hm (by rfl) (by rfl) (by rfl) (by assumption) (by rfl) ?_
      | refine m_ret_agg hm (by rfl) (by rfl) (by first | exact gt0 | exact gt1 | exact gt2 | exact gt3 | exact gt4 | exact gt5 | exact gt6) (by rfl) ?_
      | refine m_ret2_agg hm (by rfl) (by rfl) (by rfl) (by first | exact gt0 | exact gt1 | exact gt2 | exact gt3 | exact gt4 | exact gt5 | exact gt6) (by rfl) ?_
      | refine op_move (by rfl) (by rfl) (by rfl) ?_
      | refine op_not (by rfl) (by rfl) (by rfl) ?_
      | refine op_nilCheck (by rfl) (by rfl) (by rfl) ?_
      | refine op_fieldAddr (by rfl) (by rfl) (by rfl) ?_
      | refine op_load1 (by rfl) (by rfl) (by rfl) (by assumption) (by rfl) ?_
      | refine wl_nil ?_
      | refine at_then_normal ?_
      | refine at_then_ret ?_
      | refine wc_seq ?_
      | refine wc_region ?_
      | refine wc_skip ?_
      | refine wc_ret ?_
      | refine at_ret0 (by rfl) ?_
      | refine at_end0 (by rfl) ?_
      | refine wc_quiet (by kernel_rfl) ?_
      | (refine wq_nil ?_; intro _ hkq; replace hm := hm.kept0 hkq; clear hkq)
      | (refine wq_nil_tail ?_; intro _ hkq; replace hm := hm.kept0 hkq; clear hkq)
      | refine wc_cond_true (by rfl) ?_
      | refine wc_cond_false (by rfl) ?_
      | (refine wc_cond_dec (by rfl) (fun _ => ?_) (fun _ => ?_) <;> (try first | contradiction | (exfalso; omega)))
      | refine wc_cond (by rfl) (fun _ => ?_) (fun _ => ?_)
      | refine q_move (by rfl) (by rfl) (by rfl) ?_
      | refine q_not (by rfl) (by rfl) (by rfl) ?_
      | refine q_nilCheck (by rfl) (by rfl) (by rfl) ?_
      | refine q_fieldAddr (by rfl) (by rfl) (by rfl) ?_
      | refine q_load1 (by rfl) (by rfl) (by rfl) (by assumption) (by rfl) ?_)
    all_goals try (exfalso; first | omega | contradiction)
    exact ⟨I, _, ⟨rfl, _, _, _, _, rfl⟩, hm⟩
  | false =>
    rw [hb] at hF
    have hT := fun J => f_tell (I := J) (bc := bc) (bf := bf) (pi := pi) (sc := sc) (sa := sa) (sp := sp) (s := s) (da := da) (dp := dp) (vf := vf) (at_ := at_) x.name x.fr x.to hd
    repeat' (first
      | (refine op_call (d := 10) (by rfl) (by rfl) (by rfl) (by exact hF _) ?_; rintro _ _ ⟨rfl, rfl⟩)
      | (refine wc_quiet_tail (id := 1) 13 (by kernel_rfl) ?_)
      | (refine m_call (d := 25) hm (by rfl) (by rfl) (by rfl) (by first | exact pm0 | exact pm1_0 | exact pm1_1 | exact pm1_2 | exact pm1_3 | exact pm2_0 | exact pm2_1 | exact pm2_2 | exact pm2_3 | exact pm2_4 | exact pm3_0 | exact pm3_1 | exact pm3_2) (hT _) ?_; clear hm; rintro _ I2 _ _ ⟨rfl, sa2, sp2, da2, dp2, rfl⟩ hle hm; have hleI2 := hle; try simp only [setn] at hm)
      | refine m_load1 hm (by rfl) (by rfl) (by rfl) (by first | exact gt0 | exact gt1 | exact gt2 | exact gt3 | exact gt4 | exact gt5 | exact gt6) (by rfl) ?_
      | refine i_load1 hm (by rfl) (by rfl) (by rfl) (by assumption) (by rfl) ?_
      | refine m_loadAll hm (by rfl) (by rfl) (by rfl) (by first | exact gt0 | exact gt1 | exact gt2 | exact gt3 | exact gt4 | exact gt5 | exact gt6) (by rfl) ?_
      | refine i_loadN hm (by rfl) (by rfl) (by rfl) (by assumption) (by rfl) ?_
      | refine i_load1z hm (by rfl) (by rfl) (by rfl) (by assumption) (by rfl) ?_
      | refine mq_load1 hm (by rfl) (by rfl) (by rfl) (by first | exact gt0 | exact gt1 | exact gt2 | exact gt3 | exact gt4 | exact gt5 | exact gt6) (by rfl) ?_
      | refine iq_load1 hm (by rfl) (by rfl) (by rfl) (by assumption) (by rfl) ?_
      | refine mq_loadAll hm (by rfl) (by rfl) (by rfl) (by first | exact gt0 | exact gt1 | exact gt2 | exact gt3 | exact gt4 | exact gt5 | exact gt6) (by rfl) ?_
      | refine iq_loadN hm (by rfl) (by rfl) (by rfl) (by assumption) (by rfl) ?_
      | refine iq_load1z hm (by rfl) (by rfl) (by rfl) (by assumption) (by rfl) ?_
      | refine m_ret_agg hm (by rfl) (by rfl) (by first | exact gt0 | exact gt1 | exact gt2 | exact gt3 | exact gt4 | exact gt5 | exact gt6) (by rfl) ?_
      | refine m_ret2_agg hm (by rfl) (by rfl) (by rfl) (by first | exact gt0 | exact gt1 | exact gt2 | exact gt3 | exact gt4 | exact gt5 | exact gt6) (by rfl) ?_
      | refine op_move (by rfl) (by rfl) (by rfl) ?_
      | refine op_not (by rfl) (by rfl) (by rfl) ?_
      | refine op_nilCheck (by rfl) (by rfl) (by rfl) ?_
      | refine op_fieldAddr (by rfl) (by rfl) (by rfl) ?_
      | refine op_load1 (by rfl) (by rfl) (by rfl) (by assumption) (by rfl) ?_
      | refine wl_nil ?_
      | refine at_then_normal ?_
      | refine at_then_ret ?_
      | refine wc_seq ?_
      | refine wc_region ?_
      | refine wc_skip ?_
      | refine wc_ret ?_
      | refine at_ret0 (by rfl) ?_
      | refine at_end0 (by rfl) ?_
      | refine wc_quiet (by kernel_rfl) ?_
      | (refine wq_nil ?_; intro _ hkq; replace hm := hm.kept0 hkq; clear hkq)
      | (refine wq_nil_tail ?_; intro _ hkq; replace hm := hm.kept0 hkq; clear hkq)
      | refine wc_cond_true (by rfl) ?_
      | refine wc_cond_false (by rfl) ?_
      | (refine wc_cond_dec (by rfl) (fun _ => ?_) (fun _ => ?_) <;> (try first | contradiction | (exfalso; omega)))
      | refine wc_cond (by rfl) (fun _ => ?_) (fun _ => ?_)
      | refine q_move (by rfl) (by rfl) (by rfl) ?_
      | refine q_not (by rfl) (by rfl) (by rfl) ?_
      | refine q_nilCheck (by rfl) (by rfl) (by rfl) ?_
      | refine q_fieldAddr (by rfl) (by rfl) (by rfl) ?_
      | refine q_load1 (by rfl) (by rfl) (by rfl) (by assumption) (by rfl) ?_)
    all_goals try (exfalso; first | omega | contradiction)
    exact ⟨I2, _, ⟨rfl, _, _, _, _, rfl⟩, hm⟩
end
/-- what does not turn beside it. -/
structure FC (I : Imm) (its : List Sp.Itm) (it : Sp.Itm) (bf : Nat) (a : Option Addr) (cp : Nat) (xs : List Value) (pi vf : Value) : Prop where
  file : PtrI I bf 0 24 [.slice a its.length cp]
  fe : FE I its a cp xs
  item : ∃ bi oi tc ci, pi = .pointer (some ⟨bi, oi, none⟩) ∧ PtrI I bi oi tc ci ∧ ItAt I it ci
  floors : ∃ fa fp, vf = .slice fa its.length fp ∧ RowI I 3 1 (.slice fa its.length fp) its.length ((Sp.floorsF its).flatMap encInt)
  lab : Sp.itLab its
  own : it.label < 256
theorem FC.le {I J : Imm} (m : Le I J) {its : List Sp.Itm} {it : Sp.Itm} {bf : Nat} {a : Option Addr} {cp : Nat} {xs : List Value} {pi vf : Value} (h : FC I its it bf a cp xs pi vf) : FC J its it bf a cp xs pi vf := by
  obtain ⟨h1, h2, ⟨bi, oi, tc, ci, e, h3, h4⟩, ⟨fa, fp, e2, h5⟩, h6, h7⟩ := h
  exact ⟨h1.le m, h2.le m, ⟨bi, oi, tc, ci, e, h3.le m, h4.le m⟩, ⟨fa, fp, e2, h5.le m⟩, h6, h7⟩
end Go.Proofs.YtkbiakajlfmakaaDoor
end
