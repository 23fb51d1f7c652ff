/- Own work: texts SpecFlow2, SpecTop, SpecRunOk, FwCut, RunC, one behind the other. -/
import Derived.Test.YthmdffgiockcbaaGreatDoorRb15
section
namespace Go.Sp
theorem itNo_mem {its : List Itm} {i : Nat} (h : i < its.length) : itNo its i ∈ its := by
  rw [itNo, List.getD_eq_getElem?_getD, List.getElem?_eq_getElem h]; exact List.getElem_mem h
theorem itNo_get {its : List Itm} {i : Nat} (h : i < its.length) : its[i]? = some (itNo its i) := by
  rw [itNo, List.getD_eq_getElem?_getD, List.getElem?_eq_getElem h]; rfl
structure Up (its its' : List Itm) : Prop where
  len : its'.length = its.length
  kind : ∀ j, (itNo its' j).kind = (itNo its j).kind
  name : ∀ j, (itNo its' j).name = (itNo its j).name
  params : ∀ j, (itNo its' j).params = (itNo its j).params
  sends : ∀ j, (itNo its' j).sends = (itNo its j).sends
  body : ∀ j, (itNo its' j).body = (itNo its j).body
  own : ∀ j, (itNo its j).kind ≠ 1 → (itNo its' j).label = (itNo its j).label
  up : ∀ j a, flows a (itNo its j).label = true → flows a (itNo its' j).label = true
theorem Up.find {its its' : List Itm} (h : Up its its') (k : Int) (n : List UInt8) : findIt its' k n = findIt its k n := by
  have e : ∀ j (h1 : j < its'.length) (h2 : j < its.length), itIs k n its'[j] = itIs k n its[j] := fun j h1 h2 => by
    have a1 := h.kind j
    have a2 := h.name j
    have e1 : itNo its' j = its'[j] := by have := itNo_get h1; rw [List.getElem?_eq_getElem h1] at this; exact (Option.some.inj this).symm
    have e2 : itNo its j = its[j] := by have := itNo_get h2; rw [List.getElem?_eq_getElem h2] at this; exact (Option.some.inj this).symm
    rw [e1, e2] at a1 a2
    rw [itIs, itIs, a1, a2]
  have hl := h.len
  rw [findIt, findIt]
  cases hf : its.findIdx? (itIs k n) with
  | none =>
    rw [List.findIdx?_eq_none_iff] at hf ⊢
    intro x hx
    obtain ⟨j, hj, rfl⟩ := List.getElem_of_mem hx
    rw [e j hj (by omega)]
    exact hf _ (List.getElem_mem _)
  | some j =>
    rw [List.findIdx?_eq_some_iff_getElem] at hf ⊢
    obtain ⟨h1, h2, h3⟩ := hf
    exact ⟨by omega, by rw [e j (by omega) h1]; exact h2, fun i hi => by rw [e i (by omega) (by omega)]; exact h3 i hi⟩
theorem Up.callLab {its its' : List Itm} (h : Up its its') (n : List UInt8) : callLab its' n = callLab its n := by
  rw [Sp.callLab, Sp.callLab, h.find]
  split
  · rename_i j hj
    exact h.own j (by have := (findIt_lt hj).2.1; omega)
  · rfl
theorem Up.meet {its its' : List Itm} (h : Up its its') (l : List Rf) (a : Nat) (hf : flows a (meetF its l) = true) : flows a (meetF its' l) = true := by
  have key : ∀ (l : List Rf) (n n' : Nat), (flows a n = true → flows a n' = true) → flows a (l.foldl (meetStep its) n) = true → flows a (l.foldl (meetStep its') n') = true := by
    intro l
    induction l with
    | nil => intro n n' h1 h2; exact h1 h2
    | cons x l ih =>
      intro n n' h1 h2
      rw [List.foldl_cons] at h2 ⊢
      refine ih _ _ (fun h3 => ?_) h2
      rw [meetStep] at h3 ⊢
      rw [h.find]
      cases hx : findIt its 1 x.name with
      | none => rw [hx] at h3; exact h1 h3
      | some j =>
        rw [hx] at h3
        dsimp only at h3 ⊢
        rw [flows_and, Bool.and_eq_true] at h3 ⊢
        exact ⟨h1 h3.1, h.up j a h3.2⟩
  exact key l 255 255 id hf
theorem ask_up {s : FW} {a b b' f t : Nat} {n : List UInt8} (h : flows a b = true → flows a b' = true) (h0 : (s.ask a b f t n).ds = []) : s.ask a b' f t n = s.ask a b f t n := by
  rw [FW.ask] at h0 ⊢
  rw [FW.ask]
  split at h0
  · rename_i hf; rw [if_pos (h hf), if_pos hf]
  · simp [FW.tell] at h0
theorem nil_of {α : Type} {l r : List α} (h : l.length ≤ r.length) (h0 : r = []) : l = [] := by
  rw [h0] at h; exact List.length_eq_zero_iff.1 (by simpa using h)
theorem Up.askFloor {its its' : List Itm} (h : Up its its') (un : Nat) (n : List UInt8) (f t : Nat) (s : FW) (h0 : (askFloor its un n f t s).ds = []) : askFloor its' un n f t s = askFloor its un n f t s := by
  rw [Sp.askFloor] at h0 ⊢
  rw [Sp.askFloor, h.find]
  split
  · rename_i j hj
    rw [hj] at h0
    rw [h.sends]
    exact ask_up (h.meet _ _) h0
  · rfl
theorem Up.askArg {its its' : List Itm} (h : Up its its') (n : List UInt8) (i a f t : Nat) (s : FW) : askArg its' n i a f t s = askArg its n i a f t s := by
  rw [Sp.askArg, Sp.askArg, h.find]
  split
  · rw [h.params]
  · rfl
theorem Up.askCh {its its' : List Itm} (h : Up its its') (a : Nat) (n : List UInt8) (f t : Nat) (s : FW) (h0 : (askCh its a n f t s).ds = []) : askCh its' a n f t s = askCh its a n f t s := by
  rw [Sp.askCh] at h0 ⊢
  rw [Sp.askCh, h.find]
  split
  · rename_i j hj
    rw [hj] at h0
    exact ask_up (h.up j a) h0
  · rfl
mutual
theorem Up.exF {its its' : List Itm} (h : Up its its') (at_ : Int) (sc : List Lc) (un : Nat) : ∀ (e : Ex) (s : FW), (Sp.exF its at_ sc un e s).2.ds = [] → Sp.exF its' at_ sc un e s = Sp.exF its at_ sc un e s
  | .mk k nm n args f t, s, h0 => by
    rw [Sp.exF] at h0 ⊢
    rw [Sp.exF, h.callLab]
    split
    · rfl
    · rename_i hk
      rw [if_neg hk] at h0
      split
      · rename_i hk3
        rw [if_pos hk3] at h0
        dsimp only at h0
        rw [hit_ds] at h0
        rw [Up.opsF h at_ sc un args 0 s h0]
      · rename_i hk3
        rw [if_neg hk3] at h0
        split
        · rename_i hk4
          rw [if_pos hk4] at h0
          dsimp only at h0
          rw [hit_ds] at h0
          have h1 := nil_of (askFloor_n its un nm f t (Sp.argsF its at_ sc un nm args 0 s)).1 h0
          rw [Up.argsF h at_ sc un nm args 0 s h1, h.askFloor un nm f t _ h0]
        · rfl
theorem Up.opsF {its its' : List Itm} (h : Up its its') (at_ : Int) (sc : List Lc) (un : Nat) : ∀ (l : List Ex) (n : Nat) (s : FW), (Sp.opsF its at_ sc un l n s).2.ds = [] → Sp.opsF its' at_ sc un l n s = Sp.opsF its at_ sc un l n s
  | [], n, s, h0 => by rw [Sp.opsF, Sp.opsF]
  | e :: l, n, s, h0 => by
    rw [Sp.opsF] at h0 ⊢
    rw [Sp.opsF]
    have h1 := nil_of (opsF_n its at_ sc un l (n ||| (Sp.exF its at_ sc un e s).1) (Sp.exF its at_ sc un e s).2).1 h0
    rw [Up.exF h at_ sc un e s h1]
    exact Up.opsF h at_ sc un l _ _ h0
theorem Up.argsF {its its' : List Itm} (h : Up its its') (at_ : Int) (sc : List Lc) (un : Nat) (nm : List UInt8) : ∀ (l : List Ex) (i : Nat) (s : FW), (Sp.argsF its at_ sc un nm l i s).ds = [] → Sp.argsF its' at_ sc un nm l i s = Sp.argsF its at_ sc un nm l i s
  | [], i, s, h0 => by rw [Sp.argsF, Sp.argsF]
  | e :: l, i, s, h0 => by
    rw [Sp.argsF] at h0 ⊢
    rw [Sp.argsF]
    have h1 := nil_of (argsF_n its at_ sc un nm l (i + 1) _).1 h0
    have h2 := nil_of (askArg_n its nm i ((Sp.exF its at_ sc un e s).1 ||| un) e.fr e.to (Sp.exF its at_ sc un e s).2).1 h1
    rw [Up.exF h at_ sc un e s h2, h.askArg]
    exact Up.argsF h at_ sc un nm l _ _ h0
 end
mutual
theorem Up.plainF {its its' : List Itm} (h : Up its its') (sc : List Lc) : ∀ (e : Ex), Sp.plainF its' sc e = Sp.plainF its sc e
  | .mk k nm n args f t => by rw [Sp.plainF, Sp.plainF, h.callLab, Up.plainsF h sc args 0]
theorem Up.plainsF {its its' : List Itm} (h : Up its its') (sc : List Lc) : ∀ (l : List Ex) (n : Nat), Sp.plainsF its' sc l n = Sp.plainsF its sc l n
  | [], n => by rw [Sp.plainsF, Sp.plainsF]
  | e :: l, n => by rw [Sp.plainsF, Sp.plainsF, Up.plainF h sc e, Up.plainsF h sc l]
 end
mutual
theorem Up.stmF {its its' : List Itm} (h : Up its its') (own : Nat) (at_ : Int) : ∀ (x : Stm) (sc : List Lc) (un : Nat) (s : FW), (Sp.stmF its own at_ x sc un s).2.ds = [] → Sp.stmF its' own at_ x sc un s = Sp.stmF its own at_ x sc un s
  | .mk k nm a lb o e thn els f t, sc, un, s, h0 => by
    have hu : unF its' sc k un e = unF its sc k un e := by rw [unF, unF, h.plainF]
    rw [Sp.stmF] at h0 ⊢
    rw [Sp.stmF, hu]
    try dsimp only at h0 ⊢
    generalize unF its sc k un e = un1 at h0 ⊢
    have he := Up.exF h at_ sc un1 e s
    have hn := exF_n its at_ sc un1 e s
    split
    · rename_i k1
      rw [if_pos k1] at h0
      dsimp only at h0
      rw [he (nil_of (ask_n _ _ _ _ _ _).1 h0)]
    · rename_i k1
      rw [if_neg k1] at h0
      split
      · rename_i k2
        rw [if_pos k2] at h0
        dsimp only at h0
        rw [he (nil_of (ask_n _ _ _ _ _ _).1 h0)]
      · rename_i k2
        rw [if_neg k2] at h0
        split
        · rename_i k5
          rw [if_pos k5] at h0
          dsimp only at h0
          rw [he (nil_of (askCh_n _ _ _ _ _ _).1 h0), h.askCh _ _ _ _ _ h0]
        · rename_i k5
          rw [if_neg k5] at h0
          split
          · rename_i k6
            rw [if_pos k6] at h0
            dsimp only at h0
            rw [he (nil_of (ask_n _ _ _ _ _ _).1 h0)]
          · rename_i k6
            rw [if_neg k6] at h0
            split
            · rename_i k3
              rw [if_pos k3] at h0
              dsimp only at h0
              have h1 := nil_of (stmsF_n its own at_ els sc _ _).1 h0
              have h2 := nil_of (stmsF_n its own at_ thn sc _ _).1 h1
              rw [he h2, Up.stmsF h own at_ thn sc _ _ h1, Up.stmsF h own at_ els sc _ _ h0]
            · rename_i k3
              rw [if_neg k3] at h0
              dsimp only at h0
              rw [he h0]
theorem Up.stmsF {its its' : List Itm} (h : Up its its') (own : Nat) (at_ : Int) : ∀ (l : List Stm) (sc : List Lc) (un : Nat) (s : FW), (Sp.stmsF its own at_ l sc un s).2.ds = [] → Sp.stmsF its' own at_ l sc un s = Sp.stmsF its own at_ l sc un s
  | [], sc, un, s, h0 => by rw [Sp.stmsF, Sp.stmsF]
  | x :: l, sc, un, s, h0 => by
    rw [Sp.stmsF] at h0 ⊢
    rw [Sp.stmsF]
    have h1 := nil_of (stmsF_n its own at_ l (Sp.stmF its own at_ x sc un s).1 un (Sp.stmF its own at_ x sc un s).2).1 h0
    rw [Up.stmF h own at_ x sc un s h1]
    exact Up.stmsF h own at_ l _ _ _ h0
 end
end Go.Sp
end
section
namespace Go.Sp
section
variable {its : List Itm} {at_ : Int}
structure ScT (sn sf : List Lc) : Prop where
  top : ∀ l ∈ sf, l.at_ = 255
  has : ∀ n, n ≠ [] → findLc sn n ≠ none → findLc sf n ≠ none
theorem ScT.lab {sn sf : List Lc} (h : ScT sn sf) : scLab sf := fun l hl => by rw [h.top l hl]; omega
theorem ScT.get {sn sf : List Lc} (h : ScT sn sf) {n : List UInt8} (hn : n ≠ []) (hf : findLc sn n ≠ none) : getF sf n = 255 := by
  rw [getF]
  cases hs : findLc sf n with
  | none => exact absurd hs (h.has n hn hf)
  | some l => exact h.top l (findLc_mem hs).1
theorem ScT.snoc {sn sf : List Lc} (h : ScT sn sf) (n : List UInt8) (a : Nat) : ScT (if n = [] then sn else sn ++ [⟨n, a⟩]) (sf ++ [⟨n, 255⟩]) := by
  refine ⟨fun l hl => ?_, fun m hm hf => ?_⟩
  · rcases List.mem_append.1 hl with hl | hl
    · exact h.top l hl
    · rw [List.mem_singleton] at hl; subst hl; rfl
  · rw [findLc_snoc]
    dsimp only
    by_cases e : n = m
    · rw [if_pos e]; simp
    · rw [if_neg e]
      refine h.has m hm ?_
      split at hf
      · exact hf
      · rw [findLc_snoc] at hf
        dsimp only at hf
        rw [if_neg e] at hf
        exact hf
theorem tell_ds (s : NW) (a e : Nat) (n : List UInt8) : (s.tell a e n).ds ≠ [] := by simp [NW.tell]
theorem locN_ds {b : Int} {sc : List Lc} {a : Nat} {n : List UInt8} {s : NW} (h : (locN b sc a n s).ds = []) : s.ds = [] ∧ (n ≠ [] → findLc sc n ≠ none) := by
  rw [locN] at h
  split at h
  · rename_i l hl
    exact ⟨h, fun _ => by rw [hl]; simp⟩
  · split at h
    · rename_i hn
      exact ⟨h, fun h1 => absurd hn h1⟩
    · exact absurd h (tell_ds _ _ _ _)
theorem itmN_ds {its : List Itm} {b k : Int} {a : Nat} {n : List UInt8} {s : NW} (h : (itmN its b k a n s).ds = []) : s.ds = [] := by
  rw [itmN] at h
  split at h
  · exact h
  · split at h
    · exact h
    · exact absurd h (tell_ds _ _ _ _)
theorem callN_ds {its : List Itm} {b : Int} {a : Nat} {n : List UInt8} {m : Nat} {s : NW} (h : (callN its b a n m s).ds = []) : s.ds = [] := by
  rw [callN] at h
  split at h
  · split at h
    · exact absurd h (tell_ds _ _ _ _)
    · exact itmN_ds h
  · exact itmN_ds h
theorem mkN_ds {n : List UInt8} {a : Nat} {sc : List Lc} {s : NW} (h : (mkN n a sc s).2.ds = []) : s.ds = [] := by
  rw [mkN] at h
  split at h
  · exact h
  · dsimp only at h
    split at h
    · exact absurd h (tell_ds _ _ _ _)
    · exact h
mutual
theorem exN_ds {its : List Itm} {b : Int} {sc : List Lc} : ∀ (e : Ex) {s : NW}, (exN its b sc e s).ds = [] → s.ds = []
  | .mk k nm n args f t, s, h => by
    rw [exN] at h
    have h1 := exsN_ds args h
    split at h1
    · exact (locN_ds h1).1
    · split at h1
      · exact callN_ds h1
      · exact h1
theorem exsN_ds {its : List Itm} {b : Int} {sc : List Lc} : ∀ (l : List Ex) {s : NW}, (exsN its b sc l s).ds = [] → s.ds = []
  | [], s, h => by rw [exsN] at h; exact h
  | e :: l, s, h => by rw [exsN] at h; exact exN_ds e (exsN_ds l h)
 end
mutual
theorem stmN_ds {its : List Itm} {b : Int} : ∀ (x : Stm) {sc : List Lc} {s : NW}, (stmN its b x sc s).2.ds = [] → s.ds = []
  | .mk k nm a lb o e thn els f t, sc, s, h => by
    rw [stmN] at h
    split at h
    · exact exN_ds e (mkN_ds h)
    · split at h
      · exact exN_ds e (locN_ds h).1
      · split at h
        · exact exN_ds e (itmN_ds h)
        · split at h
          · exact exN_ds e (stmsN_ds thn (stmsN_ds els h))
          · exact exN_ds e h
theorem stmsN_ds {its : List Itm} {b : Int} : ∀ (l : List Stm) {sc : List Lc} {s : NW}, (stmsN its b l sc s).2.ds = [] → s.ds = []
  | [], sc, s, h => by rw [stmsN] at h; exact h
  | x :: l, sc, s, h => by rw [stmsN] at h; exact stmN_ds x (stmsN_ds l h)
 end
end
end Go.Sp
end
section
namespace Go.Sp
def anyS : PS := fun _ _ _ _ _ _ _ => True
def calP (its : List Itm) : PE := fun k nm _ na _ _ => k = 4 → nm ≠ [] → ∃ j, findIt its 2 nm = some j ∧ (itNo its j).params.length = na
theorem tell_bad (s : NW) (a e : Nat) (n : List UInt8) : (s.tell a e n).ds ≠ [] := by simp [NW.tell]
theorem itmR_ok {its : List Itm} {b k : Int} {a : Nat} {n : List UInt8} {s : NW} (h : (itmN its b k a n s).ds = []) (hn : n ≠ []) : ∃ j, findIt its k n = some j := by
  rw [itmN] at h
  split at h
  · rename_i j hj; exact ⟨j, hj⟩
  · rw [if_neg hn] at h; exact absurd h (tell_bad _ _ _ _)
theorem calN_ok {its : List Itm} {b : Int} {a : Nat} {n : List UInt8} {m : Nat} {s : NW} (h : (callN its b a n m s).ds = []) (hn : n ≠ []) : ∃ j, findIt its 2 n = some j ∧ (itNo its j).params.length = m := by
  rw [callN] at h
  split at h
  · rename_i j hj
    split at h
    · exact absurd h (tell_bad _ _ _ _)
    · rename_i hl; exact ⟨j, hj, by omega⟩
  · rename_i hj
    obtain ⟨j, hj2⟩ := itmR_ok h hn
    rw [hj] at hj2; cases hj2
mutual
theorem ex_calls {its : List Itm} {b : Int} {sc : List Lc} : ∀ (e : Ex) {s : NW}, (exN its b sc e s).ds = [] → e.all (calP its)
  | .mk k nm n args f t, s, h => by
    rw [exN] at h
    rw [Ex.all]
    refine ⟨fun hk hn => ?_, exs_calls args h⟩
    have h1 := exsN_ds args h
    rw [if_neg (by omega), if_pos hk] at h1
    exact calN_ok h1 hn
theorem exs_calls {its : List Itm} {b : Int} {sc : List Lc} : ∀ (l : List Ex) {s : NW}, (exsN its b sc l s).ds = [] → exsAll (calP its) l
  | [], s, h => by rw [exsAll]; trivial
  | e :: l, s, h => by
    rw [exsN] at h
    rw [exsAll]
    exact ⟨ex_calls e (exsN_ds l h), exs_calls l h⟩
 end
mutual
theorem ex_ok {its : List Itm} : ∀ (e : Ex) {d l : Nat}, e.fitE d l → e.all (calP its) → e.all (okE its)
  | .mk k nm n args f t, d, l, h, hc => by
    rw [Ex.fitE] at h
    rw [Ex.all] at hc ⊢
    rcases h.2 with h | h | h | h
    · obtain ⟨h1, _, _, h4⟩ := h
      subst h4
      exact ⟨.inl h1, exsAll_nil⟩
    · obtain ⟨h1, _, _, h4⟩ := h
      subst h4
      exact ⟨.inr (.inl h1), exsAll_nil⟩
    · exact ⟨.inr (.inr (.inr ⟨h.1, hc.1 h.1 (name_ne h.2.1)⟩)), exs_ok args h.2.2.2.2 hc.2⟩
    · exact ⟨.inr (.inr (.inl ⟨h.1, h.2.2.2.1⟩)), ops_ok args h.2.2.2.2 hc.2⟩
theorem exs_ok {its : List Itm} : ∀ (l : List Ex) {d : Nat}, exsFit l d → exsAll (calP its) l → exsAll (okE its) l
  | [], d, _, _ => exsAll_nil
  | e :: l, d, h, hc => by
    rw [exsFit] at h
    rw [exsAll] at hc ⊢
    exact ⟨ex_ok e h.1 hc.1, exs_ok l h.2 hc.2⟩
theorem ops_ok {its : List Itm} : ∀ (l : List Ex) {d n : Nat}, opsFit l d n → exsAll (calP its) l → exsAll (okE its) l
  | [], d, _, _, _ => exsAll_nil
  | e :: l, d, n, h, hc => by
    rw [opsFit] at h
    rw [exsAll] at hc ⊢
    exact ⟨ex_ok e h.1 hc.1, ops_ok l h.2 hc.2⟩
 end
def okS (its : List Itm) : PS := fun k nm _ _ _ _ _ => k = 5 → ∃ j, findIt its 1 nm = some j
mutual
theorem stm_ok {its : List Itm} {b : Int} : ∀ (x : Stm) {d : Nat} {sc : List Lc} {s : NW}, x.fitS d → (stmN its b x sc s).2.ds = [] → x.all (okE its) (okS its)
  | .mk k nm a lb o e thn els f t, d, sc, s, hf, h => by
    rw [Stm.fitS] at hf
    rw [stmN] at h
    rw [Stm.all]
    obtain ⟨h0, hf⟩ := hf
    rcases hf with hf | hf | hf | hf | hf | hf
    · obtain ⟨k1, _, _, _, rfl, rfl⟩ := hf
      rw [if_pos k1] at h
      exact ⟨fun h5 => by omega, ex_ok e h0 (ex_calls e (mkN_ds h)), stmsAll_nil, stmsAll_nil⟩
    · obtain ⟨k1, _, _, _, rfl, rfl⟩ := hf
      rw [if_neg (by omega), if_pos k1] at h
      exact ⟨fun h5 => by omega, ex_ok e h0 (ex_calls e (locN_ds h).1), stmsAll_nil, stmsAll_nil⟩
    · obtain ⟨k1, hn, _, _, rfl, rfl⟩ := hf
      rw [if_neg (by omega), if_neg (by omega), if_pos k1] at h
      exact ⟨fun _ => itmR_ok h (name_ne hn), ex_ok e h0 (ex_calls e (itmN_ds h)), stmsAll_nil, stmsAll_nil⟩
    · obtain ⟨k1, _, _, _, rfl, rfl⟩ := hf
      rw [if_neg (by omega), if_neg (by omega), if_neg (by omega), if_neg (by omega)] at h
      exact ⟨fun h5 => by omega, ex_ok e h0 (ex_calls e h), stmsAll_nil, stmsAll_nil⟩
    · obtain ⟨k1, _, _, _, rfl, rfl, _⟩ := hf
      rw [if_neg (by omega), if_neg (by omega), if_neg (by omega), if_neg (by omega)] at h
      exact ⟨fun h5 => by omega, ex_ok e h0 (ex_calls e h), stmsAll_nil, stmsAll_nil⟩
    · obtain ⟨k1, _, _, _, _, _, _, ht, he⟩ := hf
      have k34 : k = 3 ∨ k = 4 := by omega
      rw [if_neg (by omega), if_neg (by omega), if_neg (by omega), if_pos k34] at h
      have hT := stmsN_ds els h
      exact ⟨fun h5 => by omega, ex_ok e h0 (ex_calls e (stmsN_ds thn hT)), stms_ok thn ht hT, stms_ok els he h⟩
theorem stms_ok {its : List Itm} {b : Int} : ∀ (l : List Stm) {d : Nat} {sc : List Lc} {s : NW}, stmsFit l d → (stmsN its b l sc s).2.ds = [] → stmsAll (okE its) (okS its) l
  | [], d, sc, s, _, _ => stmsAll_nil
  | x :: l, d, sc, s, hf, h => by
    rw [stmsN] at h
    rw [stmsFit] at hf
    rw [stmsAll]
    exact ⟨stm_ok x hf.1 (stmsN_ds l h), stms_ok l hf.2 h⟩
 end
theorem file_good {s : List UInt8} (h : allD (fileItems s) = []) : ∀ it ∈ fileItems s, it.fitI := fun it hit => by
  obtain ⟨i, hi, rfl⟩ := List.getElem_of_mem hit
  have hg := List.getElem?_eq_getElem hi
  have e : itNo (fileItems s) i = (fileItems s)[i] := by rw [itNo, List.getD_eq_getElem?_getD, hg]; rfl
  have h1 := (allD_nil h hi).1
  rw [e] at h1
  have hm := List.getElem_mem hi
  generalize (fileItems s)[i] = it at h1 hm
  rw [fileItems] at hm
  split at hm
  · rw [items] at hm
    obtain ⟨j, _, rfl⟩ := List.mem_map.1 hm
    exact good_item _ _ h1
  · cases hm
theorem run_okS {s : List UInt8} (h : allD (fileItems s) = []) : ∀ it ∈ fileItems s, it.kind = 2 → stmsAll (okE (fileItems s)) (okS (fileItems s)) it.body := fun it hit hk => by
  have hfit := file_good h it hit
  obtain ⟨i, hi, rfl⟩ := List.getElem_of_mem hit
  have hg := List.getElem?_eq_getElem hi
  have e : itNo (fileItems s) i = (fileItems s)[i] := by rw [itNo, List.getD_eq_getElem?_getD, hg]; rfl
  have h1 := (allD_nil h hi).2.1
  rw [walkN, e, if_pos hk, fnN] at h1
  exact stms_ok _ hfit.body.2 h1
theorem run_ok {s : List UInt8} (h : allD (fileItems s) = []) : ∀ it ∈ fileItems s, it.kind = 2 → stmsAll (okE (fileItems s)) anyS it.body := fun it hit hk =>
  stmsAll_mono (fun _ _ _ _ _ _ h => h) (fun _ _ _ _ _ _ _ _ => trivial) _ (run_okS h it hit hk)
def MR.ok3 (m : MR) : Prop := m.err = 0 ∨ m.err = 11 ∨ m.err = 12
def Call3 (C : CallR) : Prop := ∀ (nm : List UInt8) (args : List Int) (m : MR), m.ok3 → (C nm args m).2.ok3
theorem step_3 {m : MR} (h : m.ok3) : m.step.ok3 := by
  rw [MR.step]
  split
  · exact h
  · split
    · exact h
    · exact .inr (.inl rfl)
mutual
theorem exR_3 {C : CallR} (hC : Call3 C) (sc : List Cl) : ∀ (e : Ex) {m : MR}, m.ok3 → (exR C sc e m).2.ok3
  | .mk k nm n args f t, m, h => by
    have h1 := step_3 h
    have h2 := exsR_3 hC sc args h1
    rw [exR]
    split
    · exact h1
    · split
      · exact h1
      · split
        · exact h1
        · split
          · exact h2
          · exact hC _ _ _ h2
theorem exsR_3 {C : CallR} (hC : Call3 C) (sc : List Cl) : ∀ (l : List Ex) {m : MR}, m.ok3 → (exsR C sc l m).2.ok3
  | [], m, h => by rw [exsR]; exact h
  | e :: l, m, h => by rw [exsR]; exact exsR_3 hC sc l (exR_3 hC sc e h)
 end
theorem shutR_m (n : Nat) (r : SR × Bool) : (shutR n r).m = r.1.m := by rw [shutR]; split <;> rfl
theorem loopR_3 {f : List Cl → MR → Int × MR} {b : SR → SR} (hf : ∀ (sc : List Cl) (m : MR), m.ok3 → (f sc m).2.ok3) (hb : ∀ s, s.m.ok3 → (b s).m.ok3) : ∀ (k : Nat) (s : SR), s.m.ok3 → (loopR f b k s).m.ok3
  | 0, s, h => by rw [loopR]; exact h
  | k + 1, s, h => by
    rw [loopR]
    split
    · exact step_3 h
    · split
      · exact loopR_3 hf hb k _ (hb _ (hf _ _ (step_3 h)))
      · exact hf _ _ (step_3 h)
mutual
theorem stmR_3 {C : CallR} (hC : Call3 C) : ∀ (x : Stm) (s : SR), s.m.ok3 → (stmR C x s).m.ok3
  | .mk k nm a lb o e thn els f t, s, h => by
    have h1 := step_3 h
    have h2 := exR_3 hC s.sc e h1
    rw [stmR]
    split
    · exact loopR_3 (fun sc m h => exR_3 hC sc e h) (fun s h => by rw [shutR_m]; exact goR_3 hC thn s h) _ s h
    · split
      · exact h1
      · split
        · exact h2
        · split
          · exact h2
          · split
            · exact h2
            · split
              · exact h2
              · split
                · exact h2
                · split
                  · split
                    · rw [shutR_m]; exact goR_3 hC thn _ h2
                    · rw [shutR_m]; exact goR_3 hC els _ h2
                  · exact h2
theorem goR_3 {C : CallR} (hC : Call3 C) : ∀ (l : List Stm) (s : SR), s.m.ok3 → (goR C l s).1.m.ok3
  | [], s, h => by rw [goR]; exact h
  | x :: l, s, h => by
    rw [goR]
    split
    · exact h
    · exact goR_3 hC l _ (stmR_3 hC x s h)
 end
theorem callR_3 (its : List Itm) : ∀ d, Call3 (callR its d)
  | 0 => fun nm args m h => by
    rw [callR]
    split
    · exact h
    · exact .inr (.inr rfl)
  | d + 1 => fun nm args m h => by
    rw [callR]
    split
    · exact h
    · split
      · exact h
      · rw [blkR, shutR_m]
        exact goR_3 (callR_3 its d) _ _ h
theorem run_err (its : List Itm) (nm : List UInt8) (args : List Int) : (allD its ≠ [] → (runR its nm args).err = 13) ∧
    (allD its = [] → findIt its 2 nm = none → (runR its nm args).err = 6) ∧
    (∀ j, allD its = [] → findIt its 2 nm = some j → (itNo its j).params.length ≠ args.length → (runR its nm args).err = 5) ∧
    (∀ j, allD its = [] → findIt its 2 nm = some j → (itNo its j).params.length = args.length → (runR its nm args).err = 0 ∨ (runR its nm args).err = 11 ∨ (runR its nm args).err = 12) := by
  refine ⟨fun h => ?_, fun h h1 => ?_, fun j h h1 h2 => ?_, fun j h h1 h2 => ?_⟩
  · rw [runR, if_pos h]
  · rw [runR, if_neg (fun hh => hh h), h1]
  · rw [runR, if_neg (fun hh => hh h), h1]
    dsimp only
    rw [if_pos (fun e => h2 e.symm)]
  · rw [runR, if_neg (fun hh => hh h), h1]
    dsimp only
    rw [if_neg (fun hh => hh h2.symm)]
    have := callR_3 its 40 nm args (m := MR0) (.inl rfl)
    split
    · rename_i he; rcases this with h | h | h
      · exact absurd h he
      · exact .inr (.inl h)
      · exact .inr (.inr h)
    · exact .inl rfl
end Go.Sp
end
section
namespace Go.Fw
open Go
theorem own_cut {w : World} {base e sz n m cp : Nat} {a : Option Addr} {xs : List Value} (ho : w.ownsRow base e sz (.slice a n cp) n xs) (hmn : m ≤ n) :
    w.ownsRow base e sz (.slice a m cp) m (xs.take (m * sz)) ∧ n ≤ cp ∧ (a = none ∨ ∃ g, a = some ⟨g, 0, none⟩) := by
  have h0 := ho.1
  have hle : m * sz ≤ n * sz := Nat.mul_le_mul_right _ hmn
  have hlen : (xs.take (m * sz)).length = m * sz := by rw [List.length_take]; omega
  rcases ho.2 with ⟨hv, hn⟩ | ⟨g, cap, cur, hv, hb, hg, hc, hcm, hs, ht⟩
  · obtain ⟨rfl, rfl, rfl⟩ := Value.slice.inj hv
    obtain rfl : m = 0 := by omega
    exact ⟨⟨hlen, .inl ⟨rfl, rfl⟩⟩, Nat.le_refl _, .inl rfl⟩
  · obtain ⟨rfl, _, rfl⟩ := Value.slice.inj hv
    refine ⟨⟨hlen, .inr ⟨g, cp, cur, rfl, hb, hg, by omega, hcm, hs, ?_⟩⟩, hc, .inr ⟨g, rfl⟩⟩
    rw [← ht, List.take_take, Nat.min_eq_left hle]
section
variable {P : Program} {N : Nat} {ds : List Deferred} {Q : Exit → Act → World → Prop} {l : Log} {w : World} {ops : Array Oper} {os : List Oper}
variable {d : Nat} {ty : TypeId} {pos : String} {af : Array Edge} {g : Option (Nat × Bool)} {t : TypeId} {x y : Operand} {E : Ent} {I : Imm} {H : List HItem}
theorem m_sliceTo {e : TypeId} {sz by_ : Nat} [TySlice P t e] [Elem P e sz by_] {i n m cp : Nat} {a : Option Addr} {xs : List Value} (hm : Mem E I H w)
    (hw : want ops l ⟨some d, .slice t x none (some y) none, ty, pos, af, g⟩ = some true := by rfl) (hN : Nat.blt d N = true := by rfl)
    (hx : ev l x = some (.slice a n cp) := by rfl) (hy : ev l y = some (.int .i64 (m : Int)) := by rfl) (hi : H[i]? = some (.row (.slice a n cp) e sz n xs) := by first | exact gt0 | exact gt1 | exact gt2 | exact gt3 | exact gt4 | exact gt5 | exact gt6) (hmn : m ≤ n)
    (k : Mem E I (H.set i (.row (.slice a m cp) e sz m (xs.take (m * sz)))) w → WL P N ds ops Q os ((d, .slice a m cp) :: l) w) :
    WL P N ds ops Q (⟨some d, .slice t x none (some y) none, ty, pos, af, g⟩ :: os) l w := by
  obtain ⟨h1, h2, h3⟩ := own_cut (hm.ok _ (List.mem_of_getElem? hi)) hmn
  have hm' := hm.turn (h' := .row (.slice a m cp) e sz m (xs.take (m * sz))) hi (Kept.refl _ w) h1 (.inl (by rcases a with _ | a <;> rfl))
  refine wl_value (w' := w) (v := .slice a m cp) rfl hw hN (fun c hc => ?_) (k hm')
  obtain ⟨inf, z, hinf, _, hs, _, _, _⟩ := Elem.out (P := P) (e := e)
  have h6 := run_underlying (P := P) (w := w) (TySlice.out (P := P) (t := t))
  have h7 : m ≤ cp := by omega
  rcases h3 with rfl | ⟨g, rfl⟩
  · simp [execOp, Instr.sliceAt, Instr.slice, Instr.sliceBounds, Instr.sliceBound, hc.ev hx, hc.ev hy, h6, asIntOf, h7, sizeOf, typeInfo, hinf, hs]
  · simp [execOp, Instr.sliceAt, Instr.slice, Instr.sliceBounds, Instr.sliceBound, hc.ev hx, hc.ev hy, h6, asIntOf, h7, sizeOf, typeInfo, hinf, hs, Addr.add_lit]
end
end Go.Fw
end
section
namespace Go.Sp
theorem stmR_eq (C : CallR) (x : Stm) (s : SR) : stmR C x s = if x.kind = 4 then loopR (fun sc m => exR C sc x.e m) (blkR C x.thn) 3001 s else
    if s.m.go = false then { s with m := s.m.step } else
    if (exR C s.sc x.e s.m.step).2.err ≠ 0 then { s with m := (exR C s.sc x.e s.m.step).2 } else
    if x.kind = 1 then { s with sc := s.sc ++ [⟨x.name, (exR C s.sc x.e s.m.step).1⟩], m := (exR C s.sc x.e s.m.step).2 } else
    if x.kind = 2 then { s with sc := setR s.sc x.name (exR C s.sc x.e s.m.step).1, m := (exR C s.sc x.e s.m.step).2 } else
    if x.kind = 5 then { s with m := { (exR C s.sc x.e s.m.step).2 with ev := (exR C s.sc x.e s.m.step).2.ev ++ [⟨x.name, (exR C s.sc x.e s.m.step).1⟩] } } else
    if x.kind = 6 then { s with back := (exR C s.sc x.e s.m.step).1, m := (exR C s.sc x.e s.m.step).2 } else
    if x.kind = 3 then if (exR C s.sc x.e s.m.step).1 ≠ 0 then blkR C x.thn { s with m := (exR C s.sc x.e s.m.step).2 } else blkR C x.els { s with m := (exR C s.sc x.e s.m.step).2 }
    else { s with m := (exR C s.sc x.e s.m.step).2 } := by
  cases x; rw [stmR]; rfl
end Go.Sp
namespace Go.Proofs.YthmdffgiockcbaaGreatDoor
open Go.Fw
theorem stE_subR {I : Imm} {x : Sp.Stm} {b o tc ec : Nat} {ea : Option Addr} {v1 v2 : Value} (hp : PtrI I b o tc (stCells x.kind x.name x.at_ x.label x.opn x.e ea ec v1 v2 x.fr x.to)) : PtrI I b (o + 5) tc (exCells x.e ea ec) :=
  hp.sub (cs' := exCells x.e ea ec) 5 (fun j u hj => by
    match j, hj with
    | 0, hj => exact hj
    | 1, hj => exact hj
    | 2, hj => exact hj
    | 3, hj => exact hj
    | 4, hj => exact hj
    | 5, hj => exact hj
    | j + 6, hj => cases hj)
structure RsX where
  k : Nat
  I : Imm
  s : Sp.SR
  sa : Option Addr
  sp : Nat
  va : Option Addr
  vp : Nat
abbrev ToR (br bm bf : Nat) (s : Sp.SR) (deep : Nat) : Value → Imm → List HItem → Prop := fun v _ H' => v = .tuple #[] ∧ ∃ sa sp va vp, H' = RSt br bm bf s.sc s.back s.m sa sp va vp deep
section
variable (I0 : Imm) (C : Sp.CallR) (br bm bf deep : Nat)
def RStmOk (x : Sp.Stm) : Prop :=
  ∀ (I : Imm) (b o tc : Nat) (cs : List Value) (s : Sp.SR) (sa : Option Addr) (sp : Nat) (va : Option Addr) (vp : Nat), Le I0 I → s.m.steps ≤ 3000 → s.m.ev.length ≤ s.m.steps → s.sc.length + x.cnt ≤ 1000000000 →
    PtrI I b o tc cs → StAt I x cs →
    CalM Tryz.prog 116 #[ptr br, .pointer (some ⟨b, o, none⟩)] I (RSt br bm bf s.sc s.back s.m sa sp va vp deep) (ToR br bm bf (Sp.stmR C x s) deep)
def RBlkOk (l : List Sp.Stm) : Prop :=
  ∀ (I : Imm) (ab : Option Addr) (cb : Nat) (xb : List Value) (s : Sp.SR) (sa : Option Addr) (sp : Nat) (va : Option Addr) (vp : Nat), Le I0 I → s.m.steps ≤ 3000 → s.m.ev.length ≤ s.m.steps → s.sc.length + Sp.stmsCnt l ≤ 1000000000 →
    RowI I 104 15 (.slice ab l.length cb) l.length xb → StsAt I l xb →
    CalM Tryz.prog 86 #[ptr br, .slice ab l.length cb] I (RSt br bm bf s.sc s.back s.m sa sp va vp deep) (ToR br bm bf (Sp.blkR C l s) deep)
end
section
variable {I0 : Imm} {its : List Sp.Itm} {C : Sp.CallR} {br bm bf deep : Nat}
set_option maxHeartbeats 32000000 in
theorem r_block (hC : Sp.CallOk C) (l : List Sp.Stm) (hl : l.length ≤ 64) (hS : ∀ y ∈ l, RStmOk I0 C br bm bf deep y) : RBlkOk I0 C br bm bf deep l := by
  intro I ab cb xb s sa sp va vp hle0 hst hev hsc hr hx
  refine CalM.of fun w E hm => enter (N := 39) Tryz.func86 rfl [(0, ptr br), (1, .slice ab l.length cb)] args2 rfl ?_
  repeat' (first|refine m_load1 hm (k:=?_)|refine op_move (k:=?_)|refine op_assign (k:=?_)|refine op_len_slice (k:=?_)|refine op_nilCheck (k:=?_)|refine op_fieldAddr (k:=?_)|refine wl_nil ?_|refine at_then_normal ?_|refine wc_seq ?_|refine wc_region ?_|refine wc_block ?_)
  all_goals try (exfalso; first | omega | contradiction)
  refine wc_loop (fun x : RsX => [(0, ptr br), (1, .slice ab l.length cb), (4, nt s.sc.length), (12, nt l.length), (13, nt x.k)])
    (fun x w' => Mem E x.I (RSt br bm bf x.s.sc x.s.back x.s.m x.sa x.sp x.va x.vp deep) w' ∧ Le I x.I ∧ x.k ≤ l.length ∧ Sp.goR C l s = Sp.goR C (l.drop x.k) x.s ∧ Sp.SR.To (Sp.stmsCnt (l.take x.k)) s x.s) (fun x => l.length - x.k) ⟨0, I, s, sa, sp, va, vp⟩
    (by exact ⟨rfl, rfl, rfl, rfl, rfl, trivial⟩) ⟨hm, Le.refl _, Nat.zero_le _, rfl, .refl hst, Nat.le_refl _, Nat.le_add_right _ _⟩ ?_
  clear hm
  rintro ⟨k, I1, s1, sa1, sp1, va1, vp1⟩ w1 ⟨hm, hle1, hk, hgo, hto⟩
  dsimp only at hm hle1 hk hgo hto ⊢
  have hrow := hr.le hle1
  have hm1 := hto.m
  have hev1 : s1.m.ev.length ≤ s1.m.steps := by have := hm1.ev; omega
  by_cases hlt : k < l.length
  · have hg : l[k]? = some l[k] := List.getElem?_eq_getElem hlt
    rw [List.drop_eq_getElem_cons hlt, Sp.goR] at hgo
    have hmem := List.getElem_mem hlt
    obtain ⟨cs, hcs⟩ : ∃ cs, cs = (xb.drop (k * 15)).take 15 := ⟨_, rfl⟩
    have hat := hx.get hg
    rw [← hcs] at hat
    have hSk := hS _ hmem
    generalize l[k] = y at hg hgo hat hSk
    have hcy := Sp.stmsCnt_take_le hg
    have hhi := hto.hi
    by_cases he : s1.m.err ≠ 0
    · rw [if_pos he] at hgo
      have hfin : Sp.blkR C l s = s1 := by rw [Sp.blkR, hgo, Sp.shutR, if_neg (by simp)]
      rw [hfin]
      repeat' (first|refine m_load1 hm (k:=?_)|refine op_move (k:=?_)|refine op_assign (k:=?_)|refine op_lss (k:=?_)|refine op_neq (k:=?_)|refine op_nilCheck (k:=?_)|refine op_fieldAddr (k:=?_)|refine wl_nil ?_|refine at_then_normal ?_|refine at_then_ret ?_|refine at_block_ret ?_|refine wc_seq ?_|refine wc_region ?_|refine wc_block ?_|refine wc_skip ?_|refine wc_ret ?_|refine at_ret0 (h:=?_)|(refine wc_cond_dec (ht:=fun _ => ?_) (hf:=fun _ => ?_)<;> (try first | contradiction | (exfalso; omega))))
      all_goals try (exfalso; first | omega | contradiction)
      exact ⟨I1, _, ⟨rfl, sa1, sp1, va1, vp1, rfl⟩, hm⟩
    · rw [if_neg he] at hgo
      have he0 : s1.m.err = 0 := by omega
      have hcl := fun b o (hpt : PtrI I1 b o 104 cs) => hSk I1 b o 104 cs s1 sa1 sp1 va1 vp1 (hle0.trans hle1) hm1.top hev1 (by omega) hpt (StAt.le hle1 _ _ hat)
      have hty := Sp.stmR_to hC y s1 hm1.top
      have hcs1 : Sp.stmsCnt (l.take (k + 1)) = Sp.stmsCnt (l.take k) + y.cnt := by rw [Sp.take_succ_get hg, Sp.stmsCnt_app, Sp.stmsCnt_one]
      generalize Sp.stmR C y s1 = s2 at hcl hgo hty
      repeat' (first|(refine i_indexAddr (d:=27) (hr:=hrow) (k:=?_); intro bt ot hpt; rw [show ((k : Int).toNat * 15) = k * 15 from rfl, ← hcs] at hpt)|(refine m_call (d:=28) hm (hp:=pmR4) (hc:=hcl _ _ hpt) (k:=?_); clear hm; rintro _ I2 _ _ ⟨rfl, sa2, sp2, va2, vp2, rfl⟩ hleI2 hm; try simp only [setn] at hm)|refine m_load1 hm (k:=?_)|refine op_move (k:=?_)|refine op_assign (k:=?_)|refine op_lss (k:=?_)|refine op_neq (k:=?_)|refine op_nilCheck (k:=?_)|refine op_add (k:=?_)|refine op_fieldAddr (k:=?_)|refine wl_nil ?_|refine at_then_normal ?_|refine at_block_normal ?_|refine wc_seq ?_|refine wc_region ?_|refine wc_block ?_|refine wc_skip ?_|(refine wc_cond_dec (ht:=fun _ => ?_) (hf:=fun _ => ?_)<;> (try first | contradiction | (exfalso; omega))))
      all_goals try (exfalso; first | omega | contradiction)
      exact at_round (⟨k + 1, I2, s2, sa2, sp2, va2, vp2⟩ : RsX) (by exact ⟨rfl, rfl, rfl, rfl, rfl, trivial⟩)
        ⟨hm, hle1.trans hleI2, by dsimp only; omega, hgo, ⟨hm1.trans hty.m, by have := hto.lo; have := hty.lo; dsimp only; omega, by have := hty.hi; dsimp only; omega⟩⟩ (by dsimp only; omega)
  · obtain rfl : k = l.length := by omega
    rw [List.drop_length, Sp.goR] at hgo
    have hlo := hto.lo
    have hfin : Sp.blkR C l s = { s1 with sc := s1.sc.take s.sc.length } := by rw [Sp.blkR, hgo, Sp.shutR, if_pos rfl]
    rw [hfin]
    have htl : (s1.sc.take s.sc.length).length = s.sc.length := by rw [List.length_take]; omega
    repeat' (first|(refine m_sliceTo (d:=36) hm (hmn:=hlo) (k:=?_); clear hm; intro hm; try simp only [setn] at hm)|refine m_load1 hm (k:=?_)|(refine m_store1 hm (k:=?_); clear hm; intro _ hm; try simp only [setn] at hm)|refine op_move (k:=?_)|refine op_lss (k:=?_)|refine op_nilCheck (k:=?_)|refine op_fieldAddr (k:=?_)|refine wl_nil ?_|refine at_then_normal ?_|refine at_then_exit ?_|refine at_block_exit ?_|refine wc_seq ?_|refine wc_region ?_|refine wc_exit ?_|refine at_end0 (h:=?_)|(refine wc_cond_dec (ht:=fun _ => ?_) (hf:=fun _ => ?_)<;> (try first | contradiction | (exfalso; omega))))
    all_goals try (exfalso; first | omega | contradiction)
    refine ⟨I1, _, ⟨rfl, sa1, sp1, va1, vp1, ?_⟩, hm⟩
    have e : (s1.sc.flatMap encCl).take (s.sc.length * 2) = (s1.sc.take s.sc.length).flatMap encCl := by
      have key : ∀ (l : List Sp.Cl) (n : Nat), (l.flatMap encCl).take (n * 2) = (l.take n).flatMap encCl := by
        intro l
        induction l with
        | nil => intro n; simp
        | cons x l ih =>
          intro n
          cases n with
          | zero => simp
          | succ n =>
            rw [List.flatMap_cons, List.take_succ_cons, List.flatMap_cons, show (n + 1) * 2 = 2 + n * 2 by omega, List.take_append, List.take_of_length_le (by show 2 ≤ 2 + n * 2; omega), show 2 + n * 2 - (encCl x).length = n * 2 by (show 2 + n * 2 - 2 = n * 2; omega), ih]
      exact key _ _
    dsimp only [RSt, fCell, scRow]
    rw [e, htl]
set_option maxHeartbeats 64000000 in
theorem r_while (hW : CallW I0 its C bm bf deep) (hC : Sp.CallOk C) (x : Sp.Stm) (hsm : x.small) (hok : x.e.all (Sp.okE its)) (hT : RBlkOk I0 C br bm bf deep x.thn) (k4 : x.kind = 4) : RStmOk I0 C br bm bf deep x := by
  intro I b o tc cs s sa sp va vp hle0 hst hev hsc hp hx
  refine CalM.of fun w E hm => enter (N := 135) Tryz.func116 rfl [(0, ptr br), (1, .pointer (some ⟨b, o, none⟩))] args2 rfl ?_
  obtain ⟨s1, s2, s3, s4, s5⟩ := Sp.small_parts hsm
  have hcn := Sp.Stm.cnt_eq x
  obtain ⟨ea, ec, ex, a1', c1, xs1, a2', c2, xs2, rfl, hr3, hx3, hr4, hx4, hr5, hx5⟩ := hx.out
  rw [Sp.stmR_eq, if_pos k4]
  generalize hfin : Sp.loopR (fun sc m => Sp.exR C sc x.e m) (Sp.blkR C x.thn) 3001 s = fin
  have hbt : Sp.BlkTo (Sp.stmsCnt x.thn) (Sp.blkR C x.thn) := fun s h => Sp.blkR_to hC x.thn s h
  repeat' (first|refine i_load1 hm (k:=?_)|refine op_move (k:=?_)|refine op_eql (k:=?_)|refine op_nilCheck (k:=?_)|refine op_fieldAddr (k:=?_)|refine wl_nil ?_|refine at_then_normal ?_|refine wc_seq ?_|refine wc_region ?_|refine wc_block ?_|(refine wc_cond_dec (ht:=fun _ => ?_) (hf:=fun _ => ?_)<;> (try first | contradiction | (exfalso; omega))))
  all_goals try (exfalso; first | omega | contradiction)
  refine wc_loop (fun _ : RsX => [(0, ptr br), (1, .pointer (some ⟨b, o, none⟩))])
    (fun y w' => Mem E y.I (RSt br bm bf y.s.sc y.s.back y.s.m y.sa y.sp y.va y.vp deep) w' ∧ Le I y.I ∧ 3000 < y.k + y.s.m.steps ∧ fin = Sp.loopR (fun sc m => Sp.exR C sc x.e m) (Sp.blkR C x.thn) y.k y.s ∧
      s.m.To y.s.m ∧ (y.s.m.err = 0 → y.s.sc.length = s.sc.length)) (fun y => 3001 - y.s.m.steps) ⟨3001, I, s, sa, sp, va, vp⟩
    (by exact ⟨rfl, rfl, trivial⟩) ⟨hm, Le.refl _, by dsimp only; omega, hfin.symm, .refl hst, fun _ => rfl⟩ ?_
  clear hm
  rintro ⟨j, I1, y, sa1, sp1, va1, vp1⟩ w1 ⟨hm, hle1, hj, hlp, hto, hln⟩
  dsimp only at hm hle1 hj hlp hto hln ⊢
  have hst1 := hto.top
  have hev1 : y.m.ev.length ≤ y.m.steps := by have := hto.ev; omega
  obtain ⟨j, rfl⟩ : ∃ i, j = i + 1 := ⟨j - 1, by omega⟩
  have hp1 := hp.le hle1
  have hS := fun (J : Imm) => r_step (bm := bm) (bf := bf) (m := y.m) (ea := va1) (ep := vp1) (deep := deep) hst1 J
  have hstt := Sp.step_to hst1
  have hse := Sp.step_ev y.m
  have hgg := @Sp.step_go y.m
  rw [Sp.loopR] at hlp
  obtain ⟨sc, back, m⟩ := y
  dsimp only at hm hj hlp hto hln hst1 hev1 hS hstt hse hgg
  generalize hm1 : m.step = m1 at hS hstt hse hlp hgg
  have hevr : evRow m1 va1 vp1 = evRow m va1 vp1 := by unfold evRow; rw [hse]
  have hev2 : m1.ev.length ≤ m1.steps := by have := hstt.ev; omega
  cases hgo : m.go with
  | false =>
    rw [hgo, if_pos rfl] at hlp
    rw [hgo] at hS
    rw [hlp]
    repeat' (first|(refine m_call (d:=14) hm (hp:=pm1_2) (hc:=hS _) (k:=?_); clear hm; rintro _ I2 _ _ ⟨rfl, rfl⟩ hleI2 hm; try simp only [setn] at hm; rw [← hevr] at hm)|refine m_load1 hm (k:=?_)|refine op_move (k:=?_)|refine op_pick_false (k:=?_)|refine op_nilCheck (k:=?_)|refine op_fieldAddr (k:=?_)|refine wl_skip (k:=?_)|refine wl_nil ?_|refine at_then_normal ?_|refine at_then_ret ?_|refine at_then_exit ?_|refine at_block_exit ?_|refine wc_seq ?_|refine wc_region ?_|refine wc_exit ?_|refine wc_ret ?_|refine at_ret0 (h:=?_)|refine wc_cond_false (hf:=?_))
    all_goals try (exfalso; first | omega | contradiction)
    exact ⟨I2, _, ⟨rfl, sa1, sp1, va1, vp1, rfl⟩, hm.perm pm2_1⟩
  | true =>
  rw [hgo, if_neg (by simp)] at hlp
  rw [hgo] at hS
  obtain ⟨hg1, hg2, hg3⟩ := hgg hgo
  have hsl := hln hg2
  have hE := fun (J : Imm) (mm : Le I1 J) (b o tc : Nat) (hpt : PtrI J b o tc (exCells x.e ea ec)) => r_expr (br := br) hW hC _ x.e (Nat.le_refl _) s1 hok J b o tc ea ec ex sc back m1 sa1 sp1 va1 vp1 ((hle0.trans hle1).trans mm) hstt.top hev2 (by omega) hpt ((hr3.le hle1).le mm) (ExsAt.le mm _ _ (ExsAt.le hle1 _ _ hx3))
  have hte := Sp.exR_to hC sc x.e m1 hstt.top
  generalize Sp.exR C sc x.e m1 = r at hE hlp hte
  have hev3 : r.2.ev.length ≤ r.2.steps := by have := hte.ev; omega
  have hpe := fun (J : Imm) (mm : Le I1 J) => stE_subR (hp1.le mm)
  by_cases hn : r.1 = 0
  · rw [if_neg (fun h => h.1 hn)] at hlp
    rw [hlp]
    rw [hn] at hE
    repeat' (first|(refine m_call (d:=14) hm (hp:=pm1_2) (hc:=hS _) (k:=?_); clear hm; rintro _ I2 _ _ ⟨rfl, rfl⟩ hleI2 hm; try simp only [setn] at hm; rw [← hevr] at hm; replace hm := hm.perm pm2_1; have hp2 := hp1.le hleI2)|(refine m_call (d:=20) hm (hp:=pmR4) (hc:=hE I2 hleI2 _ _ _ (hpe _ hleI2)) (k:=?_); clear hm; rintro _ I3 _ _ ⟨rfl, va3, vp3, rfl⟩ hleI3 hm; try simp only [setn] at hm)|refine m_load1 hm (k:=?_)|refine op_move (k:=?_)|refine op_pick_true (k:=?_)|refine op_pick_false (k:=?_)|refine op_neq (k:=?_)|refine op_nilCheck (k:=?_)|refine op_fieldAddr (k:=?_)|refine wl_skip (k:=?_)|refine wl_nil ?_|refine at_then_normal ?_|refine at_then_ret ?_|refine at_then_exit ?_|refine at_block_exit ?_|refine wc_seq ?_|refine wc_region ?_|refine wc_exit ?_|refine wc_ret ?_|refine at_ret0 (h:=?_)|refine wc_cond_false (hf:=?_))
    all_goals try (exfalso; first | omega | contradiction)
    exact ⟨I3, _, ⟨rfl, sa1, sp1, va3, vp3, rfl⟩, hm⟩
  by_cases he : r.2.err = 0
  · rw [if_pos ⟨hn, he⟩] at hlp
    have hB := fun (J : Imm) (mm : Le I1 J) (va : Option Addr) (vp : Nat) => hT J a1' c1 xs1 ⟨sc, back, r.2⟩ sa1 sp1 va vp ((hle0.trans hle1).trans mm) hte.top hev3 (by dsimp only; omega) ((hr4.le hle1).le mm) (StsAt.le mm _ _ (StsAt.le hle1 _ _ hx4))
    dsimp only at hB
    have htb := hbt ⟨sc, back, r.2⟩ hte.top
    generalize Sp.blkR C x.thn ⟨sc, back, r.2⟩ = s9 at hB hlp htb
    dsimp only at htb
    repeat' (first|(refine m_call (d:=14) hm (hp:=pm1_2) (hc:=hS _) (k:=?_); clear hm; rintro _ I2 _ _ ⟨rfl, rfl⟩ hleI2 hm; try simp only [setn] at hm; rw [← hevr] at hm; replace hm := hm.perm pm2_1; have hp2 := hp1.le hleI2)|(refine m_call (d:=20) hm (hp:=pmR4) (hc:=hE I2 hleI2 _ _ _ (hpe _ hleI2)) (k:=?_); clear hm; rintro _ I3 _ _ ⟨rfl, va3, vp3, rfl⟩ hleI3 hm; try simp only [setn] at hm; have hp3 := hp2.le hleI3)|(refine m_call (d:=38) hm (hp:=pmR4) (hc:=hB I3 (hleI2.trans hleI3) va3 vp3) (k:=?_); clear hm; rintro _ I4 _ _ ⟨rfl, sa4, sp4, va4, vp4, rfl⟩ hleI4 hm; try simp only [setn] at hm)|refine m_load1 hm (k:=?_)|refine i_load1 hm (k:=?_)|refine op_move (k:=?_)|refine op_pick_true (k:=?_)|refine op_eql (k:=?_)|refine op_neq (k:=?_)|refine op_nilCheck (k:=?_)|refine op_fieldAddr (k:=?_)|(refine wl_split_dec (h1:=fun _ => ?_) (h0:=fun _ => ?_)<;> (try first | contradiction | (exfalso; omega)))|refine wl_nil ?_|refine at_then_normal ?_|refine at_block_normal ?_|refine wc_seq ?_|refine wc_region ?_|refine wc_block ?_|refine wc_skip ?_|(refine wc_cond_dec (ht:=fun _ => ?_) (hf:=fun _ => ?_)<;> (try first | contradiction | (exfalso; omega))))
    all_goals try (exfalso; first | omega | contradiction)
    have hup := hte.up
    have hup2 := htb.1.m.up
    have hup3 : m1.steps = m.steps + 1 := by rw [hg1]
    exact at_round (⟨j, I4, s9, sa4, sp4, va4, vp4⟩ : RsX) (by exact ⟨rfl, rfl, trivial⟩)
      ⟨hm, ((hle1.trans hleI2).trans hleI3).trans hleI4, by dsimp only at hup2 ⊢; omega, hlp, ((hto.trans hstt).trans hte).trans htb.1.m, fun h => by have := htb.2 h; dsimp only at this ⊢; omega⟩ (by dsimp only at hup2 ⊢; omega)
  · rw [if_neg (fun h => he h.2)] at hlp
    rw [hlp]
    repeat' (first|(refine m_call (d:=14) hm (hp:=pm1_2) (hc:=hS _) (k:=?_); clear hm; rintro _ I2 _ _ ⟨rfl, rfl⟩ hleI2 hm; try simp only [setn] at hm; rw [← hevr] at hm; replace hm := hm.perm pm2_1; have hp2 := hp1.le hleI2)|(refine m_call (d:=20) hm (hp:=pmR4) (hc:=hE I2 hleI2 _ _ _ (hpe _ hleI2)) (k:=?_); clear hm; rintro _ I3 _ _ ⟨rfl, va3, vp3, rfl⟩ hleI3 hm; try simp only [setn] at hm)|refine m_load1 hm (k:=?_)|refine op_move (k:=?_)|refine op_pick_true (k:=?_)|refine op_eql (k:=?_)|refine op_neq (k:=?_)|refine op_nilCheck (k:=?_)|refine op_fieldAddr (k:=?_)|(refine wl_split_dec (h1:=fun _ => ?_) (h0:=fun _ => ?_)<;> (try first | contradiction | (exfalso; omega)))|refine wl_nil ?_|refine at_then_normal ?_|refine at_then_ret ?_|refine at_then_exit ?_|refine at_block_exit ?_|refine wc_seq ?_|refine wc_region ?_|refine wc_exit ?_|refine wc_ret ?_|refine at_ret0 (h:=?_)|(refine wc_cond_dec (ht:=fun _ => ?_) (hf:=fun _ => ?_)<;> (try first | contradiction | (exfalso; omega))))
    all_goals try (exfalso; first | omega | contradiction)
    exact ⟨I3, _, ⟨rfl, sa1, sp1, va3, vp3, rfl⟩, hm⟩
end
end Go.Proofs.YthmdffgiockcbaaGreatDoor
end
