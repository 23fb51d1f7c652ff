/- Own work: texts SpecStand, SpecStand2, SpecFlow2, NsA, NsB, FwMap2, FwMap3, RnA, FwFork, FwNil, NsC, one behind the other. -/
import Derived.Test.YtkbiakajlfmakaaGreatDoorFt18
import Derived.Maps.RangeRun
section
namespace Go.Sp
/-- a name stands there. -/
def stands (s : List UInt8) (a : Nat) (n : List UInt8) : Prop := a + n.length ≤ s.length ∧ (s.drop a).take n.length = n
def stE (s : List UInt8) : PE := fun k nm _ _ f _ => (k = 2 ∨ k = 4) → stands s f nm
def stS (s : List UInt8) : PS := fun k nm a _ _ _ _ => (k = 1 ∨ k = 2 ∨ k = 5) → stands s a nm
/-- names of an item stand in the text. -/
structure ItS (s : List UInt8) (p : Nat) (q : List UInt8) (it : Itm) : Prop where
  at_ : it.at_ = p
  sub : ∀ a n, stands q a n → stands s (p + a) n
  body : stmsAll (stE q) (stS q) it.body
  params : ∀ x ∈ it.params, stands q x.at_ x.name
  sends : ∀ x ∈ it.sends, stands q x.at_ x.name
  mark : stands q it.mark it.name
def ItS0 (s : List UInt8) (it : Itm) : Prop := ∃ p q, ItS s p q it
/-- a use: the name stands there, and where it is made. -/
def UseOk (s : List UInt8) (u : Us) : Prop := ∃ f d n, u.fr = ((f : Nat) : Int) ∧ u.to = ((f + n.length : Nat) : Int) ∧ u.df = ((d : Nat) : Int) ∧ n ≠ [] ∧ stands s f n ∧ stands s d n
def NW.ok (s : List UInt8) (w : NW) : Prop := ∀ u ∈ w.us, UseOk s u
end Go.Sp
end
section
namespace Go.Sp
section
variable {s q : List UInt8} {p : Nat} {its : List Itm} {sc : List Lc}
end
end Go.Sp
end
section
namespace Go.Sp
theorem itNo_mem {its : List Itm} {i : Nat} (h : i < its.length) : itNo its i ∈ its := by
  rw [itNo, List.getD_eq_getElem?_getD, List.getElem?_eq_getElem h]; exact List.getElem_mem h
theorem itNo_get {its : List Itm} {i : Nat} (h : i < its.length) : its[i]? = some (itNo its i) := by
  rw [itNo, List.getD_eq_getElem?_getD, List.getElem?_eq_getElem h]; rfl
/-- the second has channels' labels that are as great at least. -/
structure Up (its its' : List Itm) : Prop where
  len : its'.length = its.length
  kind : ∀ j, (itNo its' j).kind = (itNo its j).kind
  name : ∀ j, (itNo its' j).name = (itNo its j).name
  params : ∀ j, (itNo its' j).params = (itNo its j).params
  sends : ∀ j, (itNo its' j).sends = (itNo its j).sends
  body : ∀ j, (itNo its' j).body = (itNo its j).body
  own : ∀ j, (itNo its j).kind ≠ 1 → (itNo its' j).label = (itNo its j).label
  up : ∀ j a, flows a (itNo its j).label = true → flows a (itNo its' j).label = true
theorem Up.find {its its' : List Itm} (h : Up its its') (k : Int) (n : List UInt8) : findIt its' k n = findIt its k n := by
  have e : ∀ j (h1 : j < its'.length) (h2 : j < its.length), itIs k n its'[j] = itIs k n its[j] := fun j h1 h2 => by
    have a1 := h.kind j
    have a2 := h.name j
    have e1 : itNo its' j = its'[j] := by have := itNo_get h1; rw [List.getElem?_eq_getElem h1] at this; exact (Option.some.inj this).symm
    have e2 : itNo its j = its[j] := by have := itNo_get h2; rw [List.getElem?_eq_getElem h2] at this; exact (Option.some.inj this).symm
    rw [e1, e2] at a1 a2
    rw [itIs, itIs, a1, a2]
  have hl := h.len
  rw [findIt, findIt]
  cases hf : its.findIdx? (itIs k n) with
  | none =>
    rw [List.findIdx?_eq_none_iff] at hf ⊢
    intro x hx
    obtain ⟨j, hj, rfl⟩ := List.getElem_of_mem hx
    rw [e j hj (by omega)]
    exact hf _ (List.getElem_mem _)
  | some j =>
    rw [List.findIdx?_eq_some_iff_getElem] at hf ⊢
    obtain ⟨h1, h2, h3⟩ := hf
    exact ⟨by omega, by rw [e j (by omega) h1]; exact h2, fun i hi => by rw [e i (by omega) (by omega)]; exact h3 i hi⟩
theorem Up.callLab {its its' : List Itm} (h : Up its its') (n : List UInt8) : callLab its' n = callLab its n := by
  rw [Sp.callLab, Sp.callLab, h.find]
  split
  · rename_i j hj
    exact h.own j (by have := (findIt_lt hj).2.1; omega)
  · rfl
theorem Up.meet {its its' : List Itm} (h : Up its its') (l : List Rf) (a : Nat) (hf : flows a (meetF its l) = true) : flows a (meetF its' l) = true := by
  have key : ∀ (l : List Rf) (n n' : Nat), (flows a n = true → flows a n' = true) → flows a (l.foldl (meetStep its) n) = true → flows a (l.foldl (meetStep its') n') = true := by
    intro l
    induction l with
    | nil => intro n n' h1 h2; exact h1 h2
    | cons x l ih =>
      intro n n' h1 h2
      rw [List.foldl_cons] at h2 ⊢
      refine ih _ _ (fun h3 => ?_) h2
      rw [meetStep] at h3 ⊢
      rw [h.find]
      cases hx : findIt its 1 x.name with
      | none => rw [hx] at h3; exact h1 h3
      | some j =>
        rw [hx] at h3
        dsimp only at h3 ⊢
        rw [flows_and, Bool.and_eq_true] at h3 ⊢
        exact ⟨h1 h3.1, h.up j a h3.2⟩
  exact key l 255 255 id hf
theorem ask_up {s : FW} {a b b' f t : Nat} {n : List UInt8} (h : flows a b = true → flows a b' = true) (h0 : (s.ask a b f t n).ds = []) : s.ask a b' f t n = s.ask a b f t n := by
  rw [FW.ask] at h0 ⊢
  rw [FW.ask]
  split at h0
  · rename_i hf; rw [if_pos (h hf), if_pos hf]
  · simp [FW.tell] at h0
theorem nil_of {α : Type} {l r : List α} (h : l.length ≤ r.length) (h0 : r = []) : l = [] := by
  rw [h0] at h; exact List.length_eq_zero_iff.1 (by simpa using h)
theorem Up.askFloor {its its' : List Itm} (h : Up its its') (un : Nat) (n : List UInt8) (f t : Nat) (s : FW) (h0 : (askFloor its un n f t s).ds = []) : askFloor its' un n f t s = askFloor its un n f t s := by
  rw [Sp.askFloor] at h0 ⊢
  rw [Sp.askFloor, h.find]
  split
  · rename_i j hj
    rw [hj] at h0
    rw [h.sends]
    exact ask_up (h.meet _ _) h0
  · rfl
theorem Up.askArg {its its' : List Itm} (h : Up its its') (n : List UInt8) (i a f t : Nat) (s : FW) : askArg its' n i a f t s = askArg its n i a f t s := by
  rw [Sp.askArg, Sp.askArg, h.find]
  split
  · rw [h.params]
  · rfl
theorem Up.askCh {its its' : List Itm} (h : Up its its') (a : Nat) (n : List UInt8) (f t : Nat) (s : FW) (h0 : (askCh its a n f t s).ds = []) : askCh its' a n f t s = askCh its a n f t s := by
  rw [Sp.askCh] at h0 ⊢
  rw [Sp.askCh, h.find]
  split
  · rename_i j hj
    rw [hj] at h0
    exact ask_up (h.up j a) h0
  · rfl
mutual
theorem Up.exF {its its' : List Itm} (h : Up its its') (at_ : Int) (sc : List Lc) (un : Nat) : ∀ (e : Ex) (s : FW), (Sp.exF its at_ sc un e s).2.ds = [] → Sp.exF its' at_ sc un e s = Sp.exF its at_ sc un e s
  | .mk k nm n args f t, s, h0 => by
    rw [Sp.exF] at h0 ⊢
    rw [Sp.exF, h.callLab]
    split
    · rfl
    · rename_i hk
      rw [if_neg hk] at h0
      split
      · rename_i hk3
        rw [if_pos hk3] at h0
        dsimp only at h0
        rw [hit_ds] at h0
        rw [Up.opsF h at_ sc un args 0 s h0]
      · rename_i hk3
        rw [if_neg hk3] at h0
        split
        · rename_i hk4
          rw [if_pos hk4] at h0
          dsimp only at h0
          rw [hit_ds] at h0
          have h1 := nil_of (askFloor_n its un nm f t (Sp.argsF its at_ sc un nm args 0 s)).1 h0
          rw [Up.argsF h at_ sc un nm args 0 s h1, h.askFloor un nm f t _ h0]
        · rfl
theorem Up.opsF {its its' : List Itm} (h : Up its its') (at_ : Int) (sc : List Lc) (un : Nat) : ∀ (l : List Ex) (n : Nat) (s : FW), (Sp.opsF its at_ sc un l n s).2.ds = [] → Sp.opsF its' at_ sc un l n s = Sp.opsF its at_ sc un l n s
  | [], n, s, h0 => by rw [Sp.opsF, Sp.opsF]
  | e :: l, n, s, h0 => by
    rw [Sp.opsF] at h0 ⊢
    rw [Sp.opsF]
    have h1 := nil_of (opsF_n its at_ sc un l (n ||| (Sp.exF its at_ sc un e s).1) (Sp.exF its at_ sc un e s).2).1 h0
    rw [Up.exF h at_ sc un e s h1]
    exact Up.opsF h at_ sc un l _ _ h0
theorem Up.argsF {its its' : List Itm} (h : Up its its') (at_ : Int) (sc : List Lc) (un : Nat) (nm : List UInt8) : ∀ (l : List Ex) (i : Nat) (s : FW), (Sp.argsF its at_ sc un nm l i s).ds = [] → Sp.argsF its' at_ sc un nm l i s = Sp.argsF its at_ sc un nm l i s
  | [], i, s, h0 => by rw [Sp.argsF, Sp.argsF]
  | e :: l, i, s, h0 => by
    rw [Sp.argsF] at h0 ⊢
    rw [Sp.argsF]
    have h1 := nil_of (argsF_n its at_ sc un nm l (i + 1) _).1 h0
    have h2 := nil_of (askArg_n its nm i ((Sp.exF its at_ sc un e s).1 ||| un) e.fr e.to (Sp.exF its at_ sc un e s).2).1 h1
    rw [Up.exF h at_ sc un e s h2, h.askArg]
    exact Up.argsF h at_ sc un nm l _ _ h0
 end
mutual
theorem Up.plainF {its its' : List Itm} (h : Up its its') (sc : List Lc) : ∀ (e : Ex), Sp.plainF its' sc e = Sp.plainF its sc e
  | .mk k nm n args f t => by rw [Sp.plainF, Sp.plainF, h.callLab, Up.plainsF h sc args 0]
theorem Up.plainsF {its its' : List Itm} (h : Up its its') (sc : List Lc) : ∀ (l : List Ex) (n : Nat), Sp.plainsF its' sc l n = Sp.plainsF its sc l n
  | [], n => by rw [Sp.plainsF, Sp.plainsF]
  | e :: l, n => by rw [Sp.plainsF, Sp.plainsF, Up.plainF h sc e, Up.plainsF h sc l]
 end
mutual
theorem Up.stmF {its its' : List Itm} (h : Up its its') (own : Nat) (at_ : Int) : ∀ (x : Stm) (sc : List Lc) (un : Nat) (s : FW), (Sp.stmF its own at_ x sc un s).2.ds = [] → Sp.stmF its' own at_ x sc un s = Sp.stmF its own at_ x sc un s
  | .mk k nm a lb o e thn els f t, sc, un, s, h0 => by
    have hu : unF its' sc k un e = unF its sc k un e := by rw [unF, unF, h.plainF]
    rw [Sp.stmF] at h0 ⊢
    rw [Sp.stmF, hu]
    try dsimp only at h0 ⊢
    generalize unF its sc k un e = un1 at h0 ⊢
    have he := Up.exF h at_ sc un1 e s
    have hn := exF_n its at_ sc un1 e s
    split
    · rename_i k1
      rw [if_pos k1] at h0
      dsimp only at h0
      rw [he (nil_of (ask_n _ _ _ _ _ _).1 h0)]
    · rename_i k1
      rw [if_neg k1] at h0
      split
      · rename_i k2
        rw [if_pos k2] at h0
        dsimp only at h0
        rw [he (nil_of (ask_n _ _ _ _ _ _).1 h0)]
      · rename_i k2
        rw [if_neg k2] at h0
        split
        · rename_i k5
          rw [if_pos k5] at h0
          dsimp only at h0
          rw [he (nil_of (askCh_n _ _ _ _ _ _).1 h0), h.askCh _ _ _ _ _ h0]
        · rename_i k5
          rw [if_neg k5] at h0
          split
          · rename_i k6
            rw [if_pos k6] at h0
            dsimp only at h0
            rw [he (nil_of (ask_n _ _ _ _ _ _).1 h0)]
          · rename_i k6
            rw [if_neg k6] at h0
            split
            · rename_i k3
              rw [if_pos k3] at h0
              dsimp only at h0
              have h1 := nil_of (stmsF_n its own at_ els sc _ _).1 h0
              have h2 := nil_of (stmsF_n its own at_ thn sc _ _).1 h1
              rw [he h2, Up.stmsF h own at_ thn sc _ _ h1, Up.stmsF h own at_ els sc _ _ h0]
            · rename_i k3
              rw [if_neg k3] at h0
              dsimp only at h0
              rw [he h0]
theorem Up.stmsF {its its' : List Itm} (h : Up its its') (own : Nat) (at_ : Int) : ∀ (l : List Stm) (sc : List Lc) (un : Nat) (s : FW), (Sp.stmsF its own at_ l sc un s).2.ds = [] → Sp.stmsF its' own at_ l sc un s = Sp.stmsF its own at_ l sc un s
  | [], sc, un, s, h0 => by rw [Sp.stmsF, Sp.stmsF]
  | x :: l, sc, un, s, h0 => by
    rw [Sp.stmsF] at h0 ⊢
    rw [Sp.stmsF]
    have h1 := nil_of (stmsF_n its own at_ l (Sp.stmF its own at_ x sc un s).1 un (Sp.stmF its own at_ x sc un s).2).1 h0
    rw [Up.stmF h own at_ x sc un s h1]
    exact Up.stmsF h own at_ l _ _ _ h0
 end
end Go.Sp
end
section
namespace Go.Sp
end Go.Sp
namespace Go.Fw
end Go.Fw
namespace Go.Proofs.YtkbiakajlfmakaaGreatDoor
open Go.Fw
abbrev encLn (l : Sp.Lc) : List Value := [str l.name, nt l.at_]
/-- what does not turn of it. -/
structure NRd (J : Imm) (bc bf : Nat) (pi : Value) (sc : List Sp.Lc) (sa : Option Addr) (sp : Nat) (v3 v4 : Value) : Prop where
  ptr : PtrI J bc 0 75 [ptr bf, pi, .slice sa sc.length sp, v3, v4]
  row : RowI J 142 2 (.slice sa sc.length sp) sc.length (sc.flatMap encLn)
theorem NRd.le {I J : Imm} (m : Le I J) {bc bf : Nat} {pi : Value} {sc : List Sp.Lc} {sa : Option Addr} {sp : Nat} {v3 v4 : Value} (h : NRd I bc bf pi sc sa sp v3 v4) : NRd J bc bf pi sc sa sp v3 v4 := ⟨h.ptr.le m, h.row.le m⟩
/-- what does not turn beside it; the text. -/
structure NC (I : Imm) (src : List UInt8) (p : Nat) (q : List UInt8) (its : List Sp.Itm) (it : Sp.Itm) (bf : Nat) (a : Option Addr) (cp : Nat) (xs : List Value) (pi : Value) : Prop where
  file : PtrI I bf 0 24 [.slice a its.length cp]
  fe : FE I its a cp xs
  item : ∃ bi oi tc ci, pi = .pointer (some ⟨bi, oi, none⟩) ∧ PtrI I bi oi tc ci ∧ ItAt I it ci
  len : src.length ≤ 4000
  st : Sp.ItS src p q it
  sts : ∀ x ∈ its, Sp.ItS0 src x
theorem NC.le {I J : Imm} (m : Le I J) {src : List UInt8} {p : Nat} {q : List UInt8} {its : List Sp.Itm} {it : Sp.Itm} {bf : Nat} {a : Option Addr} {cp : Nat} {xs : List Value} {pi : Value} (h : NC I src p q its it bf a cp xs pi) : NC J src p q its it bf a cp xs pi := by
  obtain ⟨h1, h2, ⟨bi, oi, tc, ci, e, h3, h4⟩, h5, h6, h7⟩ := h
  exact ⟨h1.le m, h2.le m, ⟨bi, oi, tc, ci, e, h3.le m, h4.le m⟩, h5, h6, h7⟩
section
variable {I : Imm} {bc bf sp dp up : Nat} {pi : Value} {sc : List Sp.Lc} {sa da ua : Option Addr} {s : Sp.NW}
end
end Go.Proofs.YtkbiakajlfmakaaGreatDoor
end
section
namespace Go.Sp
end Go.Sp
namespace Go.Proofs.YtkbiakajlfmakaaGreatDoor
open Go.Fw
section
variable {I : Imm} {bc bf sp dp up : Nat} {pi : Value} {sc : List Sp.Lc} {sa da ua : Option Addr} {s : Sp.NW}
variable {src : List UInt8} {p : Nat} {q : List UInt8} {its : List Sp.Itm} {it : Sp.Itm} {a : Option Addr} {cp : Nat} {xs : List Value}
end
end Go.Proofs.YtkbiakajlfmakaaGreatDoor
end
section
namespace Go.Fw
open Go
def mput (es : Ents) (s : List UInt8) (v : Value) : Ents := match es.findIdx? (fun p => decide (p.1 = s)) with
  | some i => es.set i (s, v)
  | none => es ++ [(s, v)]
theorem ents_modify (es : Ents) (i : Nat) (s : List UInt8) (v : Value) : (entsOf es 0).toArray.modify i (fun e => { e with key := str s, val := v }) = (entsOf (es.set i (s, v)) 0).toArray := by
  apply Array.ext_getElem?
  intro j
  rw [Array.getElem?_modify]
  simp only [entsOf, List.getElem?_toArray, List.getElem?_map, List.getElem?_zipIdx, List.getElem?_set]
  by_cases h : i = j
  · subst h
    rw [if_pos rfl, if_pos rfl]
    by_cases h2 : i < es.length
    · rw [if_pos h2, List.getElem?_eq_getElem h2]; rfl
    · rw [if_neg h2, List.getElem?_eq_none (by omega)]; rfl
  · rw [if_neg h, if_neg h]
theorem mput_nodup {es : Ents} {s : List UInt8} {v : Value} (h : (es.map (·.1)).Nodup) : ((mput es s v).map (·.1)).Nodup := by
  rw [mput]
  cases hf : es.findIdx? (fun p => decide (p.1 = s)) with
  | some i =>
    obtain ⟨hi, hs, _⟩ := List.findIdx?_eq_some_iff_getElem.1 hf
    have hs' : es[i].1 = s := by simpa using hs
    have : (es.set i (s, v)).map (·.1) = es.map (·.1) := by
      apply List.ext_getElem?
      intro j
      simp only [List.getElem?_map, List.getElem?_set]
      split
      · rename_i h
        subst h
        rw [List.getElem?_eq_getElem hi]
        simp [hs']
      · rfl
    dsimp only
    rw [this]
    exact h
  | none =>
    dsimp only
    rw [List.map_append, List.nodup_append]
    refine ⟨h, by simp, fun a h1 b h2 => ?_⟩
    simp only [List.map_cons, List.map_nil, List.mem_singleton] at h2
    subst h2
    rintro rfl
    obtain ⟨p, hp, hps⟩ := List.mem_map.1 h1
    have := List.findIdx?_eq_none_iff.1 hf p hp
    simp [hps] at this
section
variable {P : Program} {N : Nat} {ds : List Deferred} {Q : Exit → Act → World → Prop} {l : Log} {w : World} {ops : Array Oper} {os : List Oper}
variable {d : Nat} {ty : TypeId} {pos : String} {af : Array Edge} {g : Option (Nat × Bool)} {t t' : TypeId} {x y z : Operand} {E : Ent} {I : Imm} {H : List HItem}
theorem m_put {kt et : TypeId} [TyMap P t kt et] [TyStr P kt] {i b : Nat} {es : Ents} {s : List UInt8} {v : Value} {dst : Option Nat} (hm : Mem E I H w) (hd : dst = none) (hw : want ops l ⟨dst, .insert t x y z, ty, pos, af, g⟩ = some true)
    (hx : ev l x = some (.map (some b))) (hy : ev l y = some (str s)) (hz : ev l z = some v) (hi : H[i]? = some (.mp b es)) (hn : (es.map (·.1)).Nodup)
    (k : ∀ w', Mem E I (H.set i (.mp b (mput es s v))) w' → WL P N ds ops Q os l w') :
    WL P N ds ops Q (⟨dst, .insert t x y z, ty, pos, af, g⟩ :: os) l w := by
  cases hf : es.findIdx? (fun p => decide (p.1 = s)) with
  | none =>
    have hs : (es.map (·.1)).contains s = false := by
      rw [← Bool.not_eq_true, List.contains_iff_mem]
      intro h1
      obtain ⟨p, hp, hps⟩ := List.mem_map.1 h1
      have := List.findIdx?_eq_none_iff.1 hf p hp
      simp [hps] at this
    have e : mput es s v = es ++ [(s, v)] := by rw [mput, hf]
    rw [e] at k
    exact m_insertNew hm hd hw hx hy hz hi hn hs k
  | some j =>
    obtain ⟨hj, hsj, _⟩ := List.findIdx?_eq_some_iff_getElem.1 hf
    have hsj' : es[j].1 = s := by simpa using hsj
    have e : mput es s v = es.set j (s, v) := by rw [mput, hf]
    rw [e] at k
    have hget := hm.get hi
    subst hd
    refine wl_op hw fun a ha => ?_
    have h1 := run_underlying (P := P) (w := w) (TyMap.out (P := P) (t := t))
    have hk := TyStr.out (P := P) (t := kt)
    have h2 := run_findKey (P := P) (w := w) hk s es 0
    have h3 := run_checkKey (P := P) (w := w) hk s false
    have h4 := MapKept.run_getObj_map (P := P) hget
    rw [hf] at h2
    have hg : es[j]? = some es[j] := List.getElem?_eq_getElem hj
    simp only [Option.bind_some, hg, Option.map_some, Nat.zero_add] at h2
    have h5 := fun o' => MapKept.run_setObj_map (P := P) o' hget
    have hkey : (entsOf es 0).toArray[j]? = some { key := str s, val := es[j].2, born := j } := by
      simp [entsOf, List.getElem?_zipIdx, hg, hsj']
    have h6 : (Instr.keyThatStays (str s) (str s)).run P w = .ok (str s) w := by
      have : Instr.sameBits 10000 (str s) (str s) = true := (MapKept.bytes_beq _ _).2 rfl
      simp [Instr.keyThatStays, this]
    have hb := lt_of_heap hget
    have hkept : Kept [b] w { w with heap := w.heap.setIfInBounds b (.map ((entsOf es 0).toArray.modify j (fun e => { e with key := str s, val := v })) es.length) } :=
      ⟨rfl, rfl, rfl, by simp, fun i hi hx => by
        have : b ≠ i := by rintro rfl; simp at hx
        simp [Array.getElem?_setIfInBounds_ne this]⟩
    have hm' := hm.turn (h' := .mp b (es.set j (s, v))) hi (by simpa [HItem.blk] using hkept) (by
      show HItem.ok _ _
      have e2 := ents_modify es j s v
      simp only [HItem.ok, ← e2, List.length_set]
      simp [hb]) (.inl rfl)
    have h7 := (k _ hm').run _ ha
    simp only [Oper.wp, execOp, Instr.mapUpdate, ha.ev hx, ha.ev hy, ha.ev hz, Sem.run_bind, h1, Result.andThen_ok, h4, h3, h2, hkey, Option.map_some, Option.getD_some, h6, h5, Oper.upon_skip, Act.put, Sem.run_pure]
    simpa only [List.modify_toArray] using h7
theorem wl_mapUpdate {dst : Option Nat} (h : WL P N ds ops Q (⟨dst, .insert t x y z, ty, pos, af, g⟩ :: os) l w) : WL P N ds ops Q (⟨dst, .mapUpdate t x y z, ty, pos, af, g⟩ :: os) l w := ⟨fun a ha => h.run a ha⟩
end
end Go.Fw
end
section
namespace Go.Fw
open Go
/-- what a map has under a text. -/
def mget (es : Ents) (s : List UInt8) : Option Value := (es.find? (fun p => decide (p.1 = s))).map (·.2)
theorem mget_at : ∀ {es : Ents} {j : Nat} {u : List UInt8} {v : Value}, (es.map (·.1)).Nodup → es[j]? = some (u, v) → mget es u = some v
  | [], j, u, v, _, h => by simp at h
  | (a, c) :: es, 0, u, v, _, h => by
    simp only [List.getElem?_cons_zero, Option.some.injEq, Prod.mk.injEq] at h
    obtain ⟨rfl, rfl⟩ := h
    simp [mget]
  | (a, c) :: es, j + 1, u, v, hn, h => by
    rw [List.getElem?_cons_succ] at h
    rw [List.map_cons, List.nodup_cons] at hn
    have hne : a ≠ u := by
      rintro rfl
      exact hn.1 (List.mem_map_of_mem (f := (·.1)) (List.mem_of_getElem? h))
    have ih := mget_at hn.2 h
    simp only [mget] at ih ⊢
    rw [List.find?_cons, decide_eq_false hne]
    exact ih
theorem mget_some : ∀ {es : Ents} {u : List UInt8} {v : Value}, mget es u = some v → ∃ j : Nat, es[j]? = some (u, v)
  | [], u, v, h => by cases h
  | (a, c) :: es, u, v, h => by
    simp only [mget] at h
    rw [List.find?_cons] at h
    by_cases e : a = u
    · rw [decide_eq_true e] at h
      simp only [Option.map_some, Option.some.injEq] at h
      subst e; subst h
      exact ⟨0, rfl⟩
    · rw [decide_eq_false e] at h
      obtain ⟨j, hj⟩ := mget_some (es := es) h
      exact ⟨j + 1, by rw [List.getElem?_cons_succ]; exact hj⟩
theorem mget_none {es : Ents} {u : List UInt8} (h : mget es u = none) {j : Nat} {p : List UInt8 × Value} (hj : es[j]? = some p) : p.1 ≠ u := by
  rintro rfl
  simp only [mget, Option.map_eq_none_iff, List.find?_eq_none] at h
  have := h p (List.mem_of_getElem? hj)
  simp at this
theorem mget_append {es : Ents} {s : List UInt8} {v : Value} (n : List UInt8) (h : mget es s = none) : mget (es ++ [(s, v)]) n = if n = s then some v else mget es n := by
  simp only [mget] at h ⊢
  rw [List.find?_append]
  by_cases e : n = s
  · subst e
    rw [if_pos rfl, Option.map_eq_none_iff.1 h]
    simp
  · rw [if_neg e]
    cases hf : es.find? (fun p => decide (p.1 = n)) with
    | some p => rfl
    | none => simp [Ne.symm e]
theorem mget_set : ∀ {es : Ents} {i : Nat} {s : List UInt8} {v : Value} (n : List UInt8), (es.map (·.1)).Nodup → (∃ c, es[i]? = some (s, c)) → mget (es.set i (s, v)) n = if n = s then some v else mget es n
  | [], i, s, v, n, _, h => by obtain ⟨_, h⟩ := h; simp at h
  | (a, c) :: es, 0, s, v, n, _, h => by
    obtain ⟨_, h⟩ := h
    simp only [List.getElem?_cons_zero, Option.some.injEq, Prod.mk.injEq] at h
    obtain ⟨rfl, _⟩ := h
    simp only [mget, List.set_cons_zero, List.find?_cons]
    by_cases e : n = a
    · subst e; simp
    · rw [if_neg e, decide_eq_false (Ne.symm e)]
  | (a, c) :: es, i + 1, s, v, n, hn, h => by
    obtain ⟨c', h⟩ := h
    rw [List.getElem?_cons_succ] at h
    rw [List.map_cons, List.nodup_cons] at hn
    have ih := mget_set (v := v) n hn.2 ⟨c', h⟩
    have has : a ≠ s := by
      rintro rfl
      exact hn.1 (List.mem_map_of_mem (f := (·.1)) (List.mem_of_getElem? h))
    simp only [mget, List.set_cons_succ, List.find?_cons] at ih ⊢
    by_cases e : a = n
    · subst e
      rw [decide_eq_true rfl, if_neg has]
    · rw [decide_eq_false e]
      exact ih
theorem mget_mput {es : Ents} {s : List UInt8} {v : Value} (n : List UInt8) (hn : (es.map (·.1)).Nodup) : mget (mput es s v) n = if n = s then some v else mget es n := by
  rw [mput]
  cases hf : es.findIdx? (fun p => decide (p.1 = s)) with
  | some i =>
    obtain ⟨hi, hs, _⟩ := List.findIdx?_eq_some_iff_getElem.1 hf
    have hs' : es[i].1 = s := by simpa using hs
    exact mget_set n hn ⟨es[i].2, by rw [List.getElem?_eq_getElem hi, ← hs']⟩
  | none =>
    refine mget_append n ?_
    rw [List.findIdx?_eq_none_iff] at hf
    simp only [mget, Option.map_eq_none_iff, List.find?_eq_none]
    intro p hp
    simpa using hf p hp
/-- a map that does not turn. -/
structure MapI (I : Imm) (b : Nat) (es : Ents) : Prop where
  out : I b = some (.map (entsOf es 0).toArray es.length)
  nodup : (es.map (·.1)).Nodup
theorem MapI.le {I I' : Imm} {b : Nat} {es : Ents} (h : MapI I b es) (hl : Le I I') : MapI I' b es := ⟨hl _ _ h.out, h.nodup⟩
theorem Mem.mapI {E : Ent} {I : Imm} {H : List HItem} {w : World} {b : Nat} {es : Ents} (hm : Mem E I H w) (h : MapI I b es) : MapAt w b es := ⟨hm.inv _ _ h.out, h.nodup⟩
abbrev HItem.it (r b n : Nat) (S : List Nat) : HItem := .obj r (.mapIter (some b) n S.toArray n)
theorem ents_mem {es : Ents} {e : MapEntry} : e ∈ entsOf es 0 ↔ ∃ (j : Nat) (u : List UInt8) (v : Value), es[j]? = some (u, v) ∧ e = { key := str u, val := v, born := j } := by
  simp only [entsOf, List.mem_map]
  constructor
  · rintro ⟨⟨⟨u, v⟩, j⟩, h, rfl⟩
    rw [List.mem_zipIdx_iff_getElem?] at h
    exact ⟨j, u, v, h, rfl⟩
  · rintro ⟨j, u, v, h, rfl⟩
    exact ⟨((u, v), j), by rw [List.mem_zipIdx_iff_getElem?]; exact h, rfl⟩
theorem left_mem {es : Ents} {S : List Nat} {e : MapEntry} (h : e ∈ (leftOf (entsOf es 0).toArray S.toArray).toList) : ∃ (j : Nat) (u : List UInt8) (v : Value), es[j]? = some (u, v) ∧ j ∉ S ∧ e = { key := str u, val := v, born := j } := by
  simp only [leftOf, List.filter_toArray, List.mem_filter] at h
  obtain ⟨j, u, v, h1, rfl⟩ := ents_mem.1 h.1
  exact ⟨j, u, v, h1, by simpa using h.2, rfl⟩
theorem left_none {es : Ents} {S : List Nat} (h : (leftOf (entsOf es 0).toArray S.toArray).size = 0) : ∀ j, j < es.length → j ∈ S := by
  intro j hj
  have h2 : (entsOf es 0).filter (fun e => !S.toArray.contains e.born) = [] := by
    simpa [leftOf] using h
  rw [List.filter_eq_nil_iff] at h2
  have := h2 { key := str es[j].1, val := es[j].2, born := j } (ents_mem.2 ⟨j, es[j].1, es[j].2, List.getElem?_eq_getElem hj, rfl⟩)
  simpa using this
theorem ents_born (es : Ents) : ((entsOf es 0).map (·.born)).Nodup := by
  have : (entsOf es 0).map (·.born) = List.range' 0 es.length := by
    simp only [entsOf, List.map_map]
    rw [← List.zipIdx_map_snd 0 es]
    rfl
  rw [this]
  exact List.nodup_range' (step := 1) (by omega)
section
variable {P : Program} {N : Nat} {ds : List Deferred} {Q : Exit → Act → World → Prop} {K : Act → World → Prop} {l : Log} {w : World} {ops : Array Oper} {os : List Oper}
variable {d : Nat} {ty : TypeId} {pos : String} {af : Array Edge} {g : Option (Nat × Bool)} {t : TypeId} {x y : Operand} {E : Ent} {I : Imm} {H : List HItem}
theorem m_range {kt et : TypeId} [TyMap P t kt et] {b : Nat} {es : Ents} (hm : Mem E I H w) (hw : want ops l ⟨some d, .range t x, ty, pos, af, g⟩ = some true) (hN : Nat.blt d N = true)
    (hx : ev l x = some (.map (some b))) (hb : MapAt w b es) (k : ∀ r w', Mem E I (.it r b es.length [] :: H) w' → WL P N ds ops Q os ((d, .pointer (some ⟨r, 0, none⟩)) :: l) w') :
    WL P N ds ops Q (⟨some d, .range t x, ty, pos, af, g⟩ :: os) l w :=
  wl_value (w' := w.alloc (.mapIter (some b) es.length #[] es.length)) rfl hw hN (fun a ha => by
    have h1 := run_range_map (P := P) w t kt et b _ _ (TyMap.out (P := P) (t := t)) hb.out
    simp [execOp, ha.ev hx, h1])
    (k w.heap.size _ (hm.add (Kept.alloc w _) (heap_alloc_new w _) (fun b' hb' => by simp only [HItem.blk, Option.some.injEq] at hb'; omega)))
theorem m_next {i r b : Nat} {es : Ents} {S : List Nat} (hm : Mem E I H w) (hw : want ops l ⟨some d, .next x false, ty, pos, af, g⟩ = some true) (hN : Nat.blt d N = true)
    (hx : ev l x = some (.pointer (some ⟨r, 0, none⟩))) (hi : H[i]? = some (.it r b es.length S)) (hb : MapAt w b es)
    (k1 : (∀ j, j < es.length → j ∈ S) → WL P N ds ops Q os ((d, .tuple #[.bool false]) :: l) w)
    (k2 : ∀ j u v w', es[j]? = some (u, v) → j ∉ S → Mem E I (H.set i (.it r b es.length (S ++ [j]))) w' → WL P N ds ops Q os ((d, .tuple #[.bool true, str u, v]) :: l) w') :
    WL P N ds ops Q (⟨some d, .next x false, ty, pos, af, g⟩ :: os) l w := by
  have hr := hm.get hi
  rcases run_next_at (P := P) w ty r b es.length es.length S.toArray (entsOf es 0).toArray es.length hr hb.out (fun e he => by
    obtain ⟨j, u, v, h1, rfl⟩ := ents_mem.1 he
    exact (List.getElem?_eq_some_iff.1 h1).1) (Nat.le_refl _) with ⟨h0, hrun⟩ | ⟨e, he, w1, hw1, hrun⟩
  · exact wl_value rfl hw hN (fun a ha => by simp [execOp, ha.ev hx, hrun]) (k1 (left_none h0))
  · obtain ⟨j, u, v, hj, hS, rfl⟩ := left_mem he
    have hlt := lt_of_heap hr
    have hh : w1.heap = w.heap ∧ w1.os = w.os ∧ w1.tape = w.tape ∧ w1.output = w.output := by rcases hw1 with rfl | rfl <;> exact ⟨rfl, rfl, rfl, rfl⟩
    have hk : Kept [r] w (ChangeMaps.setBlock w1 r (.mapIter (some b) es.length (S ++ [j]).toArray es.length)) :=
      ⟨hh.2.1, hh.2.2.1, hh.2.2.2, by simp [ChangeMaps.setBlock, hh.1], fun k hk hx => by
          have : r ≠ k := by rintro rfl; simp at hx
          simp [ChangeMaps.setBlock, hh.1, Array.getElem?_setIfInBounds_ne this]⟩
    have hS2 : (S ++ [j]).toArray = S.toArray.push j := by simp
    have hok : HItem.ok (ChangeMaps.setBlock w1 r (.mapIter (some b) es.length (S ++ [j]).toArray es.length)) (.it r b es.length (S ++ [j])) := by
      simp [HItem.ok, ChangeMaps.setBlock, hh.1, hlt]
    rw [← hS2] at hrun
    exact wl_value rfl hw hN (fun a ha => by simp [execOp, ha.ev hx, hrun]) (k2 j u v _ hj hS (hm.turn hi (by simpa [HItem.blk] using hk) hok (.inl rfl)))
theorem m_entry {i r b j : Nat} {es : Ents} {S : List Nat} {u : List UInt8} {v : Value} (hm : Mem E I H w) (hw : want ops l ⟨some d, .entry x, ty, pos, af, g⟩ = some true) (hN : Nat.blt d N = true)
    (hx : ev l x = some (.pointer (some ⟨r, 0, none⟩))) (hi : H[i]? = some (.it r b es.length (S ++ [j]))) (hb : MapAt w b es) (hj : es[j]? = some (u, v))
    (k : WL P N ds ops Q os ((d, .tuple #[str u, v]) :: l) w) : WL P N ds ops Q (⟨some d, .entry x, ty, pos, af, g⟩ :: os) l w := by
  have hr := hm.get hi
  have hrun := run_entry_at (P := P) w r b es.length S.toArray (entsOf es 0).toArray es.length { key := str u, val := v, born := j } (by rw [hr]; simp) hb.out (ents_mem.2 ⟨j, u, v, hj, rfl⟩) (ents_born es)
  exact wl_value rfl hw hN (fun a ha => by simp [execOp, ha.ev hx, hrun]) k
theorem Mem.freezeM {b : Nat} {es : Ents} (hm : Mem E I (.mp b es :: H) w) (hn : (es.map (·.1)).Nodup) : ∃ I', Le I I' ∧ Mem E I' H w ∧ MapI I' b es := by
  have hf := hm.free _ List.mem_cons_self b rfl
  exact ⟨I.add b (.map (entsOf es 0).toArray es.length), Le.add hf, hm.tl.freezeB (hm.ok _ List.mem_cons_self) hf (hm.born _ List.mem_cons_self b rfl) (fun h hh e => (List.pairwise_cons.1 hm.dist).1 h hh b rfl e), ⟨Imm.add_self _ _ _, hn⟩⟩
/-- a call that reads a map is one that has it, and gives it back. -/
theorem CalM.borrow {f : FuncId} {args : Array Value} {b : Nat} {es : Ents} {Post : Value → List HItem → Prop} (hn : (es.map (·.1)).Nodup)
    (h : ∀ J, Le I J → MapI J b es → CalM P f args J H (fun v _ H' => Post v H')) : CalM P f args I (.mp b es :: H) (fun v _ H' => ∃ H'', H' = .mp b es :: H'' ∧ Post v H'') := by
  refine CalM.of fun w E hm => ?_
  have hf := hm.free _ List.mem_cons_self b rfl
  obtain ⟨J, hl, hmJ, hJ⟩ := hm.freezeM hn
  have hc := (h J hl hJ).run w ⟨Kept.refl _ _, Le.refl _, hmJ.inv, hmJ.ok, hmJ.free, fun x hx c hc => .inl (by simpa [blks, List.mem_filterMap] using ⟨x, hx, hc⟩), hmJ.dist, fun _ _ h => .inl h⟩
  refine hc.mono fun v w' ⟨J', H', hP, h2⟩ => ⟨I, .mp b es :: H', ⟨H', rfl, hP⟩, ?_⟩
  have h3 : Mem E J' H' w' := by simpa using (Mem.back (R := []) (by simpa using hmJ) h2)
  have hl' : Le I J' := hl.trans h2.le
  have hb' := h2.le _ _ hJ.out
  refine ⟨h3.kept, hm.le, fun c o hc => h3.inv c o (hl' c o hc), fun x hx => ?_, fun x hx c hc => ?_, fun x hx c hc => ?_, .cons (fun x hx c hc hc' => ?_) h3.dist, hm.grow⟩
  · rcases List.mem_cons.1 hx with rfl | hx
    · exact h3.inv _ _ hb'
    · exact h3.ok x hx
  · rcases List.mem_cons.1 hx with rfl | hx
    · exact hm.free _ List.mem_cons_self c hc
    · have := h3.free x hx c hc
      cases hI : I c with
      | none => rfl
      | some o => rw [hl' c o hI] at this; cases this
  · rcases List.mem_cons.1 hx with rfl | hx
    · exact hm.born _ List.mem_cons_self c hc
    · exact h3.born x hx c hc
  · simp only [HItem.blk, Option.some.injEq] at hc
    subst hc
    have := h3.free x hx _ hc'
    rw [hb'] at this; cases this
end
/-! copying a map, entry by entry -/
structure Copied (es : Ents) (S : List Nat) (es2 : Ents) : Prop where
  nodup : (es2.map (·.1)).Nodup
  get : ∀ n v, mget es2 n = some v ↔ ∃ j ∈ S, es[j]? = some (n, v)
theorem Copied.start (es : Ents) : Copied es [] [] := ⟨by simp, fun n v => by simp [mget]⟩
theorem Copied.put {es es2 : Ents} {S : List Nat} {j : Nat} {u : List UInt8} {v : Value} (h : Copied es S es2) (hn : (es.map (·.1)).Nodup) (hj : es[j]? = some (u, v)) : Copied es (S ++ [j]) (mput es2 u v) := by
  refine ⟨mput_nodup h.nodup, fun n v' => ?_⟩
  rw [mget_mput n h.nodup]
  by_cases e : n = u
  · subst e
    rw [if_pos rfl]
    constructor
    · rintro h'; cases h'; exact ⟨j, by simp, hj⟩
    · rintro ⟨i, _, hi⟩
      rw [← mget_at hn hj, mget_at hn hi]
  · rw [if_neg e, h.get]
    constructor
    · rintro ⟨i, hi, h2⟩; exact ⟨i, by simp [hi], h2⟩
    · rintro ⟨i, hi, h2⟩
      rcases List.mem_append.1 hi with hi | hi
      · exact ⟨i, hi, h2⟩
      · rw [List.mem_singleton] at hi
        subst hi
        rw [hj] at h2
        cases h2
        exact absurd rfl e
theorem Copied.done {es es2 : Ents} {S : List Nat} (h : Copied es S es2) (hn : (es.map (·.1)).Nodup) (hS : ∀ j, j < es.length → j ∈ S) (n : List UInt8) : mget es2 n = mget es n := by
  cases hg : mget es n with
  | some v =>
    obtain ⟨j, hj⟩ := mget_some hg
    exact (h.get n v).2 ⟨j, hS j (List.getElem?_eq_some_iff.1 hj).1, hj⟩
  | none =>
    cases hg2 : mget es2 n with
    | none => rfl
    | some v =>
      obtain ⟨j, _, hj⟩ := (h.get n v).1 hg2
      exact absurd rfl (mget_none hg hj)
/-- how many are left. -/
def leftN (n : Nat) (S : List Nat) : Nat := ((List.range n).filter (fun j => !S.contains j)).length
theorem filter_less {α : Type} (p q : α → Bool) : ∀ (l : List α), (∀ x ∈ l, p x = true → q x = true) → (∃ x ∈ l, q x = true ∧ p x = false) → (l.filter p).length < (l.filter q).length
  | [], _, h => by obtain ⟨_, h, _⟩ := h; cases h
  | a :: l, h1, h2 => by
    have hle : ∀ (l : List α), (∀ x ∈ l, p x = true → q x = true) → (l.filter p).length ≤ (l.filter q).length := fun l h => by
      induction l with
      | nil => simp
      | cons a l ih =>
        have ih' := ih (fun x hx => h x (List.mem_cons_of_mem _ hx))
        have ha := h a List.mem_cons_self
        simp only [List.filter_cons]
        cases hp : p a <;> cases hq : q a <;> simp_all <;> omega
    have h1' : ∀ x ∈ l, p x = true → q x = true := fun x hx => h1 x (List.mem_cons_of_mem _ hx)
    obtain ⟨x, hx, hq, hp⟩ := h2
    rcases List.mem_cons.1 hx with rfl | hx
    · simp only [List.filter_cons, hq, hp, if_true, Bool.false_eq_true, if_false, List.length_cons]
      exact Nat.lt_succ_of_le (hle l h1')
    · have ih := filter_less p q l h1' ⟨x, hx, hq, hp⟩
      have ha := h1 a List.mem_cons_self
      simp only [List.filter_cons]
      cases hp : p a <;> cases hq : q a <;> simp_all <;> omega
theorem leftN_step {n j : Nat} {S : List Nat} (hj : j < n) (hS : j ∉ S) : leftN n (S ++ [j]) < leftN n S :=
  filter_less _ _ _ (fun x _ h => by simp at h ⊢; exact h.1) ⟨j, List.mem_range.2 hj, by simpa using hS, by simp⟩
end Go.Fw
end
section
namespace Go.Proofs.YtkbiakajlfmakaaGreatDoor
open Go.Fw
theorem zero_num (w : World) : (zeroValue 3).run Tryz.prog w = .ok (.int .i64 0) w := by kernel_rfl
set_option maxHeartbeats 4000000 in
theorem r_find (k : Int) (n : List UInt8) (its : List Sp.Itm) (I : Imm) (a : Option Addr) (cp : Nat) (xs : List Value) (h : FE I its a cp xs) :
    CalM Tryz.prog 8 #[.agg [.slice a its.length cp].toArray, .int .i64 k, str n] I [] (fun v _ H' => v = .int .i64 (Sp.findV its k n) ∧ H' = []) := by
  refine CalM.of fun w E hm => enter (N := 33) Tryz.func8 rfl [(0, .agg [.slice a its.length cp].toArray), (1, .int .i64 k), (2, str n)] args3 rfl ?_
  have hfew := h.few
  repeat' (first
  | (refine m_box (d:=3) hm (k:=?_); clear hm; intro b3 _ hm)
  | refine m_load1 hm (k:=?_)
  | refine op_move (k:=?_)
  | refine op_assign (k:=?_)
  | refine op_len_slice (k:=?_)
  | refine op_fieldAddr (k:=?_)
  | refine wl_nil ?_
  | refine at_then_normal ?_
  | refine wc_seq ?_
  | refine wc_region ?_
  | refine wc_block ?_)
  refine wc_loop (fun x : Nat => [(1, .int .i64 k), (2, str n), (10, .slice a its.length cp), (11, nt its.length), (12, nt x)])
    (fun x w' => Mem E I [] w' ∧ x ≤ its.length ∧ ∀ j it', j < x → its[j]? = some it' → Sp.itIs k n it' = false) (fun x => its.length - x) 0 (by exact ⟨rfl, rfl, rfl, rfl, rfl, trivial⟩) ⟨hm.tl, Nat.zero_le _, fun j _ hj => absurd hj (Nat.not_lt_zero j)⟩ ?_
  clear hm
  rintro x w1 ⟨hm, hk, hno⟩
  try dsimp only at hm hk hno ⊢
  by_cases hlt : x < its.length
  · have hg : its[x]? = some its[x] := List.getElem?_eq_getElem hlt
    obtain ⟨cs, hcs, hat, hl10⟩ := h.get hg
    have hri := h.row
    generalize its[x] = it at hg hat
    obtain ⟨pa, pc, sa9, sc9, ba, bc9, da9, dc9, xb, rfl, _⟩ := hat
    cases hb : Sp.itIs k n it with
    | true =>
      have hb2 := hb
      simp only [Sp.itIs, Bool.and_eq_true, decide_eq_true_eq] at hb2
      obtain ⟨e1, e2, e3⟩ := hb2
      repeat' (first
      | (refine i_indexAddr (d:=15) (hr:=hri) (k:=?_); intro bt ot hpt; rw [show ((x : Int).toNat * 10) = x * 10 from rfl, hcs] at hpt)
      | (refine i_loadN (d:=16) hm (hp:=hpt) (k:=?_))
      | (refine m_allocS (d:=8) hm (k:=?_); clear hm; intro b8 _ hm)
      | refine m_load1 hm (k:=?_)
      | (refine m_storeAll hm (k:=?_); clear hm; intro _ hm; try simp only [setn] at hm)
      | refine op_move (k:=?_)
      | refine op_assign (k:=?_)
      | refine op_pick_true (k:=?_)
      | refine op_lss (k:=?_)
      | refine op_eql (k:=?_)
      | refine op_eql_str (k:=?_)
      | refine op_neq_str (k:=?_)
      | refine op_fieldAddr (k:=?_)
      | (refine wl_split_dec (h1:=fun _ => ?_) (h0:=fun _ => ?_)<;> (try first | contradiction | (exfalso; omega)))
      | refine wl_nil ?_
      | refine at_then_normal ?_
      | refine at_then_ret ?_
      | refine at_block_ret ?_
      | refine wc_seq ?_
      | refine wc_region ?_
      | refine wc_block ?_
      | refine wc_skip ?_
      | refine wc_ret ?_
      | refine at_ret1 (h:=?_)
      | (refine wc_cond_dec (ht:=fun _ => ?_) (hf:=fun _ => ?_)<;> (try first | contradiction | (exfalso; omega))))
      all_goals try (exfalso; first | omega | contradiction)
      exact ⟨I, [], ⟨by rw [show Sp.findV its k n = Sp.idxV (Sp.itIs k n) its from rfl, Sp.idxV_at hg hb hno], rfl⟩, hm.left (H := [])⟩
    | false =>
      have hne : n ≠ [] → (it.kind : Int) = k → it.name ≠ n := fun e3 e1 e2 => by
        rw [Sp.itIs, decide_eq_true e1, decide_eq_true e2, decide_eq_true e3] at hb
        cases hb
      repeat' (first
      | (refine i_indexAddr (d:=15) (hr:=hri) (k:=?_); intro bt ot hpt; rw [show ((x : Int).toNat * 10) = x * 10 from rfl, hcs] at hpt)
      | (refine i_loadN (d:=16) hm (hp:=hpt) (k:=?_))
      | (refine m_allocS (d:=8) hm (k:=?_); clear hm; intro b8 _ hm)
      | refine m_load1 hm (k:=?_)
      | (refine m_storeAll hm (k:=?_); clear hm; intro _ hm; try simp only [setn] at hm)
      | refine op_move (k:=?_)
      | refine op_assign (k:=?_)
      | refine op_pick_true (k:=?_)
      | refine op_pick_false (k:=?_)
      | refine op_lss (k:=?_)
      | refine op_eql (k:=?_)
      | refine op_eql_str (k:=?_)
      | refine op_neq_str (k:=?_)
      | refine op_add (k:=?_)
      | refine op_fieldAddr (k:=?_)
      | refine wl_skip (k:=?_)
      | (refine wl_split_dec (h1:=fun _ => ?_) (h0:=fun _ => ?_)<;> (try first | contradiction | (exfalso; omega)))
      | refine wl_nil ?_
      | refine at_then_normal ?_
      | refine at_then_ret ?_
      | refine at_block_normal ?_
      | refine at_block_ret ?_
      | refine wc_seq ?_
      | refine wc_region ?_
      | refine wc_block ?_
      | refine wc_skip ?_
      | refine wc_ret ?_
      | refine at_ret1 (h:=?_)
      | refine wc_cond_false (hf:=?_)
      | (refine wc_cond_dec (ht:=fun _ => ?_) (hf:=fun _ => ?_)<;> (try first | contradiction | (exfalso; omega))))
      all_goals try (exfalso; first | omega | contradiction | exact hne (by assumption) (by assumption) (by assumption))
      all_goals refine at_round (x + 1 : Nat) (by exact ⟨rfl, rfl, rfl, rfl, rfl, trivial⟩) ⟨hm.right (H := [_]), by omega, fun j it' hj hg' => ?_⟩ (by omega)
      all_goals
        rcases Nat.lt_or_ge j x with hjk | hjk
        · exact hno j it' hjk hg'
        · obtain rfl : j = x := by omega
          rw [hg] at hg'
          obtain rfl := Option.some.inj hg'
          exact hb
  · obtain rfl : x = its.length := by omega
    repeat' (first
    | refine op_assign (k:=?_)
    | refine op_lss (k:=?_)
    | refine wl_nil ?_
    | refine at_then_normal ?_
    | refine at_then_exit ?_
    | refine at_block_exit ?_
    | refine wc_seq ?_
    | refine wc_region ?_
    | refine wc_exit ?_
    | refine wc_ret ?_
    | refine at_ret1 (h:=?_)
    | (refine wc_cond_dec (ht:=fun _ => ?_) (hf:=fun _ => ?_)<;> (try first | contradiction | (exfalso; omega))))
    all_goals try (exfalso; omega)
    exact ⟨I, [], ⟨by rw [show Sp.findV its k n = Sp.idxV (Sp.itIs k n) its from rfl, Sp.idxV_none hno], rfl⟩, hm.left (H := [])⟩
/-- what does not turn beside it; the text. -/
structure RC (I : Imm) (src : List UInt8) (p : Nat) (q : List UInt8) (its : List Sp.Itm) (i : Nat) (it : Sp.Itm) (a : Option Addr) (cp : Nat) (xs : List Value) : Prop where
  fe : FE I its a cp xs
  at_ : its[i]? = some it
  len : src.length ≤ 4000
  st : Sp.ItS src p q it
  sts : ∀ x ∈ its, Sp.ItS0 src x
theorem RC.le {I J : Imm} (m : Le I J) {src : List UInt8} {p : Nat} {q : List UInt8} {its : List Sp.Itm} {i : Nat} {it : Sp.Itm} {a : Option Addr} {cp : Nat} {xs : List Value} (h : RC I src p q its i it a cp xs) : RC J src p q its i it a cp xs :=
  ⟨h.fe.le m, h.at_, h.len, h.st, h.sts⟩
/-- locals in a map that does not turn. -/
structure EnvI (I : Imm) (p : Nat) (sc : List Sp.Lc) (b : Nat) (es : Ents) : Prop where
  map : MapI I b es
  get : ∀ n, mget es n = (Sp.findLc sc n).map (fun l => .int .i64 ((p : Int) + l.at_))
theorem EnvI.le {I J : Imm} (m : Le I J) {p : Nat} {sc : List Sp.Lc} {b : Nat} {es : Ents} (h : EnvI I p sc b es) : EnvI J p sc b es := ⟨h.map.le m, h.get⟩
section
variable {I : Imm} {bc n i cp dp up : Nat} {a da ua : Option Addr} {s : Sp.NW}
variable {src : List UInt8} {p : Nat} {q : List UInt8} {its : List Sp.Itm} {it : Sp.Itm} {xs : List Value}
end
end Go.Proofs.YtkbiakajlfmakaaGreatDoor
end
section
namespace Go.Fw
open Go
section
variable {P : Program} {ops : Array Oper} {md : Region.Mode} {C : World → Prop}
/-- operation 'i' yields a value, or nothing. -/
def uOp (P : Program) (ops : Array Oper) (i : Nat) (K : Act → World → Prop) (a : Act) (w : World) : Prop :=
  match ops[i]? with
  | none => K a w
  | some o => if Region.wanted o (yielded ops a.tmps) then (∃ u w', (execOp a.eval o).run P w = .ok (.value u) w' ∧ K (a.put o.dst u) w') ∨
      (∃ f args, (execOp a.eval o).run P w = .ok (.enter f args) w ∧ Calls P f args w (fun e w' => ∃ u, e = .returned u ∧ K (a.put o.dst u) w')) ∨
      (∃ w', (execOp a.eval o).run P w = .ok .skip w' ∧ K (a.put o.dst undef) w') else K (a.put o.dst undef) w
theorem YieldsV.uOp {i : Nat} {o : Oper} {v : Value} {a : Act} {w : World} (hi : ops[i]? = some o) (hy : YieldsV P ops C o v a) (hC : C w) {K : Act → World → Prop} (h : K (a.put o.dst v) w) : uOp P ops i K a w := by
  unfold Fw.uOp
  simp only [hi]
  rcases hy with ⟨hw, hv⟩ | ⟨hw, rfl⟩
  · rw [if_pos hw]; exact .inl ⟨v, w, hv w hC, h⟩
  · rw [if_neg (by rw [hw]; simp)]; exact h
/-- the first 'n', in any order; the class is kept. -/
def anyU (P : Program) (md : Region.Mode) (ops : Array Oper) (C : World → Prop) (n : Nat) (L : Array Bool → Act → World → Prop) : Nat → Array Bool → Act → World → Prop
  | 0, listed, a, w => L listed a w
  | f + 1, listed, a, w => Region.ready md ops listed ≠ [] ∧ ∀ i ∈ Region.ready md ops listed, i < n ∧ uOp P ops i (fun a' w' => C w' ∧ anyU P md ops C n L f (listed.setIfInBounds i true) a' w') a w
end
section
variable {P : Program} {N : Nat} {ds : List Deferred} {X : List Nat} {Q : Exit → Act → World → Prop} {l : Log} {w w' w0 : World} {os tail : List Oper} {ops : Array Oper} {E : Ent} {I : Imm} {G R H : List HItem} {o : Oper}
/-- what is still to come, in any order. -/
structure WA (P : Program) (N : Nat) (ds : List Deferred) (ops : Array Oper) (Q : Exit → Act → World → Prop) (X : List Nat) (w0 : World) (n f : Nat) (listed : Array Bool) (tail : List Oper) (l : Log) (w : World) : Prop where
  run : ∀ a, Fits N ds l a → anyU P .any ops (fun w' => Kept X w0 w') n (fun listed' a' w' => Region.seqB .any ops (ops.size - n) n listed' = true ∧ wpList P ops Q tail a' w') f listed a w
/-- one operation, now. -/
structure WU (P : Program) (N : Nat) (ds : List Deferred) (ops : Array Oper) (Q : Exit → Act → World → Prop) (X : List Nat) (w0 : World) (n f : Nat) (listed : Array Bool) (tail : List Oper) (o : Oper) (l : Log) (w : World) : Prop where
  run : ∀ a, Fits N ds l a → ∀ i, ops[i]? = some o → uOp P ops i (fun a' w' => Kept X w0 w' ∧ anyU P .any ops (fun w' => Kept X w0 w') n (fun listed' a' w' => Region.seqB .any ops (ops.size - n) n listed' = true ∧ wpList P ops Q tail a' w') f listed a' w') a w
variable {d : Nat} {ty : TypeId} {pos : String} {af : Array Edge} {g : Option (Nat × Bool)} {t t' : TypeId} {x y z : Operand} {n f : Nat} {listed : Array Bool}
/-- a walk holds here. -/
structure WHold (p : Prop) : Prop where
  out : p
theorem wc_hold (id : Nat) {dr : Bool} (h : WHold (WC P N ds (.region id ops dr) Q l w)) : WC P N ds (.region id ops dr) Q l w := h.out
theorem iw_indexAddr {e : TypeId} {sz by_ : Nat} {KV : Act → Prop} [TySlice P t e] [Elem P e sz by_] {a : Option Addr} {m cp : Nat} {i : Int} {xs : List Value} (hw : want ops l ⟨some d, .indexAddr t x y, ty, pos, af, g⟩ = some true := by rfl) (hN : Nat.blt d N = true := by rfl)
    (hx : ev l x = some (.slice a m cp) := by rfl) (hy : ev l y = some (.int .i64 i) := by rfl) (hr : RowI I e sz (.slice a m cp) m xs) (h0 : 0 ≤ i := by omega) (h1 : i < m := by omega)
    (k : ∀ b off, PtrI I b off e ((xs.drop (i.toNat * sz)).take sz) → WV P N ds ops X w KV os ((d, .pointer (some ⟨b, off, none⟩)) :: l)) :
    WV P N ds ops X w KV (⟨some d, .indexAddr t x y, ty, pos, af, g⟩ :: os) l := by
  obtain ⟨b, off, rfl, hp⟩ := hr.at_ i.toNat (by omega)
  exact v_indexAddr hw hN hx hy h0 h1 (k b _ hp)
end
end Go.Fw
end
section
namespace Go.Fw
open Go
section
variable {P : Program} {N : Nat} {ds : List Deferred} {Q : Exit → Act → World → Prop} {K : Act → World → Prop} {l l' : Log} {w w' : World} {ops : Array Oper} {os : List Oper}
variable {d : Nat} {ty : TypeId} {pos : String} {af : Array Edge} {g : Option (Nat × Bool)} {t t' : TypeId} {x y z : Operand}
end
end Go.Fw
end
section
namespace Go.Sp
end Go.Sp
namespace Go.Fw
theorem wc_cut_regN {P : Program} {N : Nat} {ds : List Deferred} {Q : Exit → Act → World → Prop} {l : Log} {w : World} (id : Nat) {ops : Array Oper} {dr : Bool} {x y : Code} {α : Type} (L : α → Log) (J : α → World → Prop)
    (h : WHold (WC P N ds (.seq (.region id ops dr) x) (Exit.then (fun a w => ∃ x, Fits N ds (L x) a ∧ J x w) Q) l w))
    (k : ∀ x w, J x w → WC P N ds y Q (L x) w) : WC P N ds (.seq (.seq (.region id ops dr) x) y) Q l w := wc_cut_reg id L J h.out k
end Go.Fw
namespace Go.Proofs.YtkbiakajlfmakaaGreatDoor
open Go.Fw
structure NX where
  k : Nat
  I : Imm
  sa : Option Addr
  sp : Nat
  da : Option Addr
  dp : Nat
  ua : Option Addr
  up : Nat
section
variable {src : List UInt8} {p : Nat} {q : List UInt8} {its : List Sp.Itm} {it : Sp.Itm} {bc bf : Nat} {a : Option Addr} {cp : Nat} {xs : List Value} {pi : Value} {sc : List Sp.Lc}
end
end Go.Proofs.YtkbiakajlfmakaaGreatDoor
end
