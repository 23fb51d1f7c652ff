/- Own work: texts SpecEff2, SpecDgs, SpecGood, SpecBad, SpecGood2, SpecGood3, one behind the other. -/
import Derived.Test.YthmdffgiockcbaaGreatDoorRb14
section
namespace Go.Sp
theorem sumE_le : ∀ {r s : List (List Nm)}, (∀ a ∈ r, Srt a) → (∀ a ∈ s, Srt a) → LeE r s → sumE r ≤ sumE s ∧ (sumE s ≤ sumE r → r = s)
  | [], [], _, _, _ => ⟨Nat.le_refl _, fun _ => rfl⟩
  | [], b :: s, _, _, h => by have := h.1; simp at this
  | a :: r, [], _, _, h => by have := h.1; simp at this
  | a :: r, b :: s, hr, hs, h => by
    have h1 : ∀ x ∈ a, x ∈ b := fun x hx => h.2 0 x hx
    have ha := hr a List.mem_cons_self
    have hb := hs b List.mem_cons_self
    have h2 := srt_len ha h1
    obtain ⟨h3, h4⟩ := sumE_le (r := r) (s := s) (fun x hx => hr x (List.mem_cons_of_mem _ hx)) (fun x hx => hs x (List.mem_cons_of_mem _ hx)) ⟨by simpa using h.1, fun i x hx => h.2 (i + 1) x hx⟩
    have e1 : sumE (a :: r) = a.length + sumE r := rfl
    have e2 : sumE (b :: s) = b.length + sumE s := rfl
    refine ⟨by omega, fun hl => ?_⟩
    rw [srt_same ha hb h1 (by omega), h4 (by omega)]
theorem sumE_top {its : List Itm} {r : List (List Nm)} (h : RowsE its r) : sumE r ≤ its.length * (namesE its).length := by
  rw [← h.len]
  have key : ∀ (l : List (List Nm)), (∀ a ∈ l, a ∈ r) → sumE l ≤ l.length * (namesE its).length := by
    intro l
    induction l with
    | nil => intro _; simp [sumE]
    | cons a l ih =>
      intro hl
      have h1 := ih (fun x hx => hl x (List.mem_cons_of_mem _ hx))
      have ha := hl a List.mem_cons_self
      have h2 := srt_len (h.srt a ha) (h.of a ha)
      have e1 : sumE (a :: l) = a.length + sumE l := rfl
      rw [e1, List.length_cons, Nat.add_mul]; omega
  exact key r (fun _ h => h)
abbrev topE (its : List Itm) : Nat := its.length * (namesE its).length
theorem iterE_fix {its : List Itm} {r : List (List Nm)} (h : roundE its r = r) : ∀ n, iterE its n r = r
  | 0 => rfl
  | n + 1 => by rw [iterE, if_pos h]
theorem round_more {its : List Itm} {r : List (List Nm)} (h : RowsE its r) (hn : roundE its r ≠ r) : sumE r < sumE (roundE its r) := by
  obtain ⟨h1, h2⟩ := h.round
  obtain ⟨h3, h4⟩ := sumE_le h.srt h1.srt h2
  rcases Nat.lt_or_ge (sumE r) (sumE (roundE its r)) with h5 | h5
  · exact h5
  · exact absurd (h4 h5).symm hn
theorem iterE_enough {its : List Itm} : ∀ (d : Nat) {r : List (List Nm)}, RowsE its r → topE its - sumE r ≤ d → ∀ n m, d < n → d < m → iterE its n r = iterE its m r
  | d, r, h, hd, n, m, hn, hm => by
    by_cases e : roundE its r = r
    · rw [iterE_fix e, iterE_fix e]
    · have h1 := round_more h e
      have h2 := sumE_top h.round.1
      have e0 : topE its = its.length * (namesE its).length := rfl
      obtain ⟨n, rfl⟩ : ∃ k, n = k + 1 := ⟨n - 1, by omega⟩
      obtain ⟨m, rfl⟩ : ∃ k, m = k + 1 := ⟨m - 1, by omega⟩
      rw [iterE, if_neg e, iterE, if_neg e]
      match d, hd with
      | 0, hd => omega
      | d + 1, hd => exact iterE_enough d h.round.1 (by omega) n m (by omega) (by omega)
theorem iterE_next {its : List Itm} {r : List (List Nm)} (h : RowsE its r) (e : roundE its r ≠ r) : iterE its (topE its + 1) r = iterE its (topE its + 1) (roundE its r) := by
  have h1 := round_more h e
  have h2 := sumE_top h.round.1
  have e0 : topE its = its.length * (namesE its).length := rfl
  rw [iterE, if_neg e]
  exact iterE_enough (topE its - 1) h.round.1 (by omega) _ _ (by omega) (by omega)
theorem iterE_end {its : List Itm} : ∀ (d : Nat) {r : List (List Nm)}, RowsE its r → topE its - sumE r ≤ d → ∀ n, d < n → roundE its (iterE its n r) = iterE its n r ∧ RowsE its (iterE its n r) ∧ LeE r (iterE its n r)
  | d, r, h, hd, n, hn => by
    by_cases e : roundE its r = r
    · rw [iterE_fix e]; exact ⟨e, h, LeE.refl r⟩
    · have h1 := round_more h e
      have h2 := sumE_top h.round.1
      have e0 : topE its = its.length * (namesE its).length := rfl
      obtain ⟨n, rfl⟩ : ∃ k, n = k + 1 := ⟨n - 1, by omega⟩
      rw [iterE, if_neg e]
      match d, hd with
      | 0, hd => omega
      | d + 1, hd =>
        obtain ⟨h3, h4, h5⟩ := iterE_end d h.round.1 (by omega) n (by omega)
        exact ⟨h3, h4, h.round.2.trans h5⟩
theorem allsE_eq (its : List Itm) : allsE its = iterE its (topE its + 1) (initsE its) := rfl
theorem allsE_end (its : List Itm) : roundE its (allsE its) = allsE its ∧ RowsE its (allsE its) ∧ LeE (initsE its) (allsE its) :=
  iterE_end (topE its) (rowsE_init its) (Nat.sub_le _ _) _ (Nat.lt_succ_self _)
inductive Rch (its : List Itm) : Nat → Nat → Prop
  | refl (i : Nat) : Rch its i i
  | step {i k j : Nat} (h : k ∈ callsE its i) (r : Rch its k j) : Rch its i j
theorem Rch.trans {its : List Itm} {i j k : Nat} (h : Rch its i j) (g : Rch its j k) : Rch its i k := by
  induction h with
  | refl => exact g
  | step h1 _ ih => exact .step h1 (ih g)
theorem Rch.one {its : List Itm} {i k : Nat} (h : k ∈ callsE its i) : Rch its i k := .step h (.refl k)
theorem callsE_lt {its : List Itm} {i k : Nat} (h : k ∈ callsE its i) : k < its.length ∧ (itNo its k).kind = 2 := by
  rw [callsE] at h
  split at h
  · obtain ⟨n, _, hn⟩ := List.mem_filterMap.1 h
    have := findIt_lt hn
    exact ⟨this.1, by omega⟩
  · cases h
def SoundE (its : List Itm) (r : List (List Nm)) : Prop := ∀ i x, x ∈ r.getD i [] → ∃ k, Rch its i k ∧ x ∈ initE its k
theorem SoundE.init (its : List Itm) : SoundE its (initsE its) := fun i x hx => by
  rcases Nat.lt_or_ge i its.length with hi | hi
  · rw [initsE_get its hi] at hx; exact ⟨i, .refl i, hx⟩
  · rw [getD_out (by rw [initsE_len]; exact hi)] at hx; cases hx
theorem SoundE.step {its : List Itm} {r : List (List Nm)} (hr : RowsE its r) (h : SoundE its r) (i : Nat) : SoundE its (stepE its r i) := fun j x hx => by
  by_cases e : i = j
  · subst e
    rcases Nat.lt_or_ge i r.length with hi | hi
    · rw [stepE, getD_set_self hi] at hx
      rcases (rowE_mem hr i x).1 hx with h1 | ⟨k, hk, h1⟩
      · exact h i x h1
      · obtain ⟨m, hm, hx⟩ := h k x h1
        exact ⟨m, .step hk hm, hx⟩
    · rw [stepE, getD_out (by rw [List.length_set]; exact hi)] at hx; cases hx
  · rw [stepE, getD_set_ne e] at hx; exact h j x hx
theorem SoundE.folds {its : List Itm} : ∀ (l : List Nat) {r : List (List Nm)}, RowsE its r → SoundE its r → SoundE its (l.foldl (stepE its) r)
  | [], _, _, h => h
  | i :: l, _, hr, h => SoundE.folds l (hr.step i).1 (h.step hr i)
theorem SoundE.iter {its : List Itm} : ∀ (n : Nat) {r : List (List Nm)}, RowsE its r → SoundE its r → SoundE its (iterE its n r)
  | 0, _, _, h => h
  | n + 1, r, hr, h => by
    rw [iterE]
    split
    · exact h
    · exact SoundE.iter n hr.round.1 (SoundE.folds _ hr h)
theorem allE_closed {its : List Itm} {i k : Nat} (h : k ∈ callsE its i) {x : Nm} (hx : x ∈ allE its k) : x ∈ allE its i := by
  obtain ⟨h1, h2, _⟩ := allsE_end its
  rcases Nat.lt_or_ge i its.length with hi | hi
  · have h3 := folds_fix (List.range its.length) h2 h1 i (List.mem_range.2 hi)
    have h4 : x ∈ (stepE its (allsE its) i).getD i [] := by
      rw [stepE, getD_set_self (by rw [h2.len]; exact hi)]
      exact (rowE_mem h2 i x).2 (.inr ⟨k, h, hx⟩)
    rw [h3] at h4; exact h4
  · rw [callsE, itNo, getD_out hi] at h
    cases h
theorem allE_mem {its : List Itm} {i : Nat} (hi : i < its.length) (x : Nm) : x ∈ allE its i ↔ ∃ k, Rch its i k ∧ x ∈ initE its k := by
  constructor
  · exact fun h => SoundE.iter _ (rowsE_init its) (SoundE.init its) i x h
  · rintro ⟨k, hk, hx⟩
    induction hk with
    | refl i => exact (allsE_end its).2.2.2 i x (by rw [initsE_get its hi]; exact hx)
    | step h _ ih => exact allE_closed h (ih (callsE_lt h).1 hx)
theorem allE_srt (its : List Itm) (i : Nat) : Srt (allE its i) := ((allsE_end its).2.1.getD i).1
theorem allsE_len (its : List Itm) : (allsE its).length = its.length := (allsE_end its).2.1.len
theorem allE_none {its : List Itm} {i : Nat} (h : (itNo its i).kind ≠ 2) : allE its i = [] := by
  rcases Nat.lt_or_ge i its.length with hi | hi
  · refine srt_ext (allE_srt its i) Srt.nil (fun x => ⟨fun hx => ?_, fun hx => by cases hx⟩)
    obtain ⟨k, hk, hx⟩ := (allE_mem hi x).1 hx
    cases hk with
    | refl => rw [initE, if_neg h] at hx; exact hx
    | step h1 _ => rw [callsE, if_neg h] at h1; cases h1
  · rw [allE, getD_out (by rw [allsE_len]; exact hi)]
structure Bfs (its : List Itm) (i : Nat) (todo had : List Nat) (sends : List Nm) : Prop where
  from_ : ∀ k, k ∈ todo ∨ k ∈ had → Rch its i k ∧ k < its.length
  start : (itNo its i).kind = 2 → i ∈ todo ∨ i ∈ had
  fn : ∀ k ∈ had, (itNo its k).kind = 2
  next : ∀ k ∈ had, ∀ j ∈ callsE its k, j ∈ todo ∨ j ∈ had
  srt : Srt sends
  mem : ∀ x, x ∈ sends ↔ ∃ k ∈ had, x ∈ initE its k
  once : had.Nodup
theorem Bfs.init {its : List Itm} {i : Nat} (hi : i < its.length) : Bfs its i [i] [] [] :=
  ⟨fun k hk => (by
    rcases hk with hk | hk
    · obtain rfl : k = i := by simpa using hk
      exact ⟨.refl _, hi⟩
    · cases hk), fun _ => .inl List.mem_cons_self, fun k hk => (by cases hk), fun k hk => (by cases hk), Srt.nil, fun x => ⟨fun h => (by cases h), fun ⟨k, hk, _⟩ => (by cases hk)⟩, List.nodup_nil⟩
theorem Bfs.skip {its : List Itm} {i k : Nat} {todo had : List Nat} {sends : List Nm} (h : Bfs its i (k :: todo) had sends) (hk : k ∈ had ∨ (itNo its k).kind ≠ 2) : Bfs its i todo had sends := by
  have key : ∀ j, j ∈ k :: todo ∨ j ∈ had → (itNo its j).kind = 2 → j ∈ todo ∨ j ∈ had := fun j hj h2 => by
    rcases hj with hj | hj
    · rcases List.mem_cons.1 hj with rfl | hj
      · rcases hk with hk | hk
        · exact .inr hk
        · exact absurd h2 hk
      · exact .inl hj
    · exact .inr hj
  exact ⟨fun j hj => h.from_ j (hj.imp_left (List.mem_cons_of_mem _)), fun h2 => key i (h.start h2) h2, h.fn, fun j hj m hm => key m (h.next j hj m hm) (callsE_lt hm).2, h.srt, h.mem, h.once⟩
theorem Bfs.done {its : List Itm} {i : Nat} {had : List Nat} {sends : List Nm} (hi : i < its.length) (h : Bfs its i [] had sends) : sends = allE its i := by
  refine srt_ext h.srt (allE_srt its i) (fun x => ?_)
  rw [h.mem, allE_mem hi]
  constructor
  · rintro ⟨k, hk, hx⟩
    exact ⟨k, (h.from_ k (.inr hk)).1, hx⟩
  · rintro ⟨k, hk, hx⟩
    have key : ∀ {a b : Nat}, Rch its a b → a ∈ had → b ∈ had := fun {a b} r => by
      induction r with
      | refl => exact id
      | step h1 _ ih =>
        intro ha
        rcases h.next _ ha _ h1 with h2 | h2
        · cases h2
        · exact ih h2
    by_cases h2 : (itNo its i).kind = 2
    · rcases h.start h2 with h3 | h3
      · cases h3
      · exact ⟨k, key hk h3, hx⟩
    · cases hk with
      | refl => rw [initE, if_neg h2] at hx; cases hx
      | step h1 _ => rw [callsE, if_neg h2] at h1; cases h1
def saidE (it : Itm) (c : Nm) : Bool := it.sends.any (fun x => decide (x.name = c))
def diagE (c : Nm) : Dg := ⟨0, 0, 10, c⟩
def effD (its : List Itm) (i : Nat) : List Dg := ((allE its i).filter (fun c => !saidE (itNo its i) c)).map diagE
end Go.Sp
end
section
namespace Go.Sp
structure DI where
  fr : Int
  to : Int
  err : Nat
  name : List UInt8
  deriving DecidableEq
def shiftD (b : Int) (d : Dg) : DI := ⟨w64 (d.fr + b), w64 (d.to + b), d.err, d.name⟩
def rawD (its : List Itm) (i : Nat) : List Dg := (itNo its i).diags ++ ((walkN its i).ds ++ (effD its i ++ (checkF its i (-1)).ds))
def dgsR (its : List Itm) (i : Nat) : List DI := (rawD its i).map (shiftD (itNo its i).at_)
def allTo (its : List Itm) (k : Nat) : List DI := (List.range k).flatMap (dgsR its)
def allD (its : List Itm) : List DI := allTo its its.length
theorem allTo_succ (its : List Itm) (k : Nat) : allTo its (k + 1) = allTo its k ++ dgsR its k := by
  rw [allTo, List.range_succ, List.flatMap_append, ← allTo]; simp
theorem allD_nil {its : List Itm} (h : allD its = []) {i : Nat} (hi : i < its.length) : (itNo its i).diags = [] ∧ (walkN its i).ds = [] ∧ effD its i = [] ∧ (checkF its i (-1)).ds = [] := by
  rw [allD, allTo, List.flatMap_eq_nil_iff] at h
  have := h i (List.mem_range.2 hi)
  rw [dgsR, List.map_eq_nil_iff, rawD] at this
  simpa using this
def runR (its : List Itm) (nm : List UInt8) (args : List Int) : Rn :=
  if allD its ≠ [] then ⟨[], 0, 13, 0⟩ else
  match findIt its 2 nm with
  | none => ⟨[], 0, 6, 0⟩
  | some j => if args.length ≠ (itNo its j).params.length then ⟨[], 0, 5, 0⟩ else
    if (callR its 40 nm args MR0).2.err ≠ 0 then ⟨[], 0, (callR its 40 nm args MR0).2.err, 0⟩
    else ⟨(callR its 40 nm args MR0).2.ev, (callR its 40 nm args MR0).1, 0, (callR its 40 nm args MR0).2.steps⟩
def seenB (its : List Itm) (n : Nat) (e : Ev) : Bool := match findIt its 1 e.ch with
  | some j => flows (itNo its j).label n
  | none => false
def seenR (its : List Itm) (l : List Ev) (n : Nat) : List Ev := l.filter (seenB its n)
end Go.Sp
end
section
namespace Go.Sp
mutual
def Ex.fitE : Ex → Nat → Nat → Prop
  | .mk k nm n args _ _, d, least => d < 12 ∧
    ((k = 1 ∧ nm = [] ∧ n ≤ 1000000000 ∧ args = []) ∨ (k = 2 ∧ name nm = true ∧ n = 0 ∧ args = []) ∨
     (k = 4 ∧ name nm = true ∧ n = 0 ∧ args.length ≤ 5 ∧ exsFit args (d + 1)) ∨
     (k = 3 ∧ tight nm ≠ 0 ∧ n = 0 ∧ args.length = 2 ∧ opsFit args (if tight nm < least then d + 1 else d) (tight nm)))
def exsFit : List Ex → Nat → Prop
  | [], _ => True
  | e :: es, d => e.fitE d 1 ∧ exsFit es d
def opsFit : List Ex → Nat → Nat → Prop
  | [], _, _ => True
  | e :: es, d, n => e.fitE d n ∧ opsFit es d (n + 1)
 end
mutual
theorem Ex.fit_down : ∀ (e : Ex) {d l : Nat}, e.fitE (d + 1) l → e.fitE d l
  | .mk k nm n args _ _, d, l, h => by
    rw [Ex.fitE] at h ⊢
    refine ⟨by omega, ?_⟩
    rcases h.2 with h | h | h | h
    · exact .inl h
    · exact .inr (.inl h)
    · exact .inr (.inr (.inl ⟨h.1, h.2.1, h.2.2.1, h.2.2.2.1, exsFit_down args h.2.2.2.2⟩))
    · refine .inr (.inr (.inr ⟨h.1, h.2.1, h.2.2.1, h.2.2.2.1, ?_⟩))
      have h5 := h.2.2.2.2
      split
      · rename_i hl; rw [if_pos hl] at h5; exact opsFit_down args h5
      · rename_i hl; rw [if_neg hl] at h5; exact opsFit_down args h5
theorem exsFit_down : ∀ (l : List Ex) {d : Nat}, exsFit l (d + 1) → exsFit l d
  | [], d, _ => by rw [exsFit]; trivial
  | e :: l, d, h => by rw [exsFit] at h ⊢; exact ⟨e.fit_down h.1, exsFit_down l h.2⟩
theorem opsFit_down : ∀ (l : List Ex) {d n : Nat}, opsFit l (d + 1) n → opsFit l d n
  | [], d, n, _ => by rw [opsFit]; trivial
  | e :: l, d, n, h => by rw [opsFit] at h ⊢; exact ⟨e.fit_down h.1, opsFit_down l h.2⟩
 end
theorem Ex.fit_par {e : Ex} {d : Nat} (h : e.fitE (d + 1) 1) (l : Nat) : e.fitE d l := by
  cases e with
  | mk k nm n args f t =>
    rw [Ex.fitE] at h ⊢
    refine ⟨by omega, ?_⟩
    rcases h.2 with h | h | h | h
    · exact .inl h
    · exact .inr (.inl h)
    · exact .inr (.inr (.inl ⟨h.1, h.2.1, h.2.2.1, h.2.2.2.1, exsFit_down args h.2.2.2.2⟩))
    · refine .inr (.inr (.inr ⟨h.1, h.2.1, h.2.2.1, h.2.2.2.1, ?_⟩))
      have h5 := h.2.2.2.2
      rw [if_neg (by have := h.2.1; omega)] at h5
      split
      · exact h5
      · exact opsFit_down args h5
theorem exsFit_snoc : ∀ {l : List Ex} {d : Nat} {e : Ex}, exsFit l d → e.fitE d 1 → exsFit (l ++ [e]) d
  | [], d, e, _, he => by rw [List.nil_append, exsFit, exsFit]; exact ⟨he, trivial⟩
  | a :: l, d, e, h, he => by rw [exsFit] at h; rw [List.cons_append, exsFit]; exact ⟨h.1, exsFit_snoc h.2 he⟩
theorem need_ok {T : Src} {s : St} {w : List UInt8} (h : (s.need T w).2.ds = []) : T.is s.i w = true ∧ (s.need T w).2 = s.next := by
  rw [St.need] at h ⊢
  by_cases hw : T.is s.i w = true
  · rw [if_pos hw]; exact ⟨hw, rfl⟩
  · rw [if_neg hw] at h; exact absurd h (bad_ne _ _ _)
theorem named_ok {T : Src} {s : St} (h : (s.named T).2.ds = []) : name (T.tok s.i).text = true ∧ s.named T = ((T.tok s.i).text, s.next) := by
  rw [St.named] at h ⊢
  by_cases hw : name (T.tok s.i).text = true
  · rw [if_pos hw]; exact ⟨hw, rfl⟩
  · rw [if_neg hw] at h
    split at h
    · exact absurd h (bad_ne _ _ _)
    · exact absurd h (bad_ne _ _ _)
def Loose (T : Src) (s : St) (m : Nat) : Prop := tight (T.tok s.i).text < m ∨ tight (T.tok s.i).text = 0
theorem good_expr (T : Src) : ∀ f, (∀ d s, 3 * (T.l.length - s.i) + 2 ≤ f → (atom T f d s).2.ds = [] → (∀ l, (atom T f d s).1.fitE d l) ∧ s.i < (atom T f d s).2.i) ∧
    (∀ d l s, 3 * (T.l.length - s.i) + 4 ≤ f → (argL T f d l s).2.ds = [] → l.length ≤ 5 → exsFit l d → (argL T f d l s).1.length ≤ 5 ∧ exsFit (argL T f d l s).1 d) ∧
    (∀ d m s, 3 * (T.l.length - s.i) + 3 ≤ f → (expr T f d m s).2.ds = [] → (expr T f d m s).1.fitE d m ∧ s.i < (expr T f d m s).2.i ∧ Loose T (expr T f d m s).2 m) ∧
    (∀ d m e s, 3 * (T.l.length - s.i) + 1 ≤ f → (opL T f d m e s).2.ds = [] → ((∀ l, e.fitE d l) ∨ ∃ n1, m ≤ n1 ∧ (∀ l, l ≤ n1 → e.fitE d l) ∧ tight (T.tok s.i).text ≤ n1) → (opL T f d m e s).1.fitE d m ∧ Loose T (opL T f d m e s).2 m)
  | 0 => ⟨fun _ _ h => by omega, fun _ _ _ h => by omega, fun _ _ _ h => by omega, fun _ _ _ _ h => by omega⟩
  | f + 1 => by
    obtain ⟨hA, hL, hE, hO⟩ := good_expr T f
    obtain ⟨rA, rL, rE, rO⟩ := runs_expr T f
    refine ⟨fun d s hf h => ?_, fun d l s hf h hl hx => ?_, fun d m s hf h => ?_, fun d m e s hf h he => ?_⟩
    · rw [atom] at h ⊢
      dsimp only at h ⊢
      by_cases c1 : T.l.length ≤ s.i
      · rw [if_pos c1] at h; exact absurd h (bad_ne _ _ _)
      rw [if_neg c1] at h ⊢
      by_cases c2 : 12 ≤ d
      · rw [if_pos c2] at h; exact absurd h (bad_ne _ _ _)
      rw [if_neg c2] at h ⊢
      by_cases c3 : (T.tok s.i).kind = 2
      · rw [if_pos c3] at h ⊢
        by_cases c4 : 1000000000 < digits (T.tok s.i).text
        · rw [if_pos c4] at h; exact absurd h (bad_ne _ _ _)
        rw [if_neg c4]
        refine ⟨fun l => ?_, Nat.lt_succ_self _⟩
        rw [Ex.fitE]
        exact ⟨by omega, .inl ⟨rfl, rfl, by omega, rfl⟩⟩
      rw [if_neg c3] at h ⊢
      by_cases c4 : (T.tok s.i).text = [40]
      · rw [if_pos c4] at h ⊢
        obtain ⟨h1, h2⟩ := need_ok h
        dsimp only at h ⊢
        rw [h2] at h ⊢
        obtain ⟨g1, g2, _⟩ := hE (d + 1) 1 s.next (by rw [next_i]; omega) h
        rw [next_i] at g2
        exact ⟨fun l => Ex.fit_par g1 l, by rw [next_i]; omega⟩
      rw [if_neg c4] at h ⊢
      by_cases c5 : name (T.tok s.i).text = true
      · rw [if_neg (by simp [c5])] at h ⊢
        by_cases c6 : T.is (s.i + 1) [40] = true
        · rw [if_neg (by simp [c6])] at h ⊢
          obtain ⟨h1, h2⟩ := need_ok h
          dsimp only at h ⊢
          rw [h2] at h ⊢
          have c7 := is_lt c6
          obtain ⟨g1, g2⟩ := hL (d + 1) [] s.next.next (by rw [next_i, next_i]; omega) h (Nat.zero_le _) (by rw [exsFit]; trivial)
          have g3 := (rL (d + 1) [] s.next.next).on
          rw [next_i, next_i] at g3
          refine ⟨fun l => ?_, by rw [next_i]; omega⟩
          rw [Ex.fitE]
          exact ⟨by omega, .inr (.inr (.inl ⟨rfl, c5, rfl, g1, g2⟩))⟩
        · rw [if_pos (by simp [c6])]
          refine ⟨fun l => ?_, Nat.lt_succ_self _⟩
          rw [Ex.fitE]
          exact ⟨by omega, .inr (.inl ⟨rfl, c5, rfl, rfl⟩)⟩
      · rw [if_pos (by simp [c5])] at h; exact absurd h (bad_ne _ _ _)
    · rw [argL] at h ⊢
      by_cases c1 : T.l.length ≤ s.i ∨ T.is s.i [41] = true
      · rw [if_pos c1]; exact ⟨hl, hx⟩
      rw [if_neg c1] at h ⊢
      have c0 : s.i < T.l.length := by omega
      by_cases c2 : l.length = 5
      · rw [if_pos c2] at h; exact absurd h (bad_ne _ _ _)
      rw [if_neg c2] at h ⊢
      dsimp only at h ⊢
      have hsn : ∀ e : Ex, (l ++ [e]).length ≤ 5 := fun e => by rw [List.length_append, List.length_singleton]; omega
      by_cases c3 : T.is (expr T f d 1 s).2.i [44] = true
      · rw [if_pos c3] at h ⊢
        obtain ⟨g1, g2, _⟩ := hE d 1 s (by omega) (((runs_next T _).trans (rL _ _ _)).clean h)
        have := is_lt c3
        exact hL d _ _ (by rw [next_i]; omega) h (hsn _) (exsFit_snoc hx g1)
      · rw [if_neg c3] at h ⊢
        obtain ⟨g1, g2, _⟩ := hE d 1 s (by omega) h
        exact ⟨hsn _, exsFit_snoc hx g1⟩
    · rw [expr] at h ⊢
      obtain ⟨g1, g2⟩ := hA d s (by omega) ((rO _ _ _ _).clean h)
      have g3 := (rO d m (atom T f d s).1 (atom T f d s).2).on
      obtain ⟨g4, g5⟩ := hO d m _ _ (by omega) h (.inl g1)
      exact ⟨g4, by omega, g5⟩
    · rw [opL] at h ⊢
      dsimp only at h ⊢
      by_cases c1 : tight (T.tok s.i).text < m ∨ tight (T.tok s.i).text = 0
      · rw [if_pos c1] at h ⊢
        refine ⟨?_, c1⟩
        rcases he with he | ⟨n1, h1, h2, _⟩
        · exact he m
        · exact h2 m h1
      rw [if_neg c1] at h ⊢
      have c0 := tok_lt (tight_ne (fun e => c1 (.inr e)))
      obtain ⟨g1, g2, g3⟩ := hE d (tight (T.tok s.i).text + 1) s.next (by rw [next_i]; omega) ((rO _ _ _ _).clean h)
      rw [next_i] at g2
      refine hO d m _ _ (by omega) h (.inr ⟨tight (T.tok s.i).text, by omega, fun l hl => ?_, by rcases g3 with g3 | g3 <;> omega⟩)
      have ge : e.fitE d (tight (T.tok s.i).text) := by
        rcases he with he | ⟨n1, h1, h2, h3⟩
        · exact he _
        · exact h2 _ h3
      rw [Ex.fitE]
      have hd : d < 12 := by cases e; rw [Ex.fitE] at ge; exact ge.1
      refine ⟨hd, .inr (.inr (.inr ⟨rfl, fun e => c1 (.inr e), rfl, rfl, ?_⟩))⟩
      rw [if_neg (by omega), opsFit, opsFit, opsFit]
      exact ⟨ge, g1, trivial⟩
end Go.Sp
end
section
namespace Go.Sp
inductive Well (T : Src) : St → St → Prop where
  | refl (s : St) : Well T s s
  | bad {s r : St} (e : Nat) : Well T s r → Well T s (r.bad T e)
  | next {s r : St} : Well T s r → (r.ds ≠ [] ∨ (T.tok r.i).kind ≠ 4) → Well T s r.next
theorem Well.trans {T : Src} {s r q : St} (h : Well T s r) (g : Well T r q) : Well T s q := by
  induction g with
  | refl => exact h
  | bad e _ ih => exact .bad e ih
  | next _ k ih => exact .next ih k
structure BadT (T : Src) : Prop where
  out : ∀ i, (T.tok i).kind = 4 → ∃ c, (T.tok i).text = [c] ∧ isLetter c = false ∧ isDigit c = false ∧ isSign c = false
section
variable {T : Src}
def fine : List UInt8 → Bool
  | [] => true
  | c :: _ => isLetter c || isDigit c || isSign c
theorem BadT.ok (h : BadT T) {i : Nat} {w : List UInt8} (hw : (T.tok i).text = w) (hf : fine w = true) : (T.tok i).kind ≠ 4 := fun h4 => by
  obtain ⟨c, h1, h2, h3, h5⟩ := h.out i h4
  rw [hw] at h1
  subst h1
  simp [fine, h2, h3, h5] at hf
theorem BadT.is (h : BadT T) {i : Nat} {w : List UInt8} (hw : T.is i w = true) (hf : fine w = true) : (T.tok i).kind ≠ 4 := by
  simp only [Src.is, Bool.and_eq_true, decide_eq_true_eq] at hw
  exact h.ok hw.2 hf
theorem atom_on (f d : Nat) (s : St) (h : name (T.tok s.i).text = true) : (atom T (f + 1) d s).2.ds ≠ [] ∨ s.i + 1 ≤ (atom T (f + 1) d s).2.i := by
  have hl := tok_lt (name_ne h)
  rw [atom]
  dsimp only
  rw [if_neg (by omega)]
  split
  · exact .inl (bad_ne _ _ _)
  · split
    · split
      · exact .inl (bad_ne _ _ _)
      · exact .inr (Nat.le_refl _)
    · split
      · have := (((runs_expr T f).2.2.1 (d + 1) 1 s.next).trans (runs_need T _ [41])).on
        exact .inr this
      · split
        · exact .inl (bad_ne _ _ _)
        · split
          · exact .inr (Nat.le_refl _)
          · have := (((runs_next T s.next).trans ((runs_expr T f).2.1 (d + 1) [] s.next.next)).trans (runs_need T _ [41])).on
            exact .inr this
theorem stm_on (f d : Nat) (s : St) : (stm T (f + 3) d s).2.ds ≠ [] ∨ s.i + 1 ≤ (stm T (f + 3) d s).2.i := by
  have hE := (runs_expr T (f + 2)).2.2.1
  have hB := (runs_block T (f + 2)).1
  rw [stm]
  dsimp only
  split
  · right
    have g2 : Runs T (s.next.named T).2 (if (!T.is (s.next.named T).2.i [58]) = true then ((0 : Nat), (s.next.named T).2) else lab T (s.next.named T).2.next).2 := by
      split
      · exact .refl _
      · exact (runs_next T _).trans (runs_lab T _)
    exact (((((runs_named T s.next).trans g2).trans (runs_need T _ _)).trans (hE _ _ _)).trans (runs_need T _ _)).on
  · split
    · right
      have g1 := (hE d 1 s.next).trans (hB d (expr T (f + 2) d 1 s.next).2)
      split
      · exact ((Runs.next g1).trans (hB d _)).on
      · exact g1.on
    · split
      · exact .inr ((hE d 1 s.next).trans (hB d (expr T (f + 2) d 1 s.next).2)).on
      · split
        · exact .inr (((runs_named T s.next).trans (hE d 1 _)).trans (runs_need T _ _)).on
        · split
          · exact .inr ((hE d 1 s.next).trans (runs_need T _ _)).on
          · split
            · rename_i hn
              split
              · exact .inr (((runs_next T s.next).trans (hE d 1 _)).trans (runs_need T _ [59])).on
              · have ha := atom_on (T := T) f d s hn
                have hr : Runs T (atom T (f + 1) d s).2 ((expr T (f + 2) d 1 s).2.need T [59]).2 := by
                  rw [expr]
                  exact ((runs_expr T (f + 1)).2.2.2 d 1 _ _).trans (runs_need T _ _)
                rcases ha with ha | ha
                · exact .inl (hr.told ha)
                · exact .inr (Nat.le_trans ha hr.on)
            · exact .inl (bad_ne _ _ _)
end
end Go.Sp
end
section
namespace Go.Sp
mutual
def Ex.spine : Ex → Prop
  | .mk k nm _ args _ _ => k = 2 ∨ k = 4 ∨ (k = 3 ∧ spineL args nm)
def spineL : List Ex → List UInt8 → Prop
  | [], _ => False
  | a :: _, nm => a.spine ∧ (a.kind = 3 → tight nm ≤ tight a.name) ∧ (a.kind = 2 → nm ≠ [61])
 end
mutual
def Stm.fitS : Stm → Nat → Prop
  | .mk k nm _ lb o e thn els _ _, d => e.fitE d 1 ∧
    ((k = 1 ∧ name nm = true ∧ lb < 256 ∧ (o = true → lb = 0) ∧ thn = [] ∧ els = []) ∨
     (k = 2 ∧ name nm = true ∧ lb = 0 ∧ o = false ∧ thn = [] ∧ els = []) ∨
     (k = 5 ∧ name nm = true ∧ lb = 0 ∧ o = false ∧ thn = [] ∧ els = []) ∨
     (k = 6 ∧ nm = [] ∧ lb = 0 ∧ o = false ∧ thn = [] ∧ els = []) ∨
     (k = 7 ∧ nm = [] ∧ lb = 0 ∧ o = false ∧ thn = [] ∧ els = [] ∧ e.spine) ∨
     ((k = 3 ∨ k = 4 ∧ els = []) ∧ nm = [] ∧ lb = 0 ∧ o = false ∧ d < 12 ∧ thn.length ≤ 40 ∧ els.length ≤ 40 ∧ stmsFit thn (d + 1) ∧ stmsFit els (d + 1)))
def stmsFit : List Stm → Nat → Prop
  | [], _ => True
  | x :: xs, d => x.fitS d ∧ stmsFit xs d
 end
theorem stmsFit_snoc : ∀ {l : List Stm} {d : Nat} {x : Stm}, stmsFit l d → x.fitS d → stmsFit (l ++ [x]) d
  | [], d, e, _, he => by rw [List.nil_append, stmsFit, stmsFit]; exact ⟨he, trivial⟩
  | a :: l, d, e, h, he => by rw [stmsFit] at h; rw [List.cons_append, stmsFit]; exact ⟨h.1, stmsFit_snoc h.2 he⟩
structure Itm.fitI (it : Itm) : Prop where
  named : Sp.name it.name = true
  label : it.label < 256
  kind : it.kind = 2 ∨ it.kind = 1 ∧ it.params = [] ∧ it.sends = [] ∧ it.body = []
  params : it.params.length ≤ 5 ∧ ∀ p ∈ it.params, Sp.name p.name = true ∧ p.label < 256
  sends : it.sends.length ≤ 5 ∧ ∀ p ∈ it.sends, Sp.name p.name = true
  body : it.body.length ≤ 40 ∧ stmsFit it.body 1
  none : it.diags = []
def NumT (T : Src) : Prop := ∀ i, (T.tok i).kind = 2 → name (T.tok i).text = false
theorem spine_op {T : Src} : ∀ f d m (e : Ex) (s : St), e.spine → (e.kind = 3 → tight (T.tok s.i).text ≤ tight e.name) → (e.kind = 2 → (T.tok s.i).text ≠ [61]) → 3 * (T.l.length - s.i) + 1 ≤ f → (opL T f d m e s).2.ds = [] → (opL T f d m e s).1.spine
  | 0, _, _, _, _, _, _, _, h, _ => by omega
  | f + 1, d, m, e, s, h1, h2, h3, hf, h => by
    rw [opL] at h ⊢
    dsimp only at h ⊢
    by_cases c1 : tight (T.tok s.i).text < m ∨ tight (T.tok s.i).text = 0
    · rw [if_pos c1]; exact h1
    rw [if_neg c1] at h ⊢
    have c0 := tok_lt (tight_ne (fun e => c1 (.inr e)))
    obtain ⟨g1, g2, g3⟩ := (good_expr T f).2.2.1 d (tight (T.tok s.i).text + 1) s.next (by rw [next_i]; omega) (((runs_expr T f).2.2.2 _ _ _ _).clean h)
    rw [next_i] at g2
    refine spine_op f d m _ _ ?_ (fun _ => ?_) (fun h => (by cases h)) (by omega) h
    · rw [Ex.spine]
      refine .inr (.inr ⟨rfl, ?_⟩)
      rw [spineL]
      exact ⟨h1, h2, h3⟩
    · show tight _ ≤ tight (T.tok s.i).text
      rcases g3 with g3 | g3 <;> omega
theorem spine_expr {T : Src} (hN : NumT T) (f d : Nat) (s : St) (hn : name (T.tok s.i).text = true) (he : T.is (s.i + 1) [61] = false) (hf : 3 * (T.l.length - s.i) + 3 ≤ f) (h : (expr T f d 1 s).2.ds = []) : (expr T f d 1 s).1.spine := by
  obtain ⟨f, rfl⟩ : ∃ g, f = g + 1 + 1 := ⟨f - 2, by omega⟩
  rw [expr] at h ⊢
  have ha := ((runs_expr T (f + 1)).2.2.2 _ _ _ _).clean h
  have hlt := tok_lt (name_ne hn)
  have hg := ((good_expr T (f + 1)).1 d s (by omega) ha).2
  have key : (atom T (f + 1) d s).1.spine ∧ (atom T (f + 1) d s).1.kind ≠ 3 ∧ ((atom T (f + 1) d s).1.kind = 2 → (T.tok (atom T (f + 1) d s).2.i).text ≠ [61]) := by
    rw [atom] at ha ⊢
    dsimp only at ha ⊢
    rw [if_neg (by omega)] at ha ⊢
    by_cases c2 : 12 ≤ d
    · rw [if_pos c2] at ha; exact absurd ha (bad_ne _ _ _)
    rw [if_neg c2] at ha ⊢
    rw [if_neg (fun e => by rw [hN _ e] at hn; cases hn)] at ha ⊢
    rw [if_neg (fun e => by rw [e] at hn; revert hn; decide), if_neg (by simp [hn])] at ha ⊢
    by_cases c6 : T.is (s.i + 1) [40] = true
    · rw [if_neg (by simp [c6])]
      dsimp only
      refine ⟨?_, (fun h => (by cases h)), (fun h => (by cases h))⟩
      rw [Ex.spine]; exact .inr (.inl rfl)
    · rw [if_pos (by simp [c6])]
      dsimp only
      refine ⟨?_, (fun h => (by cases h)), fun _ e => ?_⟩
      · rw [Ex.spine]; exact .inl rfl
      · have : T.is (s.i + 1) [61] = true := by
          have hl : s.i + 1 < T.l.length := tok_lt (i := s.i + 1) (by rw [show (T.tok (s.i + 1)).text = [61] from e]; simp)
          rw [Src.is, decide_eq_true hl, decide_eq_true (show (T.tok (s.i + 1)).text = [61] from e)]; rfl
        rw [he] at this; cases this
  exact spine_op _ _ _ _ _ key.1 (fun h => absurd h key.2.1) key.2.2 (by omega) h
theorem good_block {T : Src} (hN : NumT T) : ∀ f, (∀ d s, 5 * (T.l.length - s.i) + 2 ≤ f → (block T f d s).2.ds = [] → d < 12 ∧ (block T f d s).1.length ≤ 40 ∧ stmsFit (block T f d s).1 (d + 1)) ∧
    (∀ d l s, 5 * (T.l.length - s.i) + 6 ≤ f → (stmL T f d l s).2.ds = [] → l.length ≤ 40 → stmsFit l d → (stmL T f d l s).1.length ≤ 40 ∧ stmsFit (stmL T f d l s).1 d) ∧
    (∀ d s, 5 * (T.l.length - s.i) + 5 ≤ f → (stm T f d s).2.ds = [] → (stm T f d s).1.fitS d)
  | 0 => ⟨fun _ _ h => by omega, fun _ _ _ h => by omega, fun _ s h => by omega⟩
  | f + 1 => by
    obtain ⟨hB, hL, hS⟩ := good_block hN f
    obtain ⟨rB, rL, rS⟩ := runs_block T f
    have rE := (runs_expr T f).2.2.1
    have gE := (good_expr T f).2.2.1
    refine ⟨fun d s hf h => ?_, fun d l s hf h hl hx => ?_, fun d s hf h => ?_⟩
    · rw [block] at h ⊢
      by_cases c1 : T.is s.i [123] = true
      · rw [if_neg (by simp [c1])] at h ⊢
        have c0 := is_lt c1
        by_cases c2 : 12 ≤ d
        · rw [if_pos c2] at h; exact absurd h (bad_ne _ _ _)
        rw [if_neg c2] at h ⊢
        dsimp only at h ⊢
        obtain ⟨g1, g2⟩ := hL (d + 1) [] s.next (by rw [next_i]; omega) ((runs_need T _ _).clean h) (Nat.zero_le _) (by rw [stmsFit]; trivial)
        exact ⟨by omega, g1, g2⟩
      · rw [if_pos (by simp [c1])] at h; exact absurd h (bad_ne _ _ _)
    · rw [stmL] at h ⊢
      by_cases c1 : T.l.length ≤ s.i ∨ T.is s.i [125] = true
      · rw [if_pos c1]; exact ⟨hl, hx⟩
      rw [if_neg c1] at h ⊢
      have c0 : s.i < T.l.length := by omega
      by_cases c2 : 40 ≤ l.length
      · rw [if_pos c2] at h; exact absurd h (bad_ne _ _ _)
      rw [if_neg c2] at h ⊢
      dsimp only at h ⊢
      have hs := (rL _ _ _).clean h
      have hs2 : (stm T f d s).2.ds = [] := by
        split at hs
        · exact hs
        · exact hs
      have ho : s.i + 1 ≤ (stm T f d s).2.i := by
        obtain ⟨f', rfl⟩ : ∃ f', f = f' + 3 := ⟨f - 3, by omega⟩
        exact (stm_on f' d s).resolve_left (fun hh => hh hs2)
      rw [if_neg (by omega)] at h ⊢
      exact hL d _ _ (by omega) h (by rw [List.length_append, List.length_singleton]; omega) (stmsFit_snoc hx (hS d s (by omega) hs2))
    · have lt : ∀ t : List UInt8, t ≠ [] → (T.tok s.i).text = t → s.i < T.l.length := fun t ht e => tok_lt (by rw [e]; exact ht)
      have hn : s.next.i = s.i + 1 := rfl
      rw [stm] at h ⊢
      dsimp only at h ⊢
      by_cases c1 : (T.tok s.i).text = [108, 101, 116]
      · rw [if_pos c1] at h ⊢
        have h0 := lt _ (by simp) c1
        have e2 := (runs_need T _ _).clean h
        have e1 := (runs_need T _ _).clean ((rE _ _ _).clean e2)
        have u2 := (runs_need T (if (!T.is (s.next.named T).2.i [58]) = true then ((0 : Nat), (s.next.named T).2) else lab T (s.next.named T).2.next).2 [61]).on
        have g2 : Runs T (s.next.named T).2 (if (!T.is (s.next.named T).2.i [58]) = true then ((0 : Nat), (s.next.named T).2) else lab T (s.next.named T).2.next).2 := by
          split
          · exact .refl _
          · exact (runs_next T _).trans (runs_lab T _)
        have e0 := named_ok (g2.clean e1)
        have u1 := g2.on
        have u0 : s.next.i + 1 ≤ (s.next.named T).2.i := by rw [e0.2]; exact Nat.le_refl _
        dsimp only at h ⊢
        obtain ⟨q1, _⟩ := gE d 1 _ (by omega) e2
        rw [Stm.fitS]
        refine ⟨q1, .inl ⟨rfl, by rw [e0.2]; exact e0.1, ?_, ?_, rfl, rfl⟩⟩
        · split
          · exact Nat.zero_lt_succ _
          · exact lab_lt _ _
        · intro ho
          rw [if_pos ho]
      rw [if_neg c1] at h ⊢
      by_cases c2 : (T.tok s.i).text = [105, 102]
      · rw [if_pos c2] at h ⊢
        have h0 := lt _ (by simp) c2
        have u1 := (rE d 1 s.next).on
        have u2 := (rB d (expr T f d 1 s.next).2).on
        by_cases c5 : T.is (block T f d (expr T f d 1 s.next).2).2.i [101, 108, 115, 101] = true
        · rw [if_pos c5] at h ⊢
          dsimp only at h ⊢
          have e2 := ((runs_next T _).trans (rB _ _)).clean h
          have e1 := (rB _ _).clean e2
          obtain ⟨q1, _⟩ := gE d 1 s.next (by omega) e1
          obtain ⟨b1, b2, b3⟩ := hB d _ (by omega) e2
          obtain ⟨b4, b5, b6⟩ := hB d _ (by rw [next_i]; omega) h
          rw [Stm.fitS]
          exact ⟨q1, .inr (.inr (.inr (.inr (.inr ⟨.inl rfl, rfl, rfl, rfl, b1, b2, b5, b3, b6⟩))))⟩
        · rw [if_neg c5] at h ⊢
          dsimp only at h ⊢
          have e1 := (rB _ _).clean h
          obtain ⟨q1, _⟩ := gE d 1 s.next (by omega) e1
          obtain ⟨b1, b2, b3⟩ := hB d _ (by omega) h
          rw [Stm.fitS]
          exact ⟨q1, .inr (.inr (.inr (.inr (.inr ⟨.inl rfl, rfl, rfl, rfl, b1, b2, Nat.zero_le _, b3, by rw [stmsFit]; trivial⟩))))⟩
      rw [if_neg c2] at h ⊢
      by_cases c3 : (T.tok s.i).text = [119, 104, 105, 108, 101]
      · rw [if_pos c3] at h ⊢
        have h0 := lt _ (by simp) c3
        have u1 := (rE d 1 s.next).on
        dsimp only at h ⊢
        have e1 := (rB _ _).clean h
        obtain ⟨q1, _⟩ := gE d 1 s.next (by omega) e1
        obtain ⟨b1, b2, b3⟩ := hB d _ (by omega) h
        rw [Stm.fitS]
        exact ⟨q1, .inr (.inr (.inr (.inr (.inr ⟨.inr ⟨rfl, rfl⟩, rfl, rfl, rfl, b1, b2, Nat.zero_le _, b3, by rw [stmsFit]; trivial⟩))))⟩
      rw [if_neg c3] at h ⊢
      by_cases c4 : (T.tok s.i).text = [115, 101, 110, 100]
      · rw [if_pos c4] at h ⊢
        have h0 := lt _ (by simp) c4
        have e2 := (runs_need T _ _).clean h
        have e0 := named_ok ((rE _ _ _).clean e2)
        have u0 := (runs_named T s.next).on
        dsimp only at h ⊢
        obtain ⟨q1, _⟩ := gE d 1 _ (by omega) e2
        rw [Stm.fitS]
        exact ⟨q1, .inr (.inr (.inl ⟨rfl, by rw [e0.2]; exact e0.1, rfl, rfl, rfl, rfl⟩))⟩
      rw [if_neg c4] at h ⊢
      by_cases c5 : (T.tok s.i).text = [114, 101, 116, 117, 114, 110]
      · rw [if_pos c5] at h ⊢
        have h0 := lt _ (by simp) c5
        have e2 := (runs_need T _ _).clean h
        dsimp only at h ⊢
        obtain ⟨q1, _⟩ := gE d 1 _ (by omega) e2
        rw [Stm.fitS]
        exact ⟨q1, .inr (.inr (.inr (.inl ⟨rfl, rfl, rfl, rfl, rfl, rfl⟩)))⟩
      rw [if_neg c5] at h ⊢
      by_cases c6 : name (T.tok s.i).text = true
      · rw [if_pos c6] at h ⊢
        have h0 := tok_lt (name_ne c6)
        by_cases c7 : T.is (s.i + 1) [61] = true
        · rw [if_pos c7] at h ⊢
          have h1 := is_lt c7
          have e2 := (runs_need T _ _).clean h
          dsimp only at h ⊢
          obtain ⟨q1, _⟩ := gE d 1 s.next.next (by rw [next_i, next_i]; omega) e2
          rw [Stm.fitS]
          exact ⟨q1, .inr (.inl ⟨rfl, c6, rfl, rfl, rfl, rfl⟩)⟩
        · rw [if_neg c7] at h ⊢
          have e2 := (runs_need T _ _).clean h
          dsimp only at h ⊢
          obtain ⟨q1, _⟩ := gE d 1 s (by omega) e2
          rw [Stm.fitS]
          exact ⟨q1, .inr (.inr (.inr (.inr (.inl ⟨rfl, rfl, rfl, rfl, rfl, rfl, spine_expr hN f d s c6 (by simpa using c7) (by omega) e2⟩))))⟩
      · rw [if_neg c6] at h
        exact absurd h (bad_ne _ _ _)
theorem good_parL (T : Src) : ∀ (f : Nat) (l : List Par) (s : St), (parL T f l s).2.ds = [] → l.length ≤ 5 → (∀ p ∈ l, name p.name = true ∧ p.label < 256) → (parL T f l s).1.length ≤ 5 ∧ ∀ p ∈ (parL T f l s).1, name p.name = true ∧ p.label < 256
  | 0, l, s, _, h1, h2 => by rw [parL]; exact ⟨h1, h2⟩
  | f + 1, l, s, h, h1, h2 => by
    rw [parL] at h ⊢
    by_cases c1 : T.l.length ≤ s.i ∨ T.is s.i [41] = true
    · rw [if_pos c1]; exact ⟨h1, h2⟩
    rw [if_neg c1] at h ⊢
    by_cases c2 : 5 ≤ l.length
    · rw [if_pos c2] at h; exact absurd h (bad_ne _ _ _)
    rw [if_neg c2] at h ⊢
    dsimp only at h ⊢
    by_cases c3 : (!((s.named T).2.need T [58]).1) = true
    · rw [if_pos c3] at h
      have := need_ok h
      rw [St.need, if_pos this.1] at c3; cases c3
    rw [if_neg c3] at h ⊢
    have hx : ∀ (h : (lab T ((s.named T).2.need T [58]).2).2.ds = []), ∀ p ∈ l ++ [⟨(s.named T).1, (lab T ((s.named T).2.need T [58]).2).1, (T.tok s.i).pos⟩], name p.name = true ∧ p.label < 256 := fun h p hp => by
      have e0 := named_ok ((runs_need T _ _).clean ((runs_lab T _).clean h))
      rcases List.mem_append.1 hp with hp | hp
      · exact h2 p hp
      · obtain rfl := List.mem_singleton.1 hp
        exact ⟨by rw [e0.2]; exact e0.1, lab_lt _ _⟩
    have hl : ∀ p : Par, (l ++ [p]).length ≤ 5 := fun p => by rw [List.length_append, List.length_singleton]; omega
    by_cases c4 : T.is (lab T ((s.named T).2.need T [58]).2).2.i [44] = true
    · rw [if_pos c4] at h ⊢
      have := (runs_parL T _ _ _).clean h
      exact good_parL T f _ _ h (hl _) (hx this)
    · rw [if_neg c4] at h ⊢
      exact ⟨hl _, hx h⟩
theorem good_sndL (T : Src) : ∀ (f : Nat) (l : List Rf) (s : St), (sndL T f l s).2.ds = [] → l.length ≤ 5 → (∀ p ∈ l, name p.name = true) → (sndL T f l s).1.length ≤ 5 ∧ ∀ p ∈ (sndL T f l s).1, name p.name = true
  | 0, l, s, _, h1, h2 => by rw [sndL]; exact ⟨h1, h2⟩
  | f + 1, l, s, h, h1, h2 => by
    rw [sndL] at h ⊢
    by_cases c2 : 5 ≤ l.length
    · rw [if_pos c2] at h; exact absurd h (bad_ne _ _ _)
    rw [if_neg c2] at h ⊢
    dsimp only at h ⊢
    have hx : ∀ (h : (s.named T).2.ds = []), ∀ p ∈ l ++ [⟨(s.named T).1, (T.tok s.i).pos⟩], name p.name = true := fun h p hp => by
      have e0 := named_ok h
      rcases List.mem_append.1 hp with hp | hp
      · exact h2 p hp
      · obtain rfl := List.mem_singleton.1 hp
        rw [e0.2]; exact e0.1
    have hl : ∀ p : Rf, (l ++ [p]).length ≤ 5 := fun p => by rw [List.length_append, List.length_singleton]; omega
    by_cases c4 : T.is (s.named T).2.i [44] = true
    · rw [if_pos c4] at h ⊢
      have := ((runs_next T _).trans (runs_sndL T _ _ _)).clean h
      exact good_sndL T f _ _ h (hl _) (hx this)
    · rw [if_neg c4] at h ⊢
      exact ⟨hl _, hx h⟩
end Go.Sp
end
section
namespace Go.Sp
theorem toks_num (s : List UInt8) : NumT ⟨tokens s, s.length⟩ := fun i h2 => by
  rcases Nat.lt_or_ge i (tokens s).length with h | h
  · rw [Src.tok, List.getD_eq_getElem?_getD, List.getElem?_eq_getElem h] at h2 ⊢
    have ok := tokens_ok s _ (List.getElem_mem h)
    dsimp only [Option.getD_some] at h2 ⊢
    generalize (tokens s)[i] = t at ok h2 ⊢
    have o1 := ok.one.1
    have ol := ok.len
    rw [h2] at o1
    cases hd : s.drop t.pos with
    | nil => rw [hd] at o1; cases o1
    | cons c r =>
      have ht := ok.text
      rw [hd] at o1 ht
      obtain ⟨m, hm⟩ : ∃ m, t.text.length = m + 1 := ⟨t.text.length - 1, by omega⟩
      rw [hm, List.take_succ_cons] at ht
      have hc : isLetter c = false := by
        simp only [one] at o1
        split at o1
        · cases o1
        · split at o1
          · cases o1
          · split at o1
            · cases o1
            · rename_i h3; simpa using h3
      rw [ht, name, word]
      simp [hc]
  · rw [tok_end h] at h2; cases h2
theorem clean_of {T : Src} {s : St} (h : (if s.i < T.l.length then s.bad T 2 else s).ds = []) : s.ds = [] ∧ T.l.length ≤ s.i := by
  split at h
  · exact absurd h (bad_ne _ _ _)
  · exact ⟨h, by omega⟩
theorem good_item (src : List UInt8) (at_ : Int) (h : (item src at_).diags = []) : (item src at_).fitI := by
  have hN := toks_num src
  have hI := item_eq src at_
  rw [hI] at h ⊢
  generalize (⟨tokens src, src.length⟩ : Src) = T at h hN ⊢
  have hc := clean_of (T := T) (s := (itemQ T at_ src.length).2) h
  refine { none := h, named := ?_, label := ?_, kind := ?_, params := ?_, sends := ?_, body := ?_ } <;> clear h <;> show _
  all_goals
    dsimp only [itemT]
    rw [itemQ] at hc ⊢
    by_cases c1 : T.is 0 [102, 110] = true
    · rw [if_pos c1] at hc ⊢
      have hc := hc.1
      dsimp only [fnItm] at hc ⊢
      have e5 := (runs_block T _).1 _ _ |>.clean hc
      have gB := (good_block hN _).1 _ _ (by rw [fuel]; omega) hc
      have g4 : (lab T (((parL T 6 [] ((St.named T ⟨1, []⟩).2.need T [40]).2).2.need T [41]).2.need T [58]).2).2.ds = [] ∧ ∀ r : List Rf × St, r = (if T.is (lab T (((parL T 6 [] ((St.named T ⟨1, []⟩).2.need T [40]).2).2.need T [41]).2.need T [58]).2).2.i [115, 101, 110, 100, 115] = true then sndL T 6 [] (lab T (((parL T 6 [] ((St.named T ⟨1, []⟩).2.need T [40]).2).2.need T [41]).2.need T [58]).2).2.next else ([], (lab T (((parL T 6 [] ((St.named T ⟨1, []⟩).2.need T [40]).2).2.need T [41]).2.need T [58]).2).2)) → r.1.length ≤ 5 ∧ ∀ p ∈ r.1, name p.name = true := by
        split at e5
        · rename_i hs
          refine ⟨((runs_next T _).trans (runs_sndL T _ _ _)).clean e5, fun r hr => ?_⟩
          rw [if_pos hs] at hr
          subst hr
          exact good_sndL T _ _ _ e5 (Nat.zero_le _) (fun _ h => (by cases h))
        · rename_i hs
          refine ⟨e5, fun r hr => ?_⟩
          rw [if_neg hs] at hr
          subst hr
          exact ⟨Nat.zero_le _, fun _ h => (by cases h)⟩
      have e3 := (runs_need T _ _).clean ((runs_need T _ _).clean ((runs_lab T _).clean g4.1))
      have gP := good_parL T _ _ _ e3 (Nat.zero_le _) (fun _ h => (by cases h))
      have e1 := named_ok ((runs_need T _ _).clean ((runs_parL T _ _ _).clean e3))
      first
        | exact (by rw [e1.2]; exact e1.1)
        | exact lab_lt _ _
        | exact .inl rfl
        | exact gP
        | exact g4.2 _ rfl
        | exact ⟨gB.2.1, gB.2.2⟩
    · rw [if_neg c1] at hc ⊢
      by_cases c2 : T.is 0 [99, 104, 97, 110] = true
      · rw [if_pos c2] at hc ⊢
        have hc := hc.1
        dsimp only [chItm] at hc ⊢
        have e1 := named_ok ((runs_need T _ _).clean ((runs_lab T _).clean ((runs_need T _ _).clean hc)))
        first
          | exact (by rw [e1.2]; exact e1.1)
          | exact lab_lt _ _
          | exact .inr ⟨rfl, rfl, rfl, rfl⟩
          | exact ⟨Nat.zero_le _, fun _ h => (by cases h)⟩
          | exact ⟨Nat.zero_le _, by rw [stmsFit]; trivial⟩
      · rw [if_neg c2] at hc
        exact absurd hc.1 (bad_ne _ _ _)
end Go.Sp
end
