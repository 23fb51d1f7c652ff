/- Own work: texts SpecEff2, EfA, EfB, FwRow3, one behind the other. -/
import Derived.Test.YtghommdgmglmdaaDoorEl14
import Derived.Laws.OwnMore
section
namespace Go.Sp
theorem sumE_le : ∀ {r s : List (List Nm)}, (∀ a ∈ r, Srt a) → (∀ a ∈ s, Srt a) → LeE r s → sumE r ≤ sumE s ∧ (sumE s ≤ sumE r → r = s)
  | [], [], _, _, _ => ⟨Nat.le_refl _, fun _ => rfl⟩
  | [], b :: s, _, _, h => by have := h.1; simp at this
  | a :: r, [], _, _, h => by have := h.1; simp at this
  | a :: r, b :: s, hr, hs, h => by
    have h1 : ∀ x ∈ a, x ∈ b := fun x hx => h.2 0 x hx
    have ha := hr a List.mem_cons_self
    have hb := hs b List.mem_cons_self
    have h2 := srt_len ha h1
    obtain ⟨h3, h4⟩ := sumE_le (r := r) (s := s) (fun x hx => hr x (List.mem_cons_of_mem _ hx)) (fun x hx => hs x (List.mem_cons_of_mem _ hx)) ⟨by simpa using h.1, fun i x hx => h.2 (i + 1) x hx⟩
    have e1 : sumE (a :: r) = a.length + sumE r := rfl
    have e2 : sumE (b :: s) = b.length + sumE s := rfl
    refine ⟨by omega, fun hl => ?_⟩
    rw [srt_same ha hb h1 (by omega), h4 (by omega)]
theorem sumE_top {its : List Itm} {r : List (List Nm)} (h : RowsE its r) : sumE r ≤ its.length * (namesE its).length := by
  rw [← h.len]
  have key : ∀ (l : List (List Nm)), (∀ a ∈ l, a ∈ r) → sumE l ≤ l.length * (namesE its).length := by
    intro l
    induction l with
    | nil => intro _; simp [sumE]
    | cons a l ih =>
      intro hl
      have h1 := ih (fun x hx => hl x (List.mem_cons_of_mem _ hx))
      have ha := hl a List.mem_cons_self
      have h2 := srt_len (h.srt a ha) (h.of a ha)
      have e1 : sumE (a :: l) = a.length + sumE l := rfl
      rw [e1, List.length_cons, Nat.add_mul]; omega
  exact key r (fun _ h => h)
abbrev topE (its : List Itm) : Nat := its.length * (namesE its).length
theorem iterE_fix {its : List Itm} {r : List (List Nm)} (h : roundE its r = r) : ∀ n, iterE its n r = r
  | 0 => rfl
  | n + 1 => by rw [iterE, if_pos h]
theorem round_more {its : List Itm} {r : List (List Nm)} (h : RowsE its r) (hn : roundE its r ≠ r) : sumE r < sumE (roundE its r) := by
  obtain ⟨h1, h2⟩ := h.round
  obtain ⟨h3, h4⟩ := sumE_le h.srt h1.srt h2
  rcases Nat.lt_or_ge (sumE r) (sumE (roundE its r)) with h5 | h5
  · exact h5
  · exact absurd (h4 h5).symm hn
/-- enough rounds are enough. -/
theorem iterE_enough {its : List Itm} : ∀ (d : Nat) {r : List (List Nm)}, RowsE its r → topE its - sumE r ≤ d → ∀ n m, d < n → d < m → iterE its n r = iterE its m r
  | d, r, h, hd, n, m, hn, hm => by
    by_cases e : roundE its r = r
    · rw [iterE_fix e, iterE_fix e]
    · have h1 := round_more h e
      have h2 := sumE_top h.round.1
      have e0 : topE its = its.length * (namesE its).length := rfl
      obtain ⟨n, rfl⟩ : ∃ k, n = k + 1 := ⟨n - 1, by omega⟩
      obtain ⟨m, rfl⟩ : ∃ k, m = k + 1 := ⟨m - 1, by omega⟩
      rw [iterE, if_neg e, iterE, if_neg e]
      match d, hd with
      | 0, hd => omega
      | d + 1, hd => exact iterE_enough d h.round.1 (by omega) n m (by omega) (by omega)
theorem iterE_next {its : List Itm} {r : List (List Nm)} (h : RowsE its r) (e : roundE its r ≠ r) : iterE its (topE its + 1) r = iterE its (topE its + 1) (roundE its r) := by
  have h1 := round_more h e
  have h2 := sumE_top h.round.1
  have e0 : topE its = its.length * (namesE its).length := rfl
  rw [iterE, if_neg e]
  exact iterE_enough (topE its - 1) h.round.1 (by omega) _ _ (by omega) (by omega)
theorem iterE_end {its : List Itm} : ∀ (d : Nat) {r : List (List Nm)}, RowsE its r → topE its - sumE r ≤ d → ∀ n, d < n → roundE its (iterE its n r) = iterE its n r ∧ RowsE its (iterE its n r) ∧ LeE r (iterE its n r)
  | d, r, h, hd, n, hn => by
    by_cases e : roundE its r = r
    · rw [iterE_fix e]; exact ⟨e, h, LeE.refl r⟩
    · have h1 := round_more h e
      have h2 := sumE_top h.round.1
      have e0 : topE its = its.length * (namesE its).length := rfl
      obtain ⟨n, rfl⟩ : ∃ k, n = k + 1 := ⟨n - 1, by omega⟩
      rw [iterE, if_neg e]
      match d, hd with
      | 0, hd => omega
      | d + 1, hd =>
        obtain ⟨h3, h4, h5⟩ := iterE_end d h.round.1 (by omega) n (by omega)
        exact ⟨h3, h4, h.round.2.trans h5⟩
theorem allsE_eq (its : List Itm) : allsE its = iterE its (topE its + 1) (initsE its) := rfl
theorem allsE_end (its : List Itm) : roundE its (allsE its) = allsE its ∧ RowsE its (allsE its) ∧ LeE (initsE its) (allsE its) :=
  iterE_end (topE its) (rowsE_init its) (Nat.sub_le _ _) _ (Nat.lt_succ_self _)
/-- an item leads to another one: by calls. -/
inductive Rch (its : List Itm) : Nat → Nat → Prop
  | refl (i : Nat) : Rch its i i
  | step {i k j : Nat} (h : k ∈ callsE its i) (r : Rch its k j) : Rch its i j
theorem Rch.trans {its : List Itm} {i j k : Nat} (h : Rch its i j) (g : Rch its j k) : Rch its i k := by
  induction h with
  | refl => exact g
  | step h1 _ ih => exact .step h1 (ih g)
theorem Rch.one {its : List Itm} {i k : Nat} (h : k ∈ callsE its i) : Rch its i k := .step h (.refl k)
theorem callsE_lt {its : List Itm} {i k : Nat} (h : k ∈ callsE its i) : k < its.length ∧ (itNo its k).kind = 2 := by
  rw [callsE] at h
  split at h
  · obtain ⟨n, _, hn⟩ := List.mem_filterMap.1 h
    have := findIt_lt hn
    exact ⟨this.1, by omega⟩
  · cases h
/-- all that is in a row comes from where its item leads. -/
def SoundE (its : List Itm) (r : List (List Nm)) : Prop := ∀ i x, x ∈ r.getD i [] → ∃ k, Rch its i k ∧ x ∈ initE its k
theorem SoundE.init (its : List Itm) : SoundE its (initsE its) := fun i x hx => by
  rcases Nat.lt_or_ge i its.length with hi | hi
  · rw [initsE_get its hi] at hx; exact ⟨i, .refl i, hx⟩
  · rw [getD_out (by rw [initsE_len]; exact hi)] at hx; cases hx
theorem SoundE.step {its : List Itm} {r : List (List Nm)} (hr : RowsE its r) (h : SoundE its r) (i : Nat) : SoundE its (stepE its r i) := fun j x hx => by
  by_cases e : i = j
  · subst e
    rcases Nat.lt_or_ge i r.length with hi | hi
    · rw [stepE, getD_set_self hi] at hx
      rcases (rowE_mem hr i x).1 hx with h1 | ⟨k, hk, h1⟩
      · exact h i x h1
      · obtain ⟨m, hm, hx⟩ := h k x h1
        exact ⟨m, .step hk hm, hx⟩
    · rw [stepE, getD_out (by rw [List.length_set]; exact hi)] at hx; cases hx
  · rw [stepE, getD_set_ne e] at hx; exact h j x hx
theorem SoundE.folds {its : List Itm} : ∀ (l : List Nat) {r : List (List Nm)}, RowsE its r → SoundE its r → SoundE its (l.foldl (stepE its) r)
  | [], _, _, h => h
  | i :: l, _, hr, h => SoundE.folds l (hr.step i).1 (h.step hr i)
theorem SoundE.iter {its : List Itm} : ∀ (n : Nat) {r : List (List Nm)}, RowsE its r → SoundE its r → SoundE its (iterE its n r)
  | 0, _, _, h => h
  | n + 1, r, hr, h => by
    rw [iterE]
    split
    · exact h
    · exact SoundE.iter n hr.round.1 (SoundE.folds _ hr h)
theorem allE_closed {its : List Itm} {i k : Nat} (h : k ∈ callsE its i) {x : Nm} (hx : x ∈ allE its k) : x ∈ allE its i := by
  obtain ⟨h1, h2, _⟩ := allsE_end its
  rcases Nat.lt_or_ge i its.length with hi | hi
  · have h3 := folds_fix (List.range its.length) h2 h1 i (List.mem_range.2 hi)
    have h4 : x ∈ (stepE its (allsE its) i).getD i [] := by
      rw [stepE, getD_set_self (by rw [h2.len]; exact hi)]
      exact (rowE_mem h2 i x).2 (.inr ⟨k, h, hx⟩)
    rw [h3] at h4; exact h4
  · rw [callsE, itNo, getD_out hi] at h
    cases h
theorem allE_mem {its : List Itm} {i : Nat} (hi : i < its.length) (x : Nm) : x ∈ allE its i ↔ ∃ k, Rch its i k ∧ x ∈ initE its k := by
  constructor
  · exact fun h => SoundE.iter _ (rowsE_init its) (SoundE.init its) i x h
  · rintro ⟨k, hk, hx⟩
    induction hk with
    | refl i => exact (allsE_end its).2.2.2 i x (by rw [initsE_get its hi]; exact hx)
    | step h _ ih => exact allE_closed h (ih (callsE_lt h).1 hx)
theorem allE_srt (its : List Itm) (i : Nat) : Srt (allE its i) := ((allsE_end its).2.1.getD i).1
theorem allE_ne (its : List Itm) (i : Nat) : [] ∉ allE its i := ((allsE_end its).2.1.getD i).2.2
theorem allsE_len (its : List Itm) : (allsE its).length = its.length := (allsE_end its).2.1.len
/-- what is not a function sends nothing. -/
theorem allE_none {its : List Itm} {i : Nat} (h : (itNo its i).kind ≠ 2) : allE its i = [] := by
  rcases Nat.lt_or_ge i its.length with hi | hi
  · refine srt_ext (allE_srt its i) Srt.nil (fun x => ⟨fun hx => ?_, fun hx => by cases hx⟩)
    obtain ⟨k, hk, hx⟩ := (allE_mem hi x).1 hx
    cases hk with
    | refl => rw [initE, if_neg h] at hx; exact hx
    | step h1 _ => rw [callsE, if_neg h] at h1; cases h1
  · rw [allE, getD_out (by rw [allsE_len]; exact hi)]
/-! a walk over functions: what is still to do, what was looked at, what is sent to -/
structure Bfs (its : List Itm) (i : Nat) (todo had : List Nat) (sends : List Nm) : Prop where
  from_ : ∀ k, k ∈ todo ∨ k ∈ had → Rch its i k ∧ k < its.length
  start : (itNo its i).kind = 2 → i ∈ todo ∨ i ∈ had
  fn : ∀ k ∈ had, (itNo its k).kind = 2
  next : ∀ k ∈ had, ∀ j ∈ callsE its k, j ∈ todo ∨ j ∈ had
  srt : Srt sends
  mem : ∀ x, x ∈ sends ↔ ∃ k ∈ had, x ∈ initE its k
  once : had.Nodup
theorem Bfs.init {its : List Itm} {i : Nat} (hi : i < its.length) : Bfs its i [i] [] [] :=
  ⟨fun k hk => (by
    rcases hk with hk | hk
    · obtain rfl : k = i := by simpa using hk
      exact ⟨.refl _, hi⟩
    · cases hk), fun _ => .inl List.mem_cons_self, fun k hk => (by cases hk), fun k hk => (by cases hk), Srt.nil, fun x => ⟨fun h => (by cases h), fun ⟨k, hk, _⟩ => (by cases hk)⟩, List.nodup_nil⟩
theorem Bfs.skip {its : List Itm} {i k : Nat} {todo had : List Nat} {sends : List Nm} (h : Bfs its i (k :: todo) had sends) (hk : k ∈ had ∨ (itNo its k).kind ≠ 2) : Bfs its i todo had sends := by
  have key : ∀ j, j ∈ k :: todo ∨ j ∈ had → (itNo its j).kind = 2 → j ∈ todo ∨ j ∈ had := fun j hj h2 => by
    rcases hj with hj | hj
    · rcases List.mem_cons.1 hj with rfl | hj
      · rcases hk with hk | hk
        · exact .inr hk
        · exact absurd h2 hk
      · exact .inl hj
    · exact .inr hj
  exact ⟨fun j hj => h.from_ j (hj.imp_left (List.mem_cons_of_mem _)), fun h2 => key i (h.start h2) h2, h.fn, fun j hj m hm => key m (h.next j hj m hm) (callsE_lt hm).2, h.srt, h.mem, h.once⟩
theorem Bfs.done {its : List Itm} {i : Nat} {had : List Nat} {sends : List Nm} (hi : i < its.length) (h : Bfs its i [] had sends) : sends = allE its i := by
  refine srt_ext h.srt (allE_srt its i) (fun x => ?_)
  rw [h.mem, allE_mem hi]
  constructor
  · rintro ⟨k, hk, hx⟩
    exact ⟨k, (h.from_ k (.inr hk)).1, hx⟩
  · rintro ⟨k, hk, hx⟩
    have key : ∀ {a b : Nat}, Rch its a b → a ∈ had → b ∈ had := fun {a b} r => by
      induction r with
      | refl => exact id
      | step h1 _ ih =>
        intro ha
        rcases h.next _ ha _ h1 with h2 | h2
        · cases h2
        · exact ih h2
    by_cases h2 : (itNo its i).kind = 2
    · rcases h.start h2 with h3 | h3
      · cases h3
      · exact ⟨k, key hk h3, hx⟩
    · cases hk with
      | refl => rw [initE, if_neg h2] at hx; cases hx
      | step h1 _ => rw [callsE, if_neg h2] at h1; cases h1
/-- what is wrong with what an item sends to: that it doesn't say so. -/
def saidE (it : Itm) (c : Nm) : Bool := it.sends.any (fun x => decide (x.name = c))
def diagE (c : Nm) : Dg := ⟨0, 0, 10, c⟩
def effD (its : List Itm) (i : Nat) : List Dg := ((allE its i).filter (fun c => !saidE (itNo its i) c)).map diagE
end Go.Sp
end
section
namespace Go.Fw
theorem flatS_ins {l : List (List UInt8)} {k : Nat} {s : List UInt8} : ((l.take k ++ s :: l.drop k).flatMap encS) = (l.flatMap encS).take k ++ str s :: (l.flatMap encS).drop k := by
  rw [flat_one, flat_one, List.map_append, List.map_cons, List.map_take, List.map_drop]
theorem pmEf {x y z : HItem} : [x, y, z].Perm [y, z, x] := List.perm_append_comm (l₁ := [x]) (l₂ := [y, z])
theorem flatS_one (l : List (List UInt8)) : (l.flatMap encS).all (·.oneCell') = true := by
  induction l with
  | nil => rfl
  | cons p l ih => rw [List.flatMap_cons, List.all_append, ih]; rfl
end Go.Fw
namespace Go.Proofs.YtghommdgmglmdaaDoor
open Go.Fw
abbrev strRow (l : List (List UInt8)) (a : Option Addr) (cp : Nat) : HItem := .row (.slice a l.length cp) 9 1 l.length (l.flatMap encS)
/-- it comes to a row. -/
abbrev ToNm (l : List (List UInt8)) : Value → Imm → List HItem → Prop := fun v _ H' => ∃ a cp, v = .slice a l.length cp ∧ H' = [strRow l a cp]
theorem e_search (I : Imm) (l : List (List UInt8)) (a : Option Addr) (cp : Nat) (s : List UInt8) (hs : Sp.Srt l) (hn : l.length ≤ 1000000000) :
    CalR Tryd.prog 23 #[.slice a l.length cp, str s] I [strRow l a cp] (.tuple #[nt (posE l s), .bool (decide (s ∈ l))]) :=
  m_search Tryd.laysNm226 s hs (by omega)
theorem e_insert (I : Imm) (l : List (List UInt8)) (a : Option Addr) (cp vb : Nat) (s : List UInt8) (hs : Sp.Srt l) (hn : l.length ≤ 1000000000) (hm : s ∉ l) :
    CalM Tryd.prog 24 #[.slice a l.length cp, nt (posE l s), .slice (some ⟨vb, 0, none⟩) 1 1] I [strRow l a cp, .row (.slice (some ⟨vb, 0, none⟩) 1 1) 9 1 1 [str s]] (ToNm (Sp.insT s l)) := by
  obtain ⟨h1, h2, h3⟩ := pos_spec (s := s) hs
  have h := m_insert Tryd.laysNm222 (I := I) (ty := 9) rfl (n := l.length) (k := posE l s) (vb := vb) (cp := cp) (a := a) (xs := l.flatMap encS) s h3 (by omega) (flatS_one l)
  refine h.mono (fun v J H' _ hp => ?_)
  obtain ⟨a', cp', rfl, rfl⟩ := hp
  have e := Sp.insT_at h3 (fun j x hj hx => h1 j x hj hx) (fun x hx => h2 _ x (Nat.le_refl _) hx)
  refine ⟨a', cp', by rw [Sp.insT_len], ?_⟩
  rw [← flatS_ins, ← e]
  show _ = [HItem.row (.slice a' (Sp.insT s l).length cp') _ 1 (Sp.insT s l).length _]
  rw [Sp.insT_len]
set_option maxHeartbeats 4000000 in
theorem e_add (I : Imm) (l : List (List UInt8)) (a : Option Addr) (cp : Nat) (s : List UInt8) (hs : Sp.Srt l) (hn : l.length ≤ 1000000000) :
    CalM Tryd.prog 14 #[.slice a l.length cp, str s] I [strRow l a cp] (ToNm (Sp.addE l s)) := by
  refine CalM.of fun w E hm => enter (N := 24) Tryd.func14 rfl [(0, .slice a l.length cp), (1, str s)] args2 rfl ?_
  have hS := e_search I l a cp s hs hn
  by_cases h0 : s = [] ∨ s ∈ l
  · rw [Sp.addE_same h0]
    by_cases hm1 : s ∈ l
    · rw [decide_eq_true hm1] at hS
      repeat' (first
      | (refine m_readC (d:=10) hm (hc:=hS) (k:=?_); clear hm; intro _ hm)
      | refine op_move (k:=?_)
      | refine op_assign (k:=?_)
      | refine op_pick_true (k:=?_)
      | refine op_extract (k:=?_)
      | refine wl_skip (k:=?_)
      | refine wl_nil ?_
      | refine at_then_normal ?_
      | refine at_then_ret ?_
      | refine wc_seq ?_
      | refine wc_region ?_
      | refine wc_ret ?_
      | refine at_ret1 (h:=?_)
      | refine wc_cond_true (ht:=?_))
      all_goals try (exfalso; first | omega | contradiction)
      exact ⟨I, _, ⟨a, cp, rfl, rfl⟩, hm⟩
    · rw [decide_eq_false hm1] at hS
      have hs0 : s = [] := h0.resolve_right hm1
      subst hs0
      repeat' (first
      | (refine m_readC (d:=10) hm (hc:=hS) (k:=?_); clear hm; intro _ hm)
      | refine op_move (k:=?_)
      | refine op_assign (k:=?_)
      | refine op_pick_false (k:=?_)
      | refine op_eql_str (k:=?_)
      | refine op_extract (k:=?_)
      | refine wl_nil ?_
      | refine at_then_normal ?_
      | refine at_then_ret ?_
      | refine wc_seq ?_
      | refine wc_region ?_
      | refine wc_ret ?_
      | refine at_ret1 (h:=?_)
      | refine wc_cond_true (ht:=?_))
      all_goals try (exfalso; first | omega | contradiction)
      exact ⟨I, _, ⟨a, cp, rfl, rfl⟩, hm⟩
  · rw [Sp.addE_new h0]
    have hm1 : s ∉ l := fun h => h0 (.inr h)
    have hs0 : s ≠ [] := fun h => h0 (.inl h)
    rw [decide_eq_false hm1] at hS
    have hI := fun vb => e_insert I l a cp vb s hs hn hm1
    repeat' (first
    | (refine m_readC (d:=10) hm (hc:=hS) (k:=?_); clear hm; intro _ hm)
    | (refine m_buildRow (d:=22) hm (k:=?_); clear hm; intro bb _ hm)
    | (refine m_call (d:=23) hm (hp:=List.Perm.swap _ _ _) (hc:=hI bb) (k:=?_); clear hm; rintro _ I2 _ _ ⟨a2, cp2, rfl, rfl⟩ hleI2 hm; try simp only [setn] at hm)
    | refine op_move (k:=?_)
    | refine op_assign (k:=?_)
    | refine op_pick_false (k:=?_)
    | refine op_eql_str (k:=?_)
    | refine op_extract (k:=?_)
    | refine wl_nil ?_
    | refine at_then_normal ?_
    | refine wc_seq ?_
    | refine wc_region ?_
    | refine wc_skip ?_
    | refine wc_ret ?_
    | refine at_ret1 (h:=?_)
    | (refine wc_cond_dec (ht:=fun _ => ?_) (hf:=fun _ => ?_)<;> (try first | contradiction | (exfalso; omega))))
    all_goals try (exfalso; first | omega | contradiction)
    exact ⟨I2, _, ⟨a2, cp2, rfl, rfl⟩, hm⟩
/-- who gathers: to what is sent, what is called. -/
abbrev EfSt (bd : Nat) (q : List (List UInt8) × List (List UInt8)) (sa : Option Addr) (sp : Nat) (ca : Option Addr) (cp : Nat) : List HItem :=
  [.cell bd [.slice sa q.1.length sp, .slice ca q.2.length cp] 55, strRow q.1 sa sp, strRow q.2 ca cp]
abbrev ToEf (bd : Nat) (q : List (List UInt8) × List (List UInt8)) : Value → Imm → List HItem → Prop := fun v _ H' => v = .tuple #[] ∧ ∃ sa sp ca cp, H' = EfSt bd q sa sp ca cp
structure EfX where
  k : Nat
  I : Imm
  sa : Option Addr
  sp : Nat
  ca : Option Addr
  cp : Nat
set_option maxHeartbeats 8000000 in
theorem e_expr {bd : Nat} : ∀ (n : Nat) (e : Sp.Ex), SizeOf.sizeOf e ≤ n → e.small → ∀ (I : Imm) (b o tc : Nat) (ea : Option Addr) (ec : Nat) (ys : List Value) (q : List (List UInt8) × List (List UInt8)) (sa : Option Addr) (sp : Nat) (ca : Option Addr) (cp : Nat),
    Sp.Srt q.2 → q.2.length + e.cnt ≤ 1000000000 → PtrI I b o tc (exCells e ea ec) → RowI I 74 6 (.slice ea e.args.length ec) e.args.length ys → ExsAt I e.args ys →
    CalM Tryd.prog 25 #[ptr bd, .pointer (some ⟨b, o, none⟩)] I (EfSt bd q sa sp ca cp) (ToEf bd (q.1, Sp.exE e q.2)) := by
  intro n
  induction n with
  | zero => intro e h; cases e; simp at h
  | succ n ih =>
  intro e hsz hsm I b o tc ea ec ys q sa sp ca cp hq hn hp hr hx
  obtain ⟨hal, hasm⟩ := Sp.small_args hsm
  have hcnt := Sp.Ex.cnt_eq e
  refine CalM.of fun w E hm => enter (N := 39) Tryd.func25 rfl [(0, ptr bd), (1, .pointer (some ⟨b, o, none⟩))] args2 rfl ?_
  rw [Sp.exE_eq]
  obtain ⟨c1, hc1⟩ : ∃ c1, c1 = if e.kind = 4 then Sp.addE q.2 e.name else q.2 := ⟨_, rfl⟩
  rw [← hc1]
  have hc1n : q.2.length ≤ c1.length ∧ c1.length ≤ q.2.length + 1 := by
    have := Sp.addE_len q.2 e.name
    rw [hc1]; split <;> omega
  have hc1s : Sp.Srt c1 := by
    rw [hc1]; split
    · exact Sp.addE_srt hq _
    · exact hq
  repeat' (first
  | (refine wc_cut_regN 0 (fun _ : EfX => [(0, ptr bd), (1, .pointer (some ⟨b, o, none⟩))]) (fun x w' => Mem E x.I (EfSt bd (q.1, c1) x.sa x.sp x.ca x.cp) w' ∧ Le I x.I) ?_ ?_))
  · refine ⟨?_⟩
    by_cases k4 : e.kind = 4
    · rw [if_pos k4] at hc1
      have hA := e_add I q.2 ca cp e.name hq (by omega)
      rw [← hc1] at hA
      repeat' (first
      | (refine wc_semi_memL (id:=1) (hm.perm pm1_2) [0,1,2,3,4,5,6,7,8] [9] 10 (h:=?_); clear hm; intro wd hR hm)
      | (refine mt_call (d:=19) hm (hc:=hA) (k:=?_); clear hm; rintro _ I2 _ _ ⟨a2, cp2, rfl, rfl⟩ hle hm; have hleI2 := hle; try simp only [setn] at hm)
      | refine mw_load1 hR (k:=?_)
      | refine iw_load1 hR (k:=?_)
      | (refine ws_nil ?_; replace hm := hR.back hm; clear hR; try simp only [setn] at hm)
      | refine i_load1 hm (k:=?_)
      | (refine m_store1 hm (k:=?_); clear hm; intro _ hm; try simp only [setn] at hm)
      | refine op_move (k:=?_)
      | refine op_eql (k:=?_)
      | refine op_nilCheck (k:=?_)
      | refine op_fieldAddr (k:=?_)
      | refine wl_nil ?_
      | refine at_then_normal ?_
      | refine wc_seq ?_
      | refine wc_region ?_
      | (refine wc_cond_dec (ht:=fun _ => ?_) (hf:=fun _ => ?_)<;> (try first | contradiction | (exfalso; omega)))
      | refine v_move (k:=?_)
      | refine v_nilCheck (k:=?_)
      | refine v_fieldAddr (k:=?_)
      | refine wv_nil ?_)
      all_goals try (exfalso; omega)
      exact at_cut (⟨0, I2, sa, sp, a2, cp2⟩ : EfX) (by exact ⟨rfl, rfl, trivial⟩) ⟨hm.perm pmEf, hleI2⟩
    · rw [if_neg k4] at hc1
      subst hc1
      repeat' (first
      | refine i_load1 hm (k:=?_)
      | refine op_move (k:=?_)
      | refine op_eql (k:=?_)
      | refine op_nilCheck (k:=?_)
      | refine op_fieldAddr (k:=?_)
      | refine wl_nil ?_
      | refine at_then_normal ?_
      | refine wc_seq ?_
      | refine wc_region ?_
      | refine wc_skip ?_
      | (refine wc_cond_dec (ht:=fun _ => ?_) (hf:=fun _ => ?_)<;> (try first | contradiction | (exfalso; omega))))
      all_goals try (exfalso; omega)
      exact at_cut (⟨0, I, sa, sp, ca, cp⟩ : EfX) (by exact ⟨rfl, rfl, trivial⟩) ⟨hm, Le.refl _⟩
  · clear hm hc1
    rintro ⟨_, I1, sa1, sp1, ca1, cp1⟩ w1 ⟨hm, hle1⟩
    dsimp only at hm hle1 ⊢
    have hp1 := hp.le hle1
    repeat' (first
    | refine i_load1 hm (k:=?_)
    | refine op_move (k:=?_)
    | refine op_len_slice (k:=?_)
    | refine op_nilCheck (k:=?_)
    | refine op_fieldAddr (k:=?_)
    | refine wl_nil ?_
    | refine at_then_normal ?_
    | refine wc_seq ?_
    | refine wc_region ?_
    | refine wc_block ?_)
    all_goals try (exfalso; omega)
    refine wc_loop (fun x : EfX => [(0, ptr bd), (1, .pointer (some ⟨b, o, none⟩)), (26, nt e.args.length), (27, nt x.k)])
      (fun x w' => Mem E x.I (EfSt bd (q.1, Sp.exsE (e.args.take x.k) c1) x.sa x.sp x.ca x.cp) w' ∧ Le I x.I ∧ x.k ≤ e.args.length) (fun x => e.args.length - x.k) ⟨0, I1, sa1, sp1, ca1, cp1⟩
      (by exact ⟨rfl, rfl, rfl, rfl, trivial⟩) ⟨by dsimp only; rw [List.take_zero, Sp.exsE]; exact hm, hle1, Nat.zero_le _⟩ ?_
    clear hm hle1 hp1
    rintro ⟨k, I2, sa2, sp2, ca2, cp2⟩ w2 ⟨hm, hle2, hk⟩
    dsimp only at hm hle2 hk ⊢
    have hp2 := hp.le hle2
    have hrow := hr.le hle2
    by_cases hlt : k < e.args.length
    · have hg : e.args[k]? = some e.args[k] := List.getElem?_eq_getElem hlt
      have hsz2 := Sp.size_args (List.getElem_mem hlt)
      have hsm2 := Sp.exsSmall_get hasm hg
      obtain ⟨ea2, ec2, ys2, hc2, hr2, hx2⟩ := (hx.get hg).out
      generalize e.args[k] = y at hg hsz2 hsm2 hc2 hr2 hx2
      have hst := Sp.exsE_step hg c1
      have hcy := Sp.exsCnt_take_le hg
      have hnn := Sp.exsE_n (e.args.take k) c1
      have hss := Sp.exsE_srt (e.args.take k) hc1s
      generalize Sp.exsE (e.args.take k) c1 = c2 at hm hst hnn hss
      have hcl := fun b o tc (hpt : PtrI I2 b o tc (exCells y ea2 ec2)) => ih y (by omega) hsm2 I2 b o tc ea2 ec2 ys2 (q.1, c2) sa2 sp2 ca2 cp2 hss (by dsimp only; omega) hpt (hr2.le hle2) (ExsAt.le hle2 _ _ hx2)
      repeat' (first
      | (refine i_indexAddr (d:=36) (hr:=hrow) (k:=?_); intro bt ot hpt; rw [show ((k : Int).toNat * 6) = k * 6 from rfl, hc2] at hpt)
      | (refine m_call (d:=37) hm (hc:=hcl _ _ _ hpt) (k:=?_); clear hm; rintro _ I3 _ _ ⟨rfl, sa3, sp3, ca3, cp3, rfl⟩ hle hm; have hleI3 := hle; try simp only [setn] at hm)
      | refine i_load1 hm (k:=?_)
      | refine op_move (k:=?_)
      | refine op_assign (k:=?_)
      | refine op_lss (k:=?_)
      | refine op_nilCheck (k:=?_)
      | refine op_add (k:=?_)
      | refine op_fieldAddr (k:=?_)
      | refine wl_nil ?_
      | refine at_then_normal ?_
      | refine at_block_normal ?_
      | refine wc_seq ?_
      | refine wc_region ?_
      | refine wc_block ?_
      | refine wc_skip ?_
      | (refine wc_cond_dec (ht:=fun _ => ?_) (hf:=fun _ => ?_)<;> (try first | contradiction | (exfalso; omega))))
      all_goals try (exfalso; omega)
      exact at_round (⟨k + 1, I3, sa3, sp3, ca3, cp3⟩ : EfX) (by exact ⟨rfl, rfl, rfl, rfl, trivial⟩) ⟨by dsimp only; rw [hst]; exact hm, hle2.trans hleI3, by dsimp only; omega⟩ (by dsimp only; omega)
    · obtain rfl : k = e.args.length := by omega
      rw [List.take_length] at hm
      repeat' (first
      | refine op_lss (k:=?_)
      | refine wl_nil ?_
      | refine at_then_normal ?_
      | refine at_then_exit ?_
      | refine at_block_exit ?_
      | refine wc_seq ?_
      | refine wc_region ?_
      | refine wc_exit ?_
      | refine at_end0 (h:=?_)
      | (refine wc_cond_dec (ht:=fun _ => ?_) (hf:=fun _ => ?_)<;> (try first | contradiction | (exfalso; omega))))
      all_goals try (exfalso; omega)
      exact ⟨I2, _, ⟨rfl, sa2, sp2, ca2, cp2, rfl⟩, hm⟩
end Go.Proofs.YtghommdgmglmdaaDoor
end
section
namespace Go.Sp
/-- what is asked of items where they are looked through for what they send to. -/
structure Itm.fit (it : Itm) : Prop where
  sends : it.sends.length ≤ 1000000000
  body : it.body.length ≤ 40
  stms : stmsSmall it.body
theorem Itm.small.fit {it : Itm} (h : it.small) : it.fit := ⟨by have := h.sends; omega, h.body, h.stms⟩
end Go.Sp
namespace Go.Proofs.YtghommdgmglmdaaDoor
open Go.Fw
theorem stE_sub {I : Imm} {x : Sp.Stm} {b o tc ec : Nat} {ea : Option Addr} {v1 v2 : Value} (hp : PtrI I b o tc (stCells x.kind x.name x.at_ x.label x.opn x.e ea ec v1 v2 x.fr x.to)) : PtrI I b (o + 5) tc (exCells x.e ea ec) :=
  hp.sub (cs' := exCells x.e ea ec) 5 (fun j u hj => by
    match j, hj with
    | 0, hj => exact hj
    | 1, hj => exact hj
    | 2, hj => exact hj
    | 3, hj => exact hj
    | 4, hj => exact hj
    | 5, hj => exact hj
    | j + 6, hj => cases hj)
set_option maxHeartbeats 16000000 in
theorem e_stmts {bd : Nat} : ∀ (n : Nat) (l : List Sp.Stm), SizeOf.sizeOf l ≤ n → l.length ≤ 64 → Sp.stmsSmall l → ∀ (I : Imm) (ab : Option Addr) (cb : Nat) (xb : List Value) (q : List (List UInt8) × List (List UInt8)) (sa : Option Addr) (sp : Nat) (ca : Option Addr) (cp : Nat),
    Sp.Srt q.1 ∧ Sp.Srt q.2 → q.1.length + q.2.length + Sp.stmsCnt l ≤ 1000000000 → RowI I 76 15 (.slice ab l.length cb) l.length xb → StsAt I l xb →
    CalM Tryd.prog 15 #[ptr bd, .slice ab l.length cb] I (EfSt bd q sa sp ca cp) (ToEf bd (Sp.stmsE l q)) := by
  intro n
  induction n with
  | zero => intro l h; cases l <;> simp at h
  | succ n ih =>
  intro l hsz hll hsm I ab cb xb q sa sp ca cp hq hn hr hx
  refine CalM.of fun w E hm => enter (N := 49) Tryd.func15 rfl [(0, ptr bd), (1, .slice ab l.length cb)] args2 rfl ?_
  repeat' (first
  | refine op_move (k:=?_)
  | refine op_len_slice (k:=?_)
  | refine wl_nil ?_
  | refine at_then_normal ?_
  | refine wc_seq ?_
  | refine wc_region ?_
  | refine wc_block ?_)
  refine wc_loop (fun x : EfX => [(0, ptr bd), (1, .slice ab l.length cb), (7, nt l.length), (8, nt x.k)])
    (fun x w' => Mem E x.I (EfSt bd (Sp.stmsE (l.take x.k) q) x.sa x.sp x.ca x.cp) w' ∧ Le I x.I ∧ x.k ≤ l.length) (fun x => l.length - x.k) ⟨0, I, sa, sp, ca, cp⟩
    (by exact ⟨rfl, rfl, rfl, rfl, trivial⟩) ⟨by dsimp only; rw [List.take_zero, Sp.stmsE]; exact hm, Le.refl _, Nat.zero_le _⟩ ?_
  clear hm
  rintro ⟨k, I1, sa1, sp1, ca1, cp1⟩ w1 ⟨hm, hle1, hk⟩
  dsimp only at hm hle1 hk ⊢
  have hrow := hr.le hle1
  by_cases hlt : k < l.length
  · have hg : l[k]? = some l[k] := List.getElem?_eq_getElem hlt
    have hme := Sp.sizeL_mem (List.getElem_mem hlt)
    obtain ⟨cs, hcs⟩ : ∃ cs, (xb.drop (k * 15)).take 15 = cs := ⟨_, rfl⟩
    have hat := hx.get hg
    rw [hcs] at hat
    have hsm2 := Sp.stmsSmall_get hsm hg
    generalize l[k] = y at hg hme hat hsm2
    have hst := Sp.stmsE_step hg q
    have hcy := Sp.stmsCnt_take_le hg
    have hnn := Sp.stmsE_n (l.take k) q
    have hss := Sp.stmsE_srt (l.take k) hq
    generalize Sp.stmsE (l.take k) q = r at hm hst hnn hss
    obtain ⟨s1, s2, s3, s4, s5⟩ := Sp.small_parts hsm2
    obtain ⟨z1, z2⟩ := Sp.size_thn (s := y)
    have hcnt := Sp.Stm.cnt_eq y
    obtain ⟨ea, ec, ex, a1', c1, xs1, a2', c2, xs2, rfl, hr3, hx3, hr4, hx4, hr5, hx5⟩ := hat.out
    rw [Sp.stmE_eq] at hst
    obtain ⟨r1, hr1⟩ : ∃ r1, r1 = if y.kind = 5 then Sp.addE r.1 y.name else r.1 := ⟨_, rfl⟩
    rw [← hr1] at hst
    have hr1n : r.1.length ≤ r1.length ∧ r1.length ≤ r.1.length + 1 := by
      have := Sp.addE_len r.1 y.name
      rw [hr1]; split <;> omega
    have hr1s : Sp.Srt r1 := by
      rw [hr1]; split
      · exact Sp.addE_srt hss.1 _
      · exact hss.1
    repeat' (first
    | (refine i_indexAddr (d:=13) (hr:=hrow) (k:=?_); intro bt ot hpt; rw [show ((k : Int).toNat * 15) = k * 15 from rfl, hcs] at hpt)
    | (refine wc_cut_regN 4 (fun _ : EfX => [(0, ptr bd), (1, .slice ab l.length cb), (5, .pointer (some ⟨bt, ot, none⟩)), (7, nt l.length), (8, nt k)]) (fun x w' => Mem E x.I (EfSt bd (r1, r.2) x.sa x.sp x.ca x.cp) w' ∧ Le I1 x.I) ?_ ?_)
    | refine op_move (k:=?_)
    | refine op_assign (k:=?_)
    | refine op_lss (k:=?_)
    | refine wl_nil ?_
    | refine at_then_normal ?_
    | refine wc_seq ?_
    | refine wc_region ?_
    | refine wc_block ?_
    | refine wc_skip ?_
    | (refine wc_cond_dec (ht:=fun _ => ?_) (hf:=fun _ => ?_)<;> (try first | contradiction | (exfalso; omega))))
    · refine ⟨?_⟩
      by_cases k5 : y.kind = 5
      · rw [if_pos k5] at hr1
        have hA := e_add I1 r.1 sa1 sp1 y.name hss.1 (by omega)
        rw [← hr1] at hA
        repeat' (first
        | (refine wc_semi_memL (id:=5) (hm.perm pm1_1) [0,1,2,3,4,5,6,7,8] [9] 10 (h:=?_); clear hm; intro wd hR hm)
        | (refine mt_call (d:=28) hm (hc:=hA) (k:=?_); clear hm; rintro _ I2 _ _ ⟨a2, cp2, rfl, rfl⟩ hle hm; have hleI2 := hle; try simp only [setn] at hm)
        | refine mw_load1 hR (k:=?_)
        | refine iw_load1 hR (k:=?_)
        | (refine ws_nil ?_; replace hm := hR.back hm; clear hR; try simp only [setn] at hm)
        | refine i_load1 hm (k:=?_)
        | (refine m_store1 hm (k:=?_); clear hm; intro _ hm; try simp only [setn] at hm)
        | refine op_move (k:=?_)
        | refine op_eql (k:=?_)
        | refine op_nilCheck (k:=?_)
        | refine op_fieldAddr (k:=?_)
        | refine wl_nil ?_
        | refine at_then_normal ?_
        | refine wc_seq ?_
        | refine wc_region ?_
        | (refine wc_cond_dec (ht:=fun _ => ?_) (hf:=fun _ => ?_)<;> (try first | contradiction | (exfalso; omega)))
        | refine v_move (k:=?_)
        | refine v_nilCheck (k:=?_)
        | refine v_fieldAddr (k:=?_)
        | refine wv_nil ?_)
        all_goals try (exfalso; omega)
        exact at_cut (⟨0, I2, a2, cp2, ca1, cp1⟩ : EfX) (by exact ⟨rfl, rfl, rfl, rfl, rfl, trivial⟩) ⟨hm.swap, hleI2⟩
      · rw [if_neg k5] at hr1
        subst hr1
        repeat' (first
        | refine i_load1 hm (k:=?_)
        | refine op_move (k:=?_)
        | refine op_eql (k:=?_)
        | refine op_nilCheck (k:=?_)
        | refine op_fieldAddr (k:=?_)
        | refine wl_nil ?_
        | refine at_then_normal ?_
        | refine wc_seq ?_
        | refine wc_region ?_
        | refine wc_skip ?_
        | (refine wc_cond_dec (ht:=fun _ => ?_) (hf:=fun _ => ?_)<;> (try first | contradiction | (exfalso; omega))))
        all_goals try (exfalso; omega)
        exact at_cut (⟨0, I1, sa1, sp1, ca1, cp1⟩ : EfX) (by exact ⟨rfl, rfl, rfl, rfl, rfl, trivial⟩) ⟨hm, Le.refl _⟩
    · clear hm hr1
      rintro ⟨_, I2, sa2, sp2, ca2, cp2⟩ w2 ⟨hm, hle2⟩
      dsimp only at hm hle2 ⊢
      have hpt2 := hpt.le hle2
      have hpe := stE_sub hpt2
      have hE := e_expr (bd := bd) _ y.e (Nat.le_refl _) s1 I2 bt (ot + 5) 76 ea ec ex (r1, r.2) sa2 sp2 ca2 cp2 hss.2 (by dsimp only; omega) hpe ((hr3.le hle1).le hle2) (ExsAt.le hle2 _ _ (ExsAt.le hle1 _ _ hx3))
      have hnE := Sp.exE_n y.e r.2
      have hsE := Sp.exE_srt y.e hss.2
      dsimp only at hE
      generalize Sp.exE y.e r.2 = r2 at hE hnE hsE hst
      have hT := fun (J : Imm) (m : Le I2 J) (sa : Option Addr) (sp : Nat) (ca : Option Addr) (cp : Nat) => ih y.thn (by omega) s2 s3 J a1' c1 xs1 (r1, r2) sa sp ca cp ⟨hr1s, hsE⟩ (by dsimp only; omega) (((hr4.le hle1).le hle2).le m) (StsAt.le m _ _ (StsAt.le hle2 _ _ (StsAt.le hle1 _ _ hx4)))
      have hnT := Sp.stmsE_n y.thn (r1, r2)
      have hsT := Sp.stmsE_srt y.thn (q := (r1, r2)) ⟨hr1s, hsE⟩
      dsimp only at hnT
      generalize Sp.stmsE y.thn (r1, r2) = r3 at hT hnT hsT hst
      have hL := fun (J : Imm) (m : Le I2 J) (sa : Option Addr) (sp : Nat) (ca : Option Addr) (cp : Nat) => ih y.els (by omega) s4 s5 J a2' c2 xs2 r3 sa sp ca cp hsT (by omega) (((hr5.le hle1).le hle2).le m) (StsAt.le m _ _ (StsAt.le hle2 _ _ (StsAt.le hle1 _ _ hx5)))
      rw [← hst] at hL
      repeat' (first
      | (refine m_call (d:=35) hm (hc:=hE) (k:=?_); clear hm; rintro _ I3 _ _ ⟨rfl, sa3, sp3, ca3, cp3, rfl⟩ hle hm; have hleI3 := hle; try simp only [setn] at hm; replace hpt2 := hpt2.le hleI3)
      | (refine m_call (d:=41) hm (hc:=hT I3 hleI3 _ _ _ _) (k:=?_); clear hm; rintro _ I4 _ _ ⟨rfl, sa4, sp4, ca4, cp4, rfl⟩ hle hm; have hleI4 := hle; try simp only [setn] at hm; replace hpt2 := hpt2.le hleI4)
      | (refine m_call (d:=47) hm (hc:=hL I4 (hleI3.trans hleI4) _ _ _ _) (k:=?_); clear hm; rintro _ I5 _ _ ⟨rfl, sa5, sp5, ca5, cp5, rfl⟩ hle hm; have hleI5 := hle; try simp only [setn] at hm)
      | refine i_load1 hm (k:=?_)
      | refine op_move (k:=?_)
      | refine op_nilCheck (k:=?_)
      | refine op_add (k:=?_)
      | refine op_fieldAddr (k:=?_)
      | refine wl_nil ?_
      | refine at_then_normal ?_
      | refine at_block_normal ?_
      | refine wc_seq ?_
      | refine wc_region ?_)
      all_goals try (exfalso; omega)
      exact at_round (⟨k + 1, I5, sa5, sp5, ca5, cp5⟩ : EfX) (by exact ⟨rfl, rfl, rfl, rfl, trivial⟩) ⟨hm, (((hle1.trans hle2).trans hleI3).trans hleI4).trans hleI5, by dsimp only; omega⟩ (by dsimp only; omega)
  · obtain rfl : k = l.length := by omega
    rw [List.take_length] at hm
    repeat' (first
    | refine op_lss (k:=?_)
    | refine wl_nil ?_
    | refine at_then_normal ?_
    | refine at_then_exit ?_
    | refine at_block_exit ?_
    | refine wc_seq ?_
    | refine wc_region ?_
    | refine wc_exit ?_
    | refine at_end0 (h:=?_)
    | (refine wc_cond_dec (ht:=fun _ => ?_) (hf:=fun _ => ?_)<;> (try first | contradiction | (exfalso; omega))))
    all_goals try (exfalso; omega)
    exact ⟨I1, _, ⟨rfl, sa1, sp1, ca1, cp1, rfl⟩, hm⟩
/-- what an item itself sends to, and calls: two rows. -/
theorem _root_.Go.Fw.pmEg {x y z : HItem} {r : List HItem} : (x :: y :: z :: r).Perm (z :: x :: y :: r) := (List.perm_append_comm (l₁ := [x, y]) (l₂ := [z])).append_right r
abbrev ToOwn (it : Sp.Itm) : Value → Imm → List HItem → Prop := fun v _ H' => ∃ sa sp ca cp, v = .tuple #[.slice sa (Sp.ownE it).1.length sp, .slice ca (Sp.ownE it).2.length cp] ∧ H' = [strRow (Sp.ownE it).1 sa sp, strRow (Sp.ownE it).2 ca cp]
set_option maxHeartbeats 4000000 in
theorem e_own (it : Sp.Itm) (hs : it.fit) (hcn : Sp.stmsCnt it.body ≤ 400000000) (I : Imm) (cs : List Value) (hi : ItAt I it cs) : CalM Tryd.prog 7 #[.agg cs.toArray] I [] (ToOwn it) := by
  obtain ⟨ap, cp, as_, cs', ab, cb, ad, cd, xb, rfl, r1, r2, r3, r4, r5⟩ := hi
  have hsb := hs.body
  have hS := fun (J : Imm) (m : Le I J) (bd : Nat) => e_stmts (bd := bd) _ it.body (Nat.le_refl _) (by omega) hs.stms J ab cb xb ([], []) none 0 none 0 ⟨Sp.Srt.nil, Sp.Srt.nil⟩ (by simp; omega) (r3.le m) (StsAt.le m _ _ r4)
  rw [show Sp.stmsE it.body ([], []) = Sp.ownE it from rfl] at hS
  refine CalM.of fun w E hm => enter (N := 19) Tryd.func7 rfl [(0, .agg (itCells it.kind it.name it.label (.slice ap it.params.length cp) (.slice as_ it.sends.length cs') (.slice ab it.body.length cb) it.at_ it.size it.mark (.slice ad it.diags.length cd)).toArray)] args1 rfl ?_
  obtain ⟨r, hr⟩ : ∃ r, r = Sp.ownE it := ⟨_, rfl⟩
  rw [← hr] at hS
  repeat' (first
  | refine wc_hold 2 ?_
  | (refine m_box (d:=1) hm (k:=?_); clear hm; intro b1 _ hm)
  | (refine m_box (d:=6) hm (k:=?_); clear hm; intro b6 _ hm)
  | refine op_assign (k:=?_)
  | refine op_struct (k:=?_)
  | refine wl_nil ?_
  | refine at_then_normal ?_
  | refine wc_seq ?_
  | refine wc_region ?_)
  all_goals try (exfalso; omega)
  have hm := ((hm.nil 9 1).nil 9 1).perm pmEg
  refine ⟨?_⟩
  repeat' (first
  | (refine m_call (d:=10) hm (hp:=pm3_0) (hc:=hS I (Le.refl _) b6) (k:=?_); clear hm; rintro _ I2 _ _ ⟨rfl, sa2, sp2, ca2, cp2, rfl⟩ hleI2 hm; try simp only [setn] at hm)
  | refine m_load1 hm (k:=?_)
  | refine mq_load1 hm (k:=?_)
  | refine op_move (k:=?_)
  | refine op_fieldAddr (k:=?_)
  | refine wl_nil ?_
  | refine at_then_normal ?_
  | refine wc_seq ?_
  | refine wc_region ?_
  | refine wc_ret ?_
  | refine at_ret2 (h:=?_)
  | refine wc_quiet (h:=?_)
  | (refine wq_nil ?_; intro _ hkq; replace hm := hm.kept0 hkq; clear hkq)
  | refine q_move (k:=?_)
  | refine q_assign (k:=?_)
  | refine q_nilCheck (k:=?_)
  | refine q_fieldAddr (k:=?_))
  all_goals try (exfalso; omega)
  subst hr
  exact ⟨I2, _, ⟨sa2, sp2, ca2, cp2, rfl, rfl⟩, hm.tl.left (H := [_, _])⟩
end Go.Proofs.YtghommdgmglmdaaDoor
end
section
namespace Go.Fw
open Go
section
variable {P : Program} {N : Nat} {ds : List Deferred} {Q : Exit → Act → World → Prop} {K : Act → World → Prop} {KV : Act → Prop} {l l' : Log} {w w' w0 : World} {ops : Array Oper} {os : List Oper}
variable {d : Nat} {ty : TypeId} {pos : String} {af : Array Edge} {g : Option (Nat × Bool)} {t t' : TypeId} {x y z : Operand}
variable {E : Ent} {I I' : Imm} {H H' R G : List HItem}
/-- the zero of one cell. -/
class Zero1 (P : Program) (e : TypeId) (v : Value) : Prop where out : (P.info? e).bind (·.zero) = some v ∧ v.cells = #[v]
/-- 'make([]T, n)' of elements of one cell. -/
theorem m_makeSlice {e : TypeId} {by_ n : Nat} (zv : Value) [TySlice P t e] [Elem P e 1 by_] (hz0 : Zero1 P e zv) (hm : Mem E I H w) (hw : want ops l ⟨some d, .makeSlice t x y, ty, pos, af, g⟩ = some true) (hN : Nat.blt d N = true)
    (hx : ev l x = some (.int .i64 n)) (hy : ev l y = some (.int .i64 n)) (hn : n ≤ 1000000) (hby : Nat.ble by_ 1024 = true)
    (k : ∀ b w', Mem E I (.row (.slice (some ⟨b, 0, none⟩) n n) e 1 n (List.replicate n zv) :: H) w' → WL P N ds ops Q os ((d, .slice (some ⟨b, 0, none⟩) n n) :: l) w') :
    WL P N ds ops Q (⟨some d, .makeSlice t x y, ty, pos, af, g⟩ :: os) l w := by
  obtain ⟨i, z, hi', hz, hs', hb', hzc, hpos⟩ := Elem.out (P := P) (e := e)
  obtain ⟨h1, h2⟩ := hz0.out
  rw [hi', Option.bind_some, hz] at h1
  obtain rfl := Option.some.inj h1
  have hby' := Nat.le_of_ble_eq_true hby
  have hbn : by_ * n ≤ 1024 * 1000000 := Nat.mul_le_mul hby' hn
  have hr := run_makeSlice (P := P) (w := w) t e i z (TySlice.out (P := P) (t := t)) hi' hz .i64 .i64 n n (by omega) (by omega) (by rw [hs', Int.toNat_natCast]; omega)
    (by rw [hb']; have : ((by_ * n : Nat) : Int) ≤ 281474976710656 := by omega
        simpa using this) (by omega)
  rw [hs', h2, Int.toNat_natCast, Nat.mul_one] at hr
  have hmc : madeCells #[z] n = (List.replicate n z).toArray := by
    apply Array.toList_inj.1
    rw [toList_madeCells_one]
  rw [hmc] at hr
  refine wl_value (w' := w.alloc (.cells (List.replicate n z).toArray e (0, 0))) (v := .slice (some ⟨w.heap.size, 0, none⟩) n n) rfl hw hN (fun a ha => ?_)
    (k w.heap.size _ (hm.add (Kept.alloc w _) ⟨by simp, .inr ⟨w.heap.size, n, _, rfl, Nat.zero_le _, heap_alloc_new w _, Nat.le_refl _, by unfold maxLen; omega, by simp, by simp⟩⟩ (fun b' hb' => ?_)))
  · simp only [execOp, ha.ev hx, ha.ev hy]
    simp [hr]
  · simp only [HItem.blk, Value.ownBlock, Option.some.injEq] at hb'; omega
theorem Mem.rowCell {e : TypeId} {sz n cp b off : Nat} {xs : List Value} {v : Value} (ho : (HItem.row (.slice (some ⟨b, 0, none⟩) n cp) e sz n xs).ok w) (hc : xs[off]? = some v) :
    ∃ c fr, w.heap[b]? = some (.cells c e fr) ∧ c[off]? = some v := by
  rcases ho.2 with ⟨_, h0⟩ | ⟨g, cap, cur, hv, _, hg, _, _, _, ht⟩
  · have h1 := ho.1
    subst h0
    rw [Nat.zero_mul] at h1
    have : off < xs.length := (List.getElem?_eq_some_iff.1 hc).1
    omega
  · injection hv with e1 _ _
    injection e1 with e1
    injection e1 with e1
    subst e1
    refine ⟨cur, (0, 0), hg, ?_⟩
    rw [← ht, List.getElem?_take] at hc
    split at hc
    · simpa using hc
    · cases hc
/-- a cell of an owned row, where the order is drawn. -/
theorem mw_loadRow [TyOne P t] {i b off n cp sz : Nat} {e : TypeId} {xs : List Value} {v : Value} (hR : Mem E I (G ++ R) w) (hw : want ops l ⟨some d, .load t x, ty, pos, af, g⟩ = some true) (hN : Nat.blt d N = true)
    (hx : ev l x = some (.pointer (some ⟨b, off, none⟩))) (hb : R[i]? = some (.row (.slice (some ⟨b, 0, none⟩) n cp) e sz n xs)) (hc : xs[off]? = some v)
    (k : WV P N ds ops (blks G) w KV os ((d, v) :: l)) : WV P N ds ops (blks G) w KV (⟨some d, .load t x, ty, pos, af, g⟩ :: os) l := by
  obtain ⟨c, fr, h1, h2⟩ := Mem.rowCell (hR.right.ok _ (List.mem_of_getElem? hb)) hc
  exact v_load1 hw hN hx h1 (hR.notG hb rfl) h2 k
theorem mi_loadRow [TyOne P t] {i b off n cp sz : Nat} {e : TypeId} {xs : List Value} {v : Value} (hm : Mem E I H w) (hw : want ops l ⟨some d, .load t x, ty, pos, af, g⟩ = some true) (hN : Nat.blt d N = true)
    (hx : ev l x = some (.pointer (some ⟨b, off, none⟩))) (hb : H[i]? = some (.row (.slice (some ⟨b, 0, none⟩) n cp) e sz n xs)) (hc : xs[off]? = some v)
    (k : WL P N ds ops Q os ((d, v) :: l) w) : WL P N ds ops Q (⟨some d, .load t x, ty, pos, af, g⟩ :: os) l w := by
  obtain ⟨c, fr, h1, h2⟩ := Mem.rowCell (hm.ok _ (List.mem_of_getElem? hb)) hc
  exact op_load1 hw hN hx h1 h2 k
/-- a cell of an owned row, wherever it stands, is written. -/
theorem mi_storeRow {by_ : Nat} [Elem P t 1 by_] {i b off n cap sz : Nat} {e : TypeId} {xs : List Value} {v : Value} {dst : Option Nat} (hm : Mem E I H w) (hd : dst = none) (hw : want ops l ⟨dst, .store t x y, ty, pos, af, g⟩ = some true)
    (hx : ev l x = some (.pointer (some ⟨b, off, none⟩))) (hy : ev l y = some v) (hi : H[i]? = some (.row (.slice (some ⟨b, 0, none⟩) n cap) e sz n xs)) (hn1 : v.cells.toList = [v]) (h1 : v.oneCell' = true) (ho : off < xs.length)
    (k : ∀ w', Mem E I (H.set i (.row (.slice (some ⟨b, 0, none⟩) n cap) e sz n (xs.set off v))) w' → WL P N ds ops Q os l w') :
    WL P N ds ops Q (⟨dst, .store t x y, ty, pos, af, g⟩ :: os) l w := by
  refine m_storeRow (hm.front i hi) hd hw hx hy hn1 h1 ho (fun w2 hm2 => k w2 (hm2.perm ?_))
  have hlt : i < H.length := (List.getElem?_eq_some_iff.1 hi).1
  have h := front_perm (H.set i (.row (.slice (some ⟨b, 0, none⟩) n cap) e sz n (xs.set off v))) i _ (List.getElem?_set_self hlt)
  rw [List.eraseIdx_set_eq] at h
  exact h.symm
end
/-! rows of rows: each with its slice. -/
abbrev Tri (α : Type) := List α × Option Addr × Nat
abbrev Tri.nil {α : Type} : Tri α := ([], none, 0)
abbrev triV {α : Type} (t : Tri α) : Value := .slice t.2.1 t.1.length t.2.2
abbrev sl0 : Value := .slice none 0 0
theorem map_set_tri {α β : Type} {g : α → β} {T : List α} {i : Nat} {u : α} : (T.map g).set i (g u) = (T.set i u).map g := by rw [List.map_set]
theorem tri_perm {α β : Type} {g : α → β} {T : List α} {i : Nat} {t : α} (h : T[i]? = some t) : (T.map g).Perm (g t :: (T.eraseIdx i).map g) := by
  have h2 := (Go.Fw.front_perm T i t h).map g
  exact h2
theorem tri_set {α β : Type} {g : α → β} {T : List α} {i : Nat} {u : α} (h : i < T.length) : ((T.set i u).map g).Perm (g u :: (T.eraseIdx i).map g) := by
  have h2 := tri_perm (g := g) (T := T.set i u) (i := i) (t := u) (List.getElem?_set_self h)
  rw [List.eraseIdx_set_eq] at h2
  exact h2
/-- as many cells as there will be. -/
abbrev padV (L : List Value) (n : Nat) : List Value := L ++ List.replicate n sl0
theorem padV_set {L : List Value} {n m : Nat} {v : Value} (hl : L.length = m) : (padV L (n + 1)).set m v = padV (L ++ [v]) n := by
  subst hl
  rw [padV, List.set_append, if_neg (Nat.lt_irrefl _), Nat.sub_self, List.replicate_succ, List.set_cons_zero, padV, List.append_assoc]; rfl
theorem padV_skip {L : List Value} {n : Nat} : padV L (n + 1) = padV (L ++ [sl0]) n := by
  rw [padV, padV, List.replicate_succ, List.append_assoc]; rfl
end Go.Fw
end
