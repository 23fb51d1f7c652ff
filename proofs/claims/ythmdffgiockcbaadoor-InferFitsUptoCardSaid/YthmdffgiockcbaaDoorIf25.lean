/- Own work: texts SpecTw, SpecPos, SpecFit, one behind the other. -/
import Derived.Test.YthmdffgiockcbaaDoorIf24
section
namespace Go.Sp
mutual
theorem fillS_lets (o : Lab) : ∀ (x : Stm), (fillS o x).lets = x.lets
  | .mk k nm a lb op e thn els f t => by rw [fillS, Stm.lets, Stm.lets, fillL_lets o thn, fillL_lets o els]
theorem fillL_lets (o : Lab) : ∀ (l : List Stm), letsS (fillL o l) = letsS l
  | [] => by rw [fillL]
  | x :: l => by rw [fillL, letsS, letsS, fillS_lets o x, fillL_lets o l]
end
mutual
theorem fillS_cnt (o : Lab) : ∀ (x : Stm), (fillS o x).cnt = x.cnt
  | .mk k nm a lb op e thn els f t => by rw [fillS, Stm.cnt, Stm.cnt, fillL_cnt o thn, fillL_cnt o els]
theorem fillL_cnt (o : Lab) : ∀ (l : List Stm), stmsCnt (fillL o l) = stmsCnt l
  | [] => by rw [fillL]
  | x :: l => by rw [fillL, stmsCnt, stmsCnt, fillS_cnt o x, fillL_cnt o l]
end
mutual
theorem fillS_all {o : Lab} {p : PE} {q : PS} (h : ∀ k nm a lb op f t, q k nm a lb op f t → q k nm a (if k = 1 ∧ op = true then o f else lb) (if k = 1 then false else op) f t) : ∀ (x : Stm), x.all p q → (fillS o x).all p q
  | .mk k nm a lb op e thn els f t, ha => by
    rw [Stm.all] at ha
    rw [fillS, Stm.all]
    exact ⟨h _ _ _ _ _ _ _ ha.1, ha.2.1, fillL_all h thn ha.2.2.1, fillL_all h els ha.2.2.2⟩
theorem fillL_all {o : Lab} {p : PE} {q : PS} (h : ∀ k nm a lb op f t, q k nm a lb op f t → q k nm a (if k = 1 ∧ op = true then o f else lb) (if k = 1 then false else op) f t) : ∀ (l : List Stm), stmsAll p q l → stmsAll p q (fillL o l)
  | [], _ => by rw [fillL]; exact stmsAll_nil
  | x :: l, ha => by
    rw [stmsAll] at ha
    rw [fillL, stmsAll]
    exact ⟨fillS_all h x ha.1, fillL_all h l ha.2⟩
end
/-- the same but for labels of lets. -/
def SameT (a b : Itm) : Prop := b = a ∨ ∃ o, b = itI o a
theorem SameT.kind {a b : Itm} (h : SameT a b) : b.kind = a.kind := by rcases h with rfl | ⟨o, rfl⟩ <;> rfl
theorem SameT.name {a b : Itm} (h : SameT a b) : b.name = a.name := by rcases h with rfl | ⟨o, rfl⟩ <;> rfl
theorem SameT.at_ {a b : Itm} (h : SameT a b) : b.at_ = a.at_ := by rcases h with rfl | ⟨o, rfl⟩ <;> rfl
theorem SameT.mark {a b : Itm} (h : SameT a b) : b.mark = a.mark := by rcases h with rfl | ⟨o, rfl⟩ <;> rfl
theorem SameT.params {a b : Itm} (h : SameT a b) : b.params = a.params := by rcases h with rfl | ⟨o, rfl⟩ <;> rfl
theorem SameT.sends {a b : Itm} (h : SameT a b) : b.sends = a.sends := by rcases h with rfl | ⟨o, rfl⟩ <;> rfl
theorem SameT.label {a b : Itm} (h : SameT a b) : b.label = a.label := by rcases h with rfl | ⟨o, rfl⟩ <;> rfl
theorem SameT.body {a b : Itm} (h : SameT a b) : b.body = a.body ∨ ∃ o, b.body = fillL o a.body := by
  rcases h with rfl | ⟨o, rfl⟩
  · exact .inl rfl
  · exact .inr ⟨o, rfl⟩
theorem labs_same {its : List Itm} : ∀ {l g : List Itm}, AllTwo (Labd its) l g → AllTwo SameT l g
  | _, _, .nil => .nil
  | _, _, .cons (a := a) h t => .cons (by
      by_cases hk : a.kind = 2
      · obtain ⟨o, _, rfl⟩ := h.1 hk
        exact .inr ⟨o, rfl⟩
      · exact .inl (h.2 hk)) (labs_same t)
theorem AllTwo.get {α β : Type} {R : α → β → Prop} : ∀ {l : List α} {r : List β} {i : Nat} {a : α}, AllTwo R l r → l[i]? = some a → ∃ b, r[i]? = some b ∧ R a b
  | _, _, _, _, .nil, h => by simp at h
  | _, _, 0, _, .cons h t, e => by
    simp only [List.getElem?_cons_zero, Option.some.injEq] at e
    subst e
    exact ⟨_, rfl, h⟩
  | _, _, i + 1, _, .cons h t, e => by
    rw [List.getElem?_cons_succ] at e
    obtain ⟨b, h1, h2⟩ := t.get e
    exact ⟨b, by rw [List.getElem?_cons_succ]; exact h1, h2⟩
theorem AllTwo.mem {α β : Type} {R : α → β → Prop} : ∀ {l : List α} {r : List β}, AllTwo R l r → ∀ b ∈ r, ∃ a ∈ l, R a b
  | _, _, .nil, b, h => by cases h
  | _, _, .cons h t, b, hb => by
    rcases List.mem_cons.1 hb with rfl | hb
    · exact ⟨_, List.mem_cons_self, h⟩
    · obtain ⟨a, h1, h2⟩ := t.mem b hb
      exact ⟨a, List.mem_cons_of_mem _ h1, h2⟩
theorem twoNo {its g : List Itm} (h : AllTwo SameT its g) (j : Nat) : SameT (itNo its j) (itNo g j) := by
  rw [itNo, itNo, List.getD_eq_getElem?_getD, List.getD_eq_getElem?_getD]
  cases hi : its[j]? with
  | some a =>
    obtain ⟨b, h1, h2⟩ := h.get hi
    rw [h1]; exact h2
  | none =>
    have : g[j]? = none := by rw [List.getElem?_eq_none_iff] at hi ⊢; rw [h.len]; exact hi
    rw [this]; exact .inl rfl
theorem twoFind : ∀ {its g : List Itm}, AllTwo SameT its g → ∀ k n, findIt g k n = findIt its k n
  | _, _, .nil, _, _ => rfl
  | _, _, .cons (a := a) (b := b) (l := l) (r := r) h t, k, n => by
    have ih := twoFind t k n
    rw [findIt, findIt] at ih ⊢
    have e : itIs k n b = itIs k n a := by rw [itIs, itIs, h.kind, h.name]
    rw [List.findIdx?_cons, List.findIdx?_cons, e, ih]
section
variable {its g : List Itm}
end
end Go.Sp
end
section
namespace Go.Sp
/-- what is not a let does not stand where one stands, or has no size. -/
def posE (L : Nat → Prop) : PE := fun _ _ _ _ f t => L f → f = t
def posS (L : Nat → Prop) : PS := fun k _ _ _ _ f t => (k ≠ 1 → ¬ L f) ∧ (k = 1 → L f ∧ f ≠ t)
/-- 'L': where lets' words stand. -/
structure LetW (T : Src) (L : Nat → Prop) : Prop where
  no : ∀ i, (T.tok i).text ≠ [108, 101, 116] → ¬ L (T.tok i).pos
  yes : ∀ i, (T.tok i).text = [108, 101, 116] → L (T.tok i).pos
  num : ∀ i, (T.tok i).kind = 2 → ¬ L (T.tok i).pos
  zero : ¬ L 0
  next : ∀ i j, i < j → (T.tok i).pos + (T.tok i).text.length ≤ (T.tok j).pos
theorem tight_let {t : List UInt8} (h : tight t ≠ 0) : t ≠ [108, 101, 116] := fun e => by subst e; exact h (by decide)
theorem name_let {t : List UInt8} (h : name t = true) : t ≠ [108, 101, 116] := fun e => by subst e; revert h; decide
/-- nothing was read: it stands where the next token does. -/
def Here (T : Src) (L : Nat → Prop) (e : Ex) (s : St) : Prop := L e.fr → e.fr = (T.tok s.i).pos
theorem pos_expr {T : Src} {L : Nat → Prop} (h : LetW T L) : ∀ f, (∀ d s, (atom T f d s).1.all (posE L) ∧ Here T L (atom T f d s).1 (atom T f d s).2) ∧ (∀ d l s, exsAll (posE L) l → exsAll (posE L) (argL T f d l s).1) ∧
    (∀ d m s, (expr T f d m s).1.all (posE L) ∧ Here T L (expr T f d m s).1 (expr T f d m s).2) ∧ (∀ d m e s, e.all (posE L) → Here T L e s → (opL T f d m e s).1.all (posE L) ∧ Here T L (opL T f d m e s).1 (opL T f d m e s).2)
  | 0 => ⟨fun _ _ => by rw [atom]; exact ⟨all_leaf (fun h0 => absurd h0 h.zero), fun h0 => absurd h0 h.zero⟩, fun _ _ _ h1 => by rw [argL]; exact h1, fun _ _ _ => by rw [expr]; exact ⟨all_leaf (fun h0 => absurd h0 h.zero), fun h0 => absurd h0 h.zero⟩, fun _ _ _ _ h1 h2 => by rw [opL]; exact ⟨h1, h2⟩⟩
  | f + 1 => by
    obtain ⟨hA, hL, hE, hO⟩ := pos_expr h f
    refine ⟨fun d s => ?_, fun d l s h1 => ?_, fun d m s => ?_, fun d m e s h1 h2 => ?_⟩
    · rw [atom]
      dsimp only
      have hbad : ∀ e, ((none_ T s e).1.all (posE L)) ∧ Here T L (none_ T s e).1 (none_ T s e).2 := fun e => ⟨all_leaf (fun _ => rfl), fun _ => rfl⟩
      split
      · exact hbad _
      · split
        · exact hbad _
        · split
          · rename_i hk
            have hno := h.num _ hk
            split
            · exact ⟨all_leaf (fun h0 => absurd h0 hno), fun h0 => absurd h0 hno⟩
            · exact ⟨all_leaf (fun h0 => absurd h0 hno), fun h0 => absurd h0 hno⟩
          · split
            · have h1 := hE (d + 1) 1 s.next
              generalize expr T f (d + 1) 1 s.next = r at h1 ⊢
              refine ⟨h1.1, fun h0 => ?_⟩
              have h2 := h1.2 h0
              rw [St.need]
              split
              · rename_i hi
                simp only [Src.is, Bool.and_eq_true, decide_eq_true_eq] at hi
                exact absurd (h2 ▸ h0) (h.no _ (by rw [hi.2]; decide))
              · exact h2
            · split
              · exact hbad _
              · rename_i hn
                have hn' : name (T.tok s.i).text = true := by simpa using hn
                have hno := h.no _ (name_let hn')
                split
                · exact ⟨all_leaf (fun h0 => absurd h0 hno), fun h0 => absurd h0 hno⟩
                · have h1 := hL (d + 1) [] s.next.next exsAll_nil
                  dsimp only
                  rw [Ex.all]
                  exact ⟨⟨fun h0 => absurd h0 hno, h1⟩, fun h0 => absurd h0 hno⟩
    · rw [argL]
      split
      · exact h1
      · split
        · exact h1
        · have h3 := (hE d 1 s).1
          have h5 := exsAll_app h1 (exsAll_one h3)
          dsimp only
          split
          · exact hL _ _ _ h5
          · exact h5
    · rw [expr]
      try dsimp only
      exact hO _ _ _ _ (hA d s).1 (hA d s).2
    · rw [opL]
      try dsimp only
      split
      · exact ⟨h1, h2⟩
      · rename_i ht
        have hno := h.no s.i (tight_let (fun e => ht (.inr e)))
        have h3 := (hE d (tight (T.tok s.i).text + 1) s.next).1
        generalize (expr T f d (tight (T.tok s.i).text + 1) s.next) = r at h3 ⊢
        have hnl : ¬ L e.fr := fun h0 => hno (h2 h0 ▸ h0)
        refine hO _ _ _ _ ?_ (fun h0 => absurd h0 hnl)
        rw [Ex.all]
        exact ⟨fun h0 => absurd h0 hnl, exsAll_app (exsAll_one h1) (exsAll_one h3)⟩
theorem pos_plain {L : Nat → Prop} {k : Nat} {nm : List UInt8} {a lb f t : Nat} {op : Bool} {e : Ex} {thn els : List Stm} (hk : k ≠ 1) (h : ¬ L f) (he : e.all (posE L)) (h1 : stmsAll (posE L) (posS L) thn) (h2 : stmsAll (posE L) (posS L) els) :
    (Stm.mk k nm a lb op e thn els f t).all (posE L) (posS L) := by
  rw [Stm.all]; exact ⟨⟨fun _ => h, fun e => absurd e hk⟩, he, h1, h2⟩
theorem pos_block {T : Src} {L : Nat → Prop} (h : LetW T L) : ∀ f, (∀ d s, stmsAll (posE L) (posS L) (block T f d s).1) ∧ (∀ d l s, stmsAll (posE L) (posS L) l → stmsAll (posE L) (posS L) (stmL T f d l s).1) ∧ (∀ d s, (stm T f d s).1.all (posE L) (posS L))
  | 0 => ⟨fun _ _ => by rw [block]; exact stmsAll_nil, fun _ _ _ h1 => by rw [stmL]; exact h1, fun _ s => by
      rw [stm]
      show (Stm.mk 0 [] 0 0 false (.mk 0 [] 0 [] 0 0) [] [] 0 0).all _ _
      exact pos_plain (by decide) h.zero (all_leaf (fun h0 => absurd h0 h.zero)) stmsAll_nil stmsAll_nil⟩
  | f + 1 => by
    obtain ⟨hB, hL, hS⟩ := pos_block h f
    have hE := fun d m s => ((pos_expr h f).2.2.1 d m s).1
    have gE := (goes_expr T f).2.2.1
    refine ⟨fun d s => ?_, fun d l s h1 => ?_, fun d s => ?_⟩
    · rw [block]
      split
      · exact stmsAll_nil
      · split
        · exact stmsAll_nil
        · dsimp only
          exact hL _ _ _ stmsAll_nil
    · rw [stmL]
      split
      · exact h1
      · split
        · exact h1
        · dsimp only
          exact hL _ _ _ (stmsAll_app h1 (stmsAll_one (hS d s)))
    · rw [stm]
      dsimp only
      split
      · rename_i hlet
        have hyes := h.yes _ hlet
        have h1 := (goes_named T s.next).le
        rw [next_i] at h1
        generalize s.next.named T = r at h1 ⊢
        generalize hr1 : (if (!T.is r.2.i [58]) = true then (0, r.2) else lab T r.2.next) = r1
        have h2 : r.2.i ≤ r1.2.i := by
          rw [← hr1]
          split
          · exact Nat.le_refl _
          · have := (goes_lab T r.2.next).le
            rw [next_i] at this
            omega
        have h3 := need_le T r1.2 [61]
        have h5 := (gE d 1 (r1.2.need T [61]).2).le
        have h6 := need_le T (expr T f d 1 (r1.2.need T [61]).2).2 [59]
        have he := hE d 1 (r1.2.need T [61]).2
        try dsimp only
        rw [Stm.all]
        refine ⟨⟨fun e => absurd rfl e, fun _ => ⟨hyes, ?_⟩⟩, he, stmsAll_nil, stmsAll_nil⟩
        generalize (expr T f d 1 (r1.2.need T [61]).2).2 = x at h5 h6 ⊢
        generalize (x.need T [59]).2.i = j at h6 ⊢
        have hj : s.i + 1 ≤ j := by omega
        have hend : (T.tok s.i).pos < T.endOf j := by
          rw [Src.endOf, if_neg (by omega)]
          rcases Nat.lt_or_ge s.i (j - 1) with hl | hl
          · have := h.next _ _ hl
            rw [hlet] at this
            simp only [List.length_cons, List.length_nil] at this
            omega
          · obtain rfl : j = s.i + 1 := by omega
            rw [Nat.add_sub_cancel, hlet]
            simp only [List.length_cons, List.length_nil]
            omega
        omega
      · rename_i hlet
        have hno := h.no _ hlet
        split
        · split
          · dsimp only; exact pos_plain (by decide) hno (hE _ _ _) (hB _ _) (hB _ _)
          · dsimp only; exact pos_plain (by decide) hno (hE _ _ _) (hB _ _) stmsAll_nil
        · split
          · exact pos_plain (by decide) hno (hE _ _ _) (hB _ _) stmsAll_nil
          · split
            · exact pos_plain (by decide) hno (hE _ _ _) stmsAll_nil stmsAll_nil
            · split
              · exact pos_plain (by decide) hno (hE _ _ _) stmsAll_nil stmsAll_nil
              · split
                · split
                  · exact pos_plain (by decide) hno (hE _ _ _) stmsAll_nil stmsAll_nil
                  · exact pos_plain (by decide) hno (hE _ _ _) stmsAll_nil stmsAll_nil
                · exact pos_plain (by decide) hno (all_leaf (fun h0 => absurd h0 h.zero)) stmsAll_nil stmsAll_nil
theorem letW_src {src : List UInt8} (h0 : (⟨tokens src, src.length⟩ : Src).is 0 [102, 110] = true) : LetW ⟨tokens src, src.length⟩ (fun f => ∃ j, ((⟨tokens src, src.length⟩ : Src).tok j).pos = f ∧ ((⟨tokens src, src.length⟩ : Src).tok j).text = [108, 101, 116]) := by
  have hs := List.pairwise_iff_getElem.1 (tokens_sorted src)
  have hlt : ∀ i, i < (tokens src).length → ∃ t, (⟨tokens src, src.length⟩ : Src).tok i = t ∧ TokOk src t := fun i hi =>
    ⟨(tokens src)[i], by rw [Src.tok]; dsimp only; rw [List.getD_eq_getElem?_getD, List.getElem?_eq_getElem hi]; rfl, tokens_ok src _ (List.getElem_mem hi)⟩
  have next : ∀ i j, i < j → ((⟨tokens src, src.length⟩ : Src).tok i).pos + ((⟨tokens src, src.length⟩ : Src).tok i).text.length ≤ ((⟨tokens src, src.length⟩ : Src).tok j).pos := fun i j hij => by
    rcases Nat.lt_or_ge j (tokens src).length with hj | hj
    · have hi : i < (tokens src).length := by omega
      have h3 := hs i j hi hj hij
      rw [Src.tok, Src.tok]
      dsimp only
      rw [List.getD_eq_getElem?_getD, List.getD_eq_getElem?_getD, List.getElem?_eq_getElem hi, List.getElem?_eq_getElem hj]
      exact h3
    · rw [tok_end (T := ⟨tokens src, src.length⟩) hj]
      rcases Nat.lt_or_ge i (tokens src).length with hi | hi
      · obtain ⟨t, h1, h2⟩ := hlt i hi
        rw [h1]; exact h2.fit
      · rw [tok_end (T := ⟨tokens src, src.length⟩) hi]; simp
  have pos1 : ∀ i, i < (tokens src).length → 1 ≤ ((⟨tokens src, src.length⟩ : Src).tok i).text.length := fun i hi => by
    obtain ⟨t, h1, h2⟩ := hlt i hi
    rw [h1]; exact h2.len
  have no : ∀ i, ((⟨tokens src, src.length⟩ : Src).tok i).text ≠ [108, 101, 116] → ¬ ∃ j, ((⟨tokens src, src.length⟩ : Src).tok j).pos = ((⟨tokens src, src.length⟩ : Src).tok i).pos ∧ ((⟨tokens src, src.length⟩ : Src).tok j).text = [108, 101, 116] := fun i hi ⟨j, h1, h2⟩ => by
    have hj : j < (tokens src).length := tok_lt (T := ⟨tokens src, src.length⟩) (by rw [h2]; decide)
    rcases Nat.lt_trichotomy i j with h | h | h
    · have := next i j h
      have := pos1 i (by omega)
      omega
    · subst h; exact hi h2
    · have := next j i h
      have := pos1 j hj
      omega
  refine ⟨no, fun i h => ⟨i, rfl, h⟩, fun i hk => no i (fun e => ?_), fun ⟨j, h1, h2⟩ => ?_, next⟩
  · have hi : i < (tokens src).length := tok_lt (T := ⟨tokens src, src.length⟩) (by rw [e]; decide)
    obtain ⟨t, h1, h2⟩ := hlt i hi
    rw [h1] at hk e
    have h3 := h2.text
    have h4 := h2.one.1
    rw [e] at h3
    cases hd : src.drop t.pos with
    | nil => rw [hd] at h3; cases h3
    | cons c r =>
      rw [hd] at h3 h4
      simp only [List.length_cons, List.length_nil, List.take_succ_cons, List.cons.injEq] at h3
      rw [← h3.1] at h4
      rw [hk] at h4
      have h5 : (Sp.one (108 :: r)).1 = 1 := by
        rw [Sp.one, if_neg (by decide), if_neg (by decide), if_pos (by decide)]
      rw [h5] at h4
      cases h4
  · simp only [Src.is, Bool.and_eq_true, decide_eq_true_eq] at h0
    rcases Nat.eq_zero_or_pos j with e | e
    · subst e; rw [h0.2] at h2; cases h2
    · have := next 0 j e
      rw [h0.2] at this
      simp only [List.length_cons, List.length_nil] at this
      omega
theorem item_pos (src : List UInt8) (at_ : Int) : ∃ L, stmsAll (posE L) (posS L) (item src at_).body := by
  by_cases hfn : (⟨tokens src, src.length⟩ : Src).is 0 [102, 110] = true
  · have h := letW_src hfn
    refine ⟨fun f => ∃ j, ((⟨tokens src, src.length⟩ : Src).tok j).pos = f ∧ ((⟨tokens src, src.length⟩ : Src).tok j).text = [108, 101, 116], ?_⟩
    rw [item]
    dsimp only
    rw [if_pos hfn]
    dsimp only [fnItm]
    exact (pos_block h _).1 _ _
  · refine ⟨fun _ => False, ?_⟩
    rw [item]
    dsimp only
    rw [if_neg hfn]
    split
    · exact stmsAll_nil
    · exact stmsAll_nil
end Go.Sp
end
section
namespace Go.Sp
/-! what is not raised stays -/
mutual
theorem stmI_keep (its : List Itm) : ∀ (x : Stm) (sc : List Li) (un : Nat) (p : LP), (stmI its x sc un p).2.2 = false → (stmI its x sc un p).2 = p
  | .mk k nm a lb op e thn els f t, sc, un, p, h => by
    have hI : ∀ (p : LP) (f n : Nat), (raiseI p f n).2 = false → raiseI p f n = p := fun p f n h => by
      rw [raiseI] at h ⊢
      split
      · rfl
      · rename_i hc; rw [if_neg hc] at h; cases h
    have hO : ∀ (p : LP) (f : Option Nat) (n : Nat), (raiseO p f n).2 = false → raiseO p f n = p := fun p f n h => by
      cases f with
      | none => rfl
      | some f => exact hI p f n h
    rw [stmI] at h ⊢
    split
    · rename_i hk; rw [if_pos hk] at h; exact hO _ _ _ h
    · rename_i hk; rw [if_neg hk] at h
      split
      · rename_i hk2; rw [if_pos hk2] at h
        dsimp only at h ⊢
        rw [setI] at h ⊢
        split
        · rename_i l hl; rw [hl] at h; exact hO _ _ _ h
        · rfl
      · rename_i hk2; rw [if_neg hk2] at h
        split
        · rename_i hk3; rw [if_pos hk3] at h
          dsimp only at h ⊢
          have h1 := stmsI_keep its els _ _ _ h
          rw [h1] at h ⊢
          exact stmsI_keep its thn _ _ _ h
        · rfl
theorem stmsI_keep (its : List Itm) : ∀ (l : List Stm) (sc : List Li) (un : Nat) (p : LP), (stmsI its l sc un p).2.2 = false → (stmsI its l sc un p).2 = p
  | [], sc, un, p, _ => by rw [stmsI]
  | x :: l, sc, un, p, h => by
    rw [stmsI] at h ⊢
    have h1 := stmsI_keep its l _ _ _ h
    rw [h1] at h ⊢
    exact stmI_keep its x _ _ _ h
end
/-! labels of expressions -/
mutual
theorem exF_plain (its : List Itm) (at_ : Int) (sc : List Lc) (un : Nat) : ∀ (e : Ex) (s : FW), (exF its at_ sc un e s).1 = plainF its sc e
  | .mk k nm n args f t, s => by
    rw [exF, plainF]
    split
    · rfl
    · split
      · exact opsF_plain its at_ sc un args 0 s
      · split <;> rfl
theorem opsF_plain (its : List Itm) (at_ : Int) (sc : List Lc) (un : Nat) : ∀ (l : List Ex) (n : Nat) (s : FW), (opsF its at_ sc un l n s).1 = plainsF its sc l n
  | [], n, s => by rw [opsF, plainsF]
  | e :: l, n, s => by rw [opsF, plainsF, exF_plain its at_ sc un e s]; exact opsF_plain its at_ sc un l _ _
end
section
variable {its g : List Itm}
theorem two_callLab (h : AllTwo SameT its g) (n : List UInt8) : callLab g n = callLab its n := by
  rw [callLab, callLab, twoFind h]
  split
  · exact (twoNo h _).label
  · rfl
mutual
theorem two_plainF (h : AllTwo SameT its g) (sc : List Lc) : ∀ (e : Ex), plainF g sc e = plainF its sc e
  | .mk k nm n args f t => by rw [plainF, plainF, two_callLab h, two_plainsF h sc args 0]
theorem two_plainsF (h : AllTwo SameT its g) (sc : List Lc) : ∀ (l : List Ex) (n : Nat), plainsF g sc l n = plainsF its sc l n
  | [], n => by rw [plainsF, plainsF]
  | e :: l, n => by rw [plainsF, plainsF, two_plainF h sc e, two_plainsF h sc l]
end
end
/-! what is told, and where -/
def dsOk (L : Nat → Prop) (s : FW) : Prop := ∀ d ∈ s.ds, L d.fr → d.fr = d.to
theorem dsOk_hit {L : Nat → Prop} {s : FW} (h : dsOk L s) (at_ : Int) (f t n : Nat) : dsOk L (s.hit at_ f t n) := fun d hd => h d (by rw [hit_ds] at hd; exact hd)
theorem dsOk_ask {L : Nat → Prop} {s : FW} (h : dsOk L s) {a b f t : Nat} {n : List UInt8} (hf : L f → f = t) : dsOk L (s.ask a b f t n) := by
  rw [FW.ask]
  split
  · exact h
  · intro d hd
    rcases List.mem_append.1 hd with hd | hd
    · exact h d hd
    · obtain rfl := List.mem_singleton.1 hd
      exact hf
theorem dsOk_arg {L : Nat → Prop} {s : FW} (h : dsOk L s) (its : List Itm) (n : List UInt8) (i a : Nat) {f t : Nat} (hf : L f → f = t) : dsOk L (askArg its n i a f t s) := by
  rw [askArg]
  split
  · split
    · exact dsOk_ask h hf
    · exact h
  · exact h
theorem dsOk_floor {L : Nat → Prop} {s : FW} (h : dsOk L s) (its : List Itm) (un : Nat) (n : List UInt8) {f t : Nat} (hf : L f → f = t) : dsOk L (askFloor its un n f t s) := by
  rw [askFloor]
  split
  · exact dsOk_ask h hf
  · exact h
theorem dsOk_ch {L : Nat → Prop} {s : FW} (h : dsOk L s) (its : List Itm) (a : Nat) (n : List UInt8) {f t : Nat} (hf : L f → f = t) : dsOk L (askCh its a n f t s) := by
  rw [askCh]
  split
  · exact dsOk_ask h hf
  · exact h
mutual
theorem dsOk_ex {L : Nat → Prop} (its : List Itm) (at_ : Int) (sc : List Lc) (un : Nat) : ∀ (e : Ex) (s : FW), e.all (posE L) → dsOk L s → dsOk L (exF its at_ sc un e s).2
  | .mk k nm n args f t, s, ha, h => by
    rw [Ex.all] at ha
    rw [exF]
    split
    · exact dsOk_hit h _ _ _ _
    · split
      · exact dsOk_hit (dsOk_ops its at_ sc un args 0 s ha.2 h) _ _ _ _
      · split
        · exact dsOk_hit (dsOk_floor (dsOk_args its at_ sc un nm args 0 s ha.2 h) its un nm ha.1) _ _ _ _
        · exact dsOk_hit h _ _ _ _
theorem dsOk_ops {L : Nat → Prop} (its : List Itm) (at_ : Int) (sc : List Lc) (un : Nat) : ∀ (l : List Ex) (n : Nat) (s : FW), exsAll (posE L) l → dsOk L s → dsOk L (opsF its at_ sc un l n s).2
  | [], n, s, _, h => by rw [opsF]; exact h
  | e :: l, n, s, ha, h => by
    rw [exsAll] at ha
    rw [opsF]
    exact dsOk_ops its at_ sc un l _ _ ha.2 (dsOk_ex its at_ sc un e s ha.1 h)
theorem dsOk_args {L : Nat → Prop} (its : List Itm) (at_ : Int) (sc : List Lc) (un : Nat) (nm : List UInt8) : ∀ (l : List Ex) (i : Nat) (s : FW), exsAll (posE L) l → dsOk L s → dsOk L (argsF its at_ sc un nm l i s)
  | [], i, s, _, h => by rw [argsF]; exact h
  | e :: l, i, s, ha, h => by
    rw [exsAll] at ha
    rw [argsF]
    exact dsOk_args its at_ sc un nm l _ _ ha.2 (dsOk_arg (dsOk_ex its at_ sc un e s ha.1 h) its nm i _ (Ex.all_node ha.1).1)
end
/-- lets are open. -/
def openP : PS := fun k _ _ _ o _ _ => k = 1 → o = true
theorem flows_of_or {a b : Nat} (h : b ||| a = b) : flows a b = true := (flows_iff a b).2 (fun k _ ht => by
  rw [← h, Nat.testBit_or, ht, Bool.or_true])
theorem or_self2 (a b : Nat) : a ||| (a ||| b) = a ||| b := by rw [← Nat.or_assoc, Nat.or_self]
section
variable {its g : List Itm} {L : Nat → Prop} {o : Lab}
mutual
theorem fit_stm (h : AllTwo SameT its g) (own : Nat) (at_ : Int) : ∀ (x : Stm) (sc : List Li) (un : Nat) (s : FW), x.all (posE L) (posS L) → x.all anyE openP → (stmI its x sc un (o, false)).2.2 = false → dsOk L s →
    dsOk L (stmF g own at_ (fillS o x) (lcOf o sc) un s).2 ∧ (stmF g own at_ (fillS o x) (lcOf o sc) un s).1 = lcOf o (stmI its x sc un (o, false)).1
  | .mk k nm a lb op e thn els f t, sc, un, s, hp, ho, hf, hs => by
    rw [Stm.all] at hp ho
    obtain ⟨⟨p1, p2⟩, p3, p4, p5⟩ := hp
    obtain ⟨o1, _, o3, o4⟩ := ho
    rw [fillS, stmF]
    rw [stmI] at hf ⊢
    dsimp only
    rw [exF_plain, two_plainF h]
    by_cases k1 : k = 1
    · subst k1
      have hop := o1 rfl
      subst hop
      rw [if_pos rfl] at hf
      simp only [if_true, unF, show ¬ (1 : Nat) = 4 by decide, if_false, and_self, Bool.false_eq_true]
      dsimp only at hf
      have hr : o f ||| (plainF its (lcOf o sc) e ||| un) = o f := by
        simp only [opOf, if_true, raiseO, raiseI] at hf
        split at hf
        · assumption
        · cases hf
      rw [FW.ask, if_pos (flows_of_or hr)]
      refine ⟨dsOk_ex g at_ _ _ e s p3 hs, ?_⟩
      rw [lcOf, lcOf, List.map_append]
      rfl
    · have hno := p1 k1
      have hL : L f → f = t := fun h0 => absurd h0 hno
      rw [if_neg k1] at hf ⊢
      rw [if_neg k1]
      have hx := dsOk_ex g at_ (lcOf o sc) (unF g (lcOf o sc) k un e) e s p3 hs
      generalize (exF g at_ (lcOf o sc) (unF g (lcOf o sc) k un e) e s).2 = s1 at hx ⊢
      by_cases k2 : k = 2
      · rw [if_pos k2, if_pos k2]
        exact ⟨dsOk_ask hx hL, rfl⟩
      · rw [if_neg k2] at hf ⊢
        rw [if_neg k2]
        by_cases k5 : k = 5
        · rw [if_pos k5, if_neg (by omega)]
          exact ⟨dsOk_ch hx _ _ _ hL, rfl⟩
        · rw [if_neg k5]
          by_cases k6 : k = 6
          · rw [if_pos k6, if_neg (by omega)]
            exact ⟨dsOk_ask hx hL, rfl⟩
          · rw [if_neg k6]
            by_cases k3 : k = 3 ∨ k = 4
            · rw [if_pos k3] at hf ⊢
              rw [if_pos k3]
              have hun : plainF its (lcOf o sc) e ||| unF g (lcOf o sc) k un e = plainF its (lcOf o sc) e ||| un := by
                rw [unF]
                split
                · rw [two_plainF h, or_self2]
                · rfl
              rw [hun]
              dsimp only at hf ⊢
              have q1 := stmsI_keep its els _ _ _ hf
              rw [q1] at hf
              have q2 := stmsI_keep its thn _ _ _ hf
              have q3 : (stmsI its els sc (plainF its (lcOf o sc) e ||| un) (o, false)).2.2 = false := by
                rw [q2] at q1; rw [q1]
              have r1 := fit_stms h own at_ thn sc (plainF its (lcOf o sc) e ||| un) s1 p4 o3 hf hx
              exact ⟨(fit_stms h own at_ els sc (plainF its (lcOf o sc) e ||| un) _ p5 o4 q3 r1.1).1, rfl⟩
            · rw [if_neg k3, if_neg k3]
              exact ⟨hx, rfl⟩
theorem fit_stms (h : AllTwo SameT its g) (own : Nat) (at_ : Int) : ∀ (l : List Stm) (sc : List Li) (un : Nat) (s : FW), stmsAll (posE L) (posS L) l → stmsAll anyE openP l → (stmsI its l sc un (o, false)).2.2 = false → dsOk L s →
    dsOk L (stmsF g own at_ (fillL o l) (lcOf o sc) un s).2 ∧ (stmsF g own at_ (fillL o l) (lcOf o sc) un s).1 = lcOf o (stmsI its l sc un (o, false)).1
  | [], sc, un, s, _, _, _, hs => by rw [fillL, stmsF, stmsI]; exact ⟨hs, rfl⟩
  | x :: l, sc, un, s, hp, ho, hf, hs => by
    rw [stmsAll] at hp ho
    rw [stmsI] at hf
    have q1 := stmsI_keep its l _ _ _ hf
    rw [q1] at hf
    have q2 := stmI_keep its x _ _ _ hf
    have r1 := fit_stm h own at_ x sc un s hp.1 ho.1 hf hs
    rw [fillL, stmsF, stmsI, r1.2, q2]
    rw [q2] at q1
    exact fit_stms h own at_ l _ un _ hp.2 ho.2 (by rw [q1]) r1.1
end
end
theorem parsF_of (o : Lab) (l : List Par) : parsF l = lcOf o (parsI l) := by
  rw [parsF, lcOf, parsI, List.map_map]; rfl
/-- an item whose labels were found. -/
theorem fit_item {its g : List Itm} (h : AllTwo (Labd its) its g) {L : Nat → Prop} {i : Nat} (hi : i < its.length) (hp : stmsAll (posE L) (posS L) (itNo its i).body) (ho : stmsAll anyE openP (itNo its i).body) (at_ : Int) : dsOk L (checkF g i at_) := by
  have hs := labs_same h
  obtain ⟨b, h1, h2⟩ := h.get (itNo_get hi)
  have hb : itNo g i = b := by rw [itNo, List.getD_eq_getElem?_getD, h1]; rfl
  have h0 : dsOk L FW0 := fun d hd => by cases hd
  rw [checkF, hb]
  split
  · rename_i hk
    have hk2 : (itNo its i).kind = 2 := by rw [← (twoNo hs i).kind, hb]; exact hk
    obtain ⟨o, hfx, rfl⟩ := h2.1 hk2
    have hr := hfx.2
    rw [roundI] at hr
    show dsOk L (stmsF g _ at_ (fillL o (itNo its i).body) (parsF (itNo its i).params) 0 FW0).2
    rw [parsF_of o]
    exact (fit_stms hs _ at_ _ _ 0 FW0 hp ho (by rw [hr]) h0).1
  · exact h0
end Go.Sp
end
