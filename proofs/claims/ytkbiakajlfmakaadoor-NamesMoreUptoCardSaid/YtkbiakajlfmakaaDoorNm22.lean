/- Own work: texts SpecMore, SpecMore2, LawNm, one behind the other. -/
import Derived.Test.YtkbiakajlfmakaaDoorNm21
section
namespace Go.Sp
mutual
def Ex.er : Ex → Ex
  | .mk k nm _ args f _ => .mk k nm 0 (exsEr args) (if k = 2 ∨ k = 4 then f else 0) 0
def exsEr : List Ex → List Ex
  | [] => []
  | e :: es => e.er :: exsEr es
 end
mutual
def Stm.er : Stm → Stm
  | .mk k nm a _ _ e thn els _ _ => .mk k nm (if k ≠ 2 ∧ nm = [] then 0 else a) 0 false e.er (stmsEr thn) (stmsEr els) 0 0
def stmsEr : List Stm → List Stm
  | [] => []
  | x :: xs => x.er :: stmsEr xs
 end
def Par.er (p : Par) : Rf := ⟨p.name, if p.name = [] then 0 else p.at_⟩
def Rf.er (p : Rf) : Rf := ⟨p.name, if p.name = [] then 0 else p.at_⟩
theorem exsEr_map : ∀ (l : List Ex), exsEr l = l.map Ex.er
  | [] => by rw [exsEr]; rfl
  | e :: l => by rw [exsEr, exsEr_map l]; rfl
theorem stmsEr_map : ∀ (l : List Stm), stmsEr l = l.map Stm.er
  | [] => by rw [stmsEr]; rfl
  | e :: l => by rw [stmsEr, stmsEr_map l]; rfl
theorem exsEr_app {l l' : List Ex} {e e' : Ex} (h : exsEr l' = exsEr l) (g : e'.er = e.er) : exsEr (l' ++ [e']) = exsEr (l ++ [e]) := by
  rw [exsEr_map] at h ⊢
  rw [exsEr_map] at h ⊢
  rw [List.map_append, List.map_append, h]
  simp [g]
theorem stmsEr_app {l l' : List Stm} {e e' : Stm} (h : stmsEr l' = stmsEr l) (g : e'.er = e.er) : stmsEr (l' ++ [e']) = stmsEr (l ++ [e]) := by
  rw [stmsEr_map] at h ⊢
  rw [stmsEr_map] at h ⊢
  rw [List.map_append, List.map_append, h]
  simp [g]
theorem exsEr_len {l l' : List Ex} (h : exsEr l' = exsEr l) : l'.length = l.length := by
  rw [exsEr_map, exsEr_map] at h
  simpa using congrArg List.length h
theorem stmsEr_len {l l' : List Stm} (h : stmsEr l' = stmsEr l) : l'.length = l.length := by
  rw [stmsEr_map, stmsEr_map] at h
  simpa using congrArg List.length h
/-- the same tokens; of two sizes. -/
structure Sim (T T' : Src) : Prop where
  len : T'.l.length = T.l.length
  text : ∀ i, (T'.tok i).text = (T.tok i).text
  kind : ∀ i, (T'.tok i).kind = (T.tok i).kind
  pos : ∀ i, (T.tok i).text ≠ [] → (T'.tok i).pos = (T.tok i).pos
  is_ : ∀ i w, T'.is i w = T.is i w
theorem sim_mk (l : List Tok) (n m : Nat) : Sim ⟨l, n⟩ ⟨l, m⟩ := by
  have ht : ∀ i, ((⟨l, m⟩ : Src).tok i).text = ((⟨l, n⟩ : Src).tok i).text := fun i => by
    simp only [Src.tok, List.getD_eq_getElem?_getD]
    cases l[i]? <;> rfl
  refine ⟨rfl, ht, fun i => ?_, fun i h => ?_, fun i w => ?_⟩
  · simp only [Src.tok, List.getD_eq_getElem?_getD]
    cases l[i]? <;> rfl
  · have h1 := tok_lt h
    simp only [Src.tok, List.getD_eq_getElem?_getD, List.getElem?_eq_getElem h1, Option.getD_some]
  · simp only [Src.is, ht]
theorem named_ne {T : Src} {s : St} (e : (s.named T).1 ≠ []) : (T.tok s.i).text ≠ [] := by
  rw [St.named] at e
  split at e
  · exact e
  · split at e <;> exact absurd rfl e
section
variable {T T' : Src} (h : Sim T T')
include h
theorem sim_need {s s' : St} (e : s'.i = s.i) (w : List UInt8) : (s'.need T' w).1 = (s.need T w).1 ∧ (s'.need T' w).2.i = (s.need T w).2.i := by
  rw [St.need, St.need, e, h.is_]
  split
  · exact ⟨rfl, by rw [next_i, next_i, e]⟩
  · exact ⟨rfl, e⟩
theorem sim_named {s s' : St} (e : s'.i = s.i) : (s'.named T').1 = (s.named T).1 ∧ (s'.named T').2.i = (s.named T).2.i := by
  rw [St.named, St.named, e, h.text, h.kind]
  split
  · exact ⟨rfl, by rw [next_i, next_i, e]⟩
  · split
    · exact ⟨rfl, by rw [next_i, next_i]; exact congrArg (· + 1) e⟩
    · exact ⟨rfl, e⟩
theorem sim_at {s s' : St} (e : s'.i = s.i) (n : List UInt8) (hn : n = (s.named T).1) : (if n = [] then 0 else (T'.tok s'.i).pos) = (if n = [] then 0 else (T.tok s.i).pos) := by
  split
  · rfl
  · rename_i h0
    rw [e]
    exact h.pos _ (named_ne (by rw [← hn]; exact h0))
theorem sim_labL : ∀ (f n n' : Nat) (s s' : St), s'.i = s.i → (labL T' f n' s').2.i = (labL T f n s).2.i
  | 0, _, _, _, _, e => e
  | f + 1, n, n', s, s', e => by
    rw [labL, labL]
    simp only [h.is_, h.text, e]
    split
    · rw [next_i, next_i, e]
    · split
      · exact e
      · have g : ∀ (c : Bool) (x : Nat) (s : St), (if c = true then s.bad T x else s).next.i = s.i + 1 := fun c x s => by split <;> rfl
        have g' : ∀ (c : Bool) (x : Nat) (s : St), (if c = true then s.bad T' x else s).next.i = s.i + 1 := fun c x s => by split <;> rfl
        simp only [g, g', e]
        split
        · exact sim_labL f _ _ _ _ (by rw [g, g', e])
        · split
          · exact sim_labL f _ _ _ _ (by rw [next_i, g', next_i, g, e])
          · show (St.next _).i = (St.next _).i
            rw [g, g', e]
theorem sim_lab {s s' : St} (e : s'.i = s.i) : (lab T' s').2.i = (lab T s).2.i := by
  rw [lab, lab, h.is_, e, h.len]
  split
  · exact sim_labL h _ _ _ _ _ (by rw [next_i, next_i, e])
  · exact e
theorem sim_expr : ∀ f, (∀ d s s', s'.i = s.i → (atom T' f d s').1.er = (atom T f d s).1.er ∧ (atom T' f d s').2.i = (atom T f d s).2.i) ∧
    (∀ d l l' s s', s'.i = s.i → exsEr l' = exsEr l → exsEr (argL T' f d l' s').1 = exsEr (argL T f d l s).1 ∧ (argL T' f d l' s').2.i = (argL T f d l s).2.i) ∧
    (∀ d m s s', s'.i = s.i → (expr T' f d m s').1.er = (expr T f d m s).1.er ∧ (expr T' f d m s').2.i = (expr T f d m s).2.i) ∧
    (∀ d m e e' s s', s'.i = s.i → e'.er = e.er → (opL T' f d m e' s').1.er = (opL T f d m e s).1.er ∧ (opL T' f d m e' s').2.i = (opL T f d m e s).2.i)
  | 0 => ⟨fun _ _ _ e => by rw [atom, atom]; exact ⟨rfl, e⟩, fun _ _ _ _ _ e g => by rw [argL, argL]; exact ⟨g, e⟩, fun _ _ _ _ e => by rw [expr, expr]; exact ⟨rfl, e⟩, fun _ _ _ _ _ _ e g => by rw [opL, opL]; exact ⟨g, e⟩⟩
  | f + 1 => by
    obtain ⟨hA, hL, hE, hO⟩ := sim_expr f
    refine ⟨fun d s s' e => ?_, fun d l l' s s' e g => ?_, fun d m s s' e => ?_, fun d m x x' s s' e g => ?_⟩
    · rw [atom, atom]
      simp only [h.is_, h.text, h.kind, h.len, e]
      have hn : ∀ a b : Nat, (Ex.mk 5 [] 0 [] a b).er = .mk 5 [] 0 [] 0 0 := fun a b => by rw [Ex.er, exsEr]; simp
      split
      · exact ⟨by rw [none_, none_, hn, hn], e⟩
      · split
        · exact ⟨by rw [none_, none_, hn, hn], e⟩
        · split
          · split
            · exact ⟨by rw [Ex.er, Ex.er]; simp, by rw [next_i, next_i]; exact congrArg (· + 1) e⟩
            · exact ⟨by rw [Ex.er, Ex.er]; simp, by rw [next_i, next_i, e]⟩
          · split
            · have h1 := hE (d + 1) 1 s.next s'.next (by rw [next_i, next_i, e])
              exact ⟨h1.1, (sim_need h h1.2 _).2⟩
            · split
              · exact ⟨by rw [none_, none_, hn, hn], e⟩
              · rename_i hk
                have hp := h.pos s.i (name_ne (by simpa using hk))
                split
                · exact ⟨by rw [Ex.er, Ex.er, hp], by rw [next_i, next_i, e]⟩
                · have h1 := hL (d + 1) [] [] s.next.next s'.next.next (by rw [next_i, next_i, next_i, next_i, e]) rfl
                  exact ⟨by rw [Ex.er, Ex.er, hp, h1.1], (sim_need h h1.2 _).2⟩
    · rw [argL, argL]
      simp only [h.is_, h.len, e, exsEr_len g]
      split
      · exact ⟨g, e⟩
      · split
        · exact ⟨g, e⟩
        · have h1 := hE d 1 s s' e
          simp only [h1.2]
          split
          · exact hL _ _ _ _ _ (by rw [next_i, next_i, h1.2]) (exsEr_app g h1.1)
          · exact ⟨exsEr_app g h1.1, h1.2⟩
    · rw [expr, expr]
      have h1 := hA d s s' e
      exact hO _ _ _ _ _ _ h1.2 h1.1
    · rw [opL, opL]
      simp only [h.text, e]
      split
      · exact ⟨g, e⟩
      · have h1 := hE d (tight (T.tok s.i).text + 1) s.next s'.next (by rw [next_i, next_i, e])
        refine hO _ _ _ _ _ _ h1.2 ?_
        rw [Ex.er, Ex.er, exsEr, exsEr, exsEr, exsEr, exsEr, exsEr, g, h1.1]
        simp
theorem sim_block : ∀ f, (∀ d s s', s'.i = s.i → stmsEr (block T' f d s').1 = stmsEr (block T f d s).1 ∧ (block T' f d s').2.i = (block T f d s).2.i) ∧
    (∀ d l l' s s', s'.i = s.i → stmsEr l' = stmsEr l → stmsEr (stmL T' f d l' s').1 = stmsEr (stmL T f d l s).1 ∧ (stmL T' f d l' s').2.i = (stmL T f d l s).2.i) ∧
    (∀ d s s', s'.i = s.i → (stm T' f d s').1.er = (stm T f d s).1.er ∧ (stm T' f d s').2.i = (stm T f d s).2.i)
  | 0 => ⟨fun _ _ _ e => by rw [block, block]; exact ⟨rfl, e⟩, fun _ _ _ _ _ e g => by rw [stmL, stmL]; exact ⟨g, e⟩, fun _ _ _ e => by rw [stm, stm]; exact ⟨rfl, e⟩⟩
  | f + 1 => by
    obtain ⟨hB, hL, hS⟩ := sim_block f
    have hE := (sim_expr h f).2.2.1
    refine ⟨fun d s s' e => ?_, fun d l l' s s' e g => ?_, fun d s s' e => ?_⟩
    · rw [block, block]
      simp only [h.is_, e]
      split
      · exact ⟨rfl, e⟩
      · split
        · exact ⟨rfl, show (St.next _).i = (St.next _).i by rw [next_i, next_i, e]⟩
        · have h1 := hL (d + 1) [] [] s.next s'.next (by rw [next_i, next_i, e]) rfl
          exact ⟨h1.1, (sim_need h h1.2 _).2⟩
    · rw [stmL, stmL]
      simp only [h.is_, h.len, e, stmsEr_len g]
      split
      · exact ⟨g, e⟩
      · split
        · exact ⟨g, e⟩
        · have h1 := hS d s s' e
          simp only [h1.2]
          refine hL _ _ _ _ _ ?_ (stmsEr_app g h1.1)
          split
          · rw [next_i, next_i, h1.2]
          · exact h1.2
    · rw [stm, stm]
      have en : s'.next.i = s.next.i := by rw [next_i, next_i, e]
      have en2 : s'.next.next.i = s.next.next.i := congrArg (· + 1) en
      have hx := fun (k : Nat) (nm : List UInt8) (a a' lb lb' : Nat) (o o' : Bool) (y y' : Ex) (t t' u u' : List Stm) (p p' q q' : Nat) (h1 : (if k ≠ 2 ∧ nm = [] then 0 else a') = if k ≠ 2 ∧ nm = [] then 0 else a) (h2 : y'.er = y.er) (h3 : stmsEr t' = stmsEr t) (h4 : stmsEr u' = stmsEr u) =>
        show (Stm.mk k nm a' lb' o' y' t' u' p' q').er = (Stm.mk k nm a lb o y t u p q).er by rw [Stm.er, Stm.er, h1, h2, h3, h4]
      simp only [h.is_, h.text, e]
      split
      · have h1 := sim_named h en
        have h2 : (if (!T.is (s'.next.named T').2.i [58]) = true then ((0 : Nat), (s'.next.named T').2) else lab T' (s'.next.named T').2.next).2.i = (if (!T.is (s.next.named T).2.i [58]) = true then ((0 : Nat), (s.next.named T).2) else lab T (s.next.named T).2.next).2.i := by
          rw [h1.2]
          split
          · exact h1.2
          · exact sim_lab h (by rw [next_i, next_i, h1.2])
        have h3 := sim_need h h2 [61]
        have h4 := hE d 1 _ _ h3.2
        have h5 := sim_need h h4.2 [59]
        refine ⟨?_, h5.2⟩
        rw [h1.1]
        refine hx _ _ _ _ _ _ _ _ _ _ _ _ _ _ _ _ _ _ ?_ h4.1 rfl rfl
        simp only [ne_eq, Nat.reduceEqDiff, not_false_eq_true, true_and]
        have h6 := sim_at h en _ rfl
        rw [next_i, next_i, e] at h6
        exact h6
      · split
        · have h1 := hE d 1 _ _ en
          have h2 := hB d _ _ h1.2
          simp only [h2.2]
          split
          · have h3 := hB d _ _ (show (block T' f d (expr T' f d 1 s'.next).2).2.next.i = (block T f d (expr T f d 1 s.next).2).2.next.i by rw [next_i, next_i, h2.2])
            exact ⟨hx _ _ _ _ _ _ _ _ _ _ _ _ _ _ _ _ _ _ rfl h1.1 h2.1 h3.1, h3.2⟩
          · exact ⟨hx _ _ _ _ _ _ _ _ _ _ _ _ _ _ _ _ _ _ rfl h1.1 h2.1 rfl, h2.2⟩
        · split
          · have h1 := hE d 1 _ _ en
            have h2 := hB d _ _ h1.2
            exact ⟨hx _ _ _ _ _ _ _ _ _ _ _ _ _ _ _ _ _ _ rfl h1.1 h2.1 rfl, h2.2⟩
          · split
            · have h1 := sim_named h en
              have h4 := hE d 1 _ _ h1.2
              have h5 := sim_need h h4.2 [59]
              refine ⟨?_, h5.2⟩
              rw [h1.1]
              refine hx _ _ _ _ _ _ _ _ _ _ _ _ _ _ _ _ _ _ ?_ h4.1 rfl rfl
              simp only [ne_eq, Nat.reduceEqDiff, not_false_eq_true, true_and]
              have h6 := sim_at h en _ rfl
              rw [next_i, next_i, e] at h6
              exact h6
            · split
              · have h4 := hE d 1 _ _ en
                have h5 := sim_need h h4.2 [59]
                exact ⟨hx _ _ _ _ _ _ _ _ _ _ _ _ _ _ _ _ _ _ rfl h4.1 rfl rfl, h5.2⟩
              · split
                · rename_i hk
                  have hp := h.pos s.i (name_ne hk)
                  split
                  · have h4 := hE d 1 _ _ en2
                    have h5 := sim_need h h4.2 [59]
                    exact ⟨hx _ _ _ _ _ _ _ _ _ _ _ _ _ _ _ _ _ _ (by rw [hp]) h4.1 rfl rfl, h5.2⟩
                  · have h4 := hE d 1 _ _ e
                    have h5 := sim_need h h4.2 [59]
                    exact ⟨hx _ _ _ _ _ _ _ _ _ _ _ _ _ _ _ _ _ _ rfl h4.1 rfl rfl, h5.2⟩
                · exact ⟨hx _ _ _ _ _ _ _ _ _ _ _ _ _ _ _ _ _ _ rfl rfl rfl rfl, e⟩
theorem sim_parL : ∀ (f : Nat) (l l' : List Par) (s s' : St), s'.i = s.i → l'.map Par.er = l.map Par.er → (parL T' f l' s').1.map Par.er = (parL T f l s).1.map Par.er ∧ (parL T' f l' s').2.i = (parL T f l s).2.i
  | 0, l, l', s, s', e, g => by rw [parL, parL]; exact ⟨g, e⟩
  | f + 1, l, l', s, s', e, g => by
    have hl : l'.length = l.length := by simpa using congrArg List.length g
    have h1 := sim_named h e
    have h2 := sim_need h h1.2 [58]
    have h3 := sim_lab h h2.2
    rw [parL, parL]
    simp only [h.is_, h.len, e, hl, h2.1, h3]
    split
    · exact ⟨g, e⟩
    · split
      · exact ⟨g, e⟩
      · split
        · exact ⟨g, h2.2⟩
        · have h4 : ∀ lb lb', (l' ++ [(⟨(s'.named T').1, lb', (T'.tok s.i).pos⟩ : Par)]).map Par.er = (l ++ [(⟨(s.named T).1, lb, (T.tok s.i).pos⟩ : Par)]).map Par.er := fun lb lb' => by
            rw [List.map_append, List.map_append, g, h1.1]
            have := sim_at h e _ rfl
            rw [e] at this
            simp only [List.map_cons, List.map_nil, Par.er, this]
          split
          · exact sim_parL f _ _ _ _ (by rw [next_i, next_i, h3]) (h4 _ _)
          · exact ⟨h4 _ _, h3⟩
theorem sim_sndL : ∀ (f : Nat) (l l' : List Rf) (s s' : St), s'.i = s.i → l'.map Rf.er = l.map Rf.er → (sndL T' f l' s').1.map Rf.er = (sndL T f l s).1.map Rf.er ∧ (sndL T' f l' s').2.i = (sndL T f l s).2.i
  | 0, l, l', s, s', e, g => by rw [sndL, sndL]; exact ⟨g, e⟩
  | f + 1, l, l', s, s', e, g => by
    have hl : l'.length = l.length := by simpa using congrArg List.length g
    have h1 := sim_named h e
    rw [sndL, sndL]
    simp only [h.is_, e, hl, h1.2]
    split
    · exact ⟨g, e⟩
    · have h4 : (l' ++ [(⟨(s'.named T').1, (T'.tok s.i).pos⟩ : Rf)]).map Rf.er = (l ++ [(⟨(s.named T).1, (T.tok s.i).pos⟩ : Rf)]).map Rf.er := by
        rw [List.map_append, List.map_append, g, h1.1]
        have := sim_at h e _ rfl
        rw [e] at this
        simp only [List.map_cons, List.map_nil, Rf.er, this]
      split
      · exact sim_sndL f _ _ _ _ (by rw [next_i, next_i, h1.2]) h4
      · exact ⟨h4, h1.2⟩
end
/-- the same item, up to where nothing stands. -/
structure ItSim (x y : Itm) : Prop where
  kind : y.kind = x.kind
  name : y.name = x.name
  at_ : y.at_ = x.at_
  mark : x.name ≠ [] → y.mark = x.mark
  params : y.params.map Par.er = x.params.map Par.er
  sends : y.sends.map Rf.er = x.sends.map Rf.er
  body : stmsEr y.body = stmsEr x.body
theorem ItSim.refl (x : Itm) : ItSim x x := ⟨rfl, rfl, rfl, fun _ => rfl, rfl, rfl, rfl⟩
theorem item_sim {src src' : List UInt8} (ht : tokens src' = tokens src) (a : Int) : ItSim (item src a) (item src' a) := by
  rw [item, item, ht]
  have h := sim_mk (tokens src) src.length src'.length
  generalize (⟨tokens src, src.length⟩ : Src) = T at h ⊢
  generalize (⟨tokens src, src'.length⟩ : Src) = T' at h ⊢
  dsimp only
  rw [h.is_, h.is_]
  split
  · dsimp only [fnItm]
    have e0 : (⟨1, []⟩ : St).i = (⟨1, []⟩ : St).i := rfl
    have h1 := sim_named h e0
    have h2 := sim_need h h1.2 [40]
    have h3 := sim_parL h 6 [] [] _ _ h2.2 rfl
    have h4 := sim_need h h3.2 [41]
    have h5 := sim_need h h4.2 [58]
    have h6 := sim_lab h h5.2
    have h7g : ∀ (q q' : Nat × St), q'.2.i = q.2.i → (if T'.is q'.2.i [115, 101, 110, 100, 115] = true then sndL T' 6 [] q'.2.next else ([], q'.2)).1.map Rf.er = (if T.is q.2.i [115, 101, 110, 100, 115] = true then sndL T 6 [] q.2.next else ([], q.2)).1.map Rf.er ∧
        (if T'.is q'.2.i [115, 101, 110, 100, 115] = true then sndL T' 6 [] q'.2.next else ([], q'.2)).2.i = (if T.is q.2.i [115, 101, 110, 100, 115] = true then sndL T 6 [] q.2.next else ([], q.2)).2.i := fun q q' h6 => by
      rw [h.is_, h6]
      split
      · exact sim_sndL h 6 [] [] _ _ (by rw [next_i, next_i, h6]) rfl
      · exact ⟨rfl, h6⟩
    have h7 := h7g _ _ h6
    have hf : fuel T' = fuel T := by rw [fuel, fuel, h.len]
    have h8g : ∀ s s' : St, s'.i = s.i → stmsEr (block T' (fuel T') 0 s').1 = stmsEr (block T (fuel T) 0 s).1 := fun s s' e => by rw [hf]; exact ((sim_block h (fuel T)).1 0 _ _ e).1
    have h8 := h8g _ _ h7.2
    refine ⟨rfl, h1.1, rfl, fun hn => ?_, h3.1, h7.1, h8⟩
    exact h.pos 1 (named_ne (s := ⟨1, []⟩) hn)
  · split
    · dsimp only [chItm]
      have e0 : (⟨1, []⟩ : St).i = (⟨1, []⟩ : St).i := rfl
      have h1 := sim_named h e0
      refine ⟨rfl, h1.1, rfl, fun hn => ?_, rfl, rfl, rfl⟩
      exact h.pos 1 (named_ne (s := ⟨1, []⟩) hn)
    · exact ⟨rfl, rfl, rfl, fun _ => rfl, rfl, rfl, rfl⟩
end Go.Sp
end
section
namespace Go.Sp
def Sub (w w' : NW) : Prop := ∀ u ∈ w.us, u ∈ w'.us
theorem Sub.use {w w' : NW} (h : Sub w w') (b : Int) (a : Nat) (n : List UInt8) (d : Int) : Sub (w.use b a n d) (w'.use b a n d) := fun u hu => by
  rcases List.mem_append.1 hu with hu | hu
  · exact List.mem_append_left _ (h u hu)
  · exact List.mem_append_right _ hu
/-- items: those of the one stand first in the other. -/
structure Fst (its its' : List Itm) : Prop where
  len : its.length ≤ its'.length
  sim : ∀ i, i < its.length → ItSim (itNo its i) (itNo its' i)
theorem Fst.find {its its' : List Itm} (h : Fst its its') {k : Int} {n : List UInt8} {j : Nat} (hf : findIt its k n = some j) : findIt its' k n = some j := by
  rw [findIt, List.findIdx?_eq_some_iff_getElem] at hf ⊢
  obtain ⟨h1, h2, h3⟩ := hf
  have hl := h.len
  have key : ∀ i (hi : i < its.length), itIs k n (its'[i]'(by omega)) = itIs k n its[i] := fun i hi => by
    have hs := h.sim i hi
    have e1 : itNo its i = its[i] := by rw [itNo, List.getD_eq_getElem?_getD, List.getElem?_eq_getElem hi]; rfl
    have e2 : itNo its' i = its'[i]'(by omega) := by rw [itNo, List.getD_eq_getElem?_getD, List.getElem?_eq_getElem (by omega)]; rfl
    rw [e1, e2] at hs
    rw [itIs, itIs, hs.kind, hs.name]
  refine ⟨by omega, by rw [key j h1]; exact h2, fun i hi => ?_⟩
  rw [key i (by omega)]
  exact h3 i hi
section
variable {its its' : List Itm}
theorem locN_more (b : Int) (sc : List Lc) (a : Nat) (n : List UInt8) {w w' : NW} (hw : Sub w w') : Sub (locN b sc a n w) (locN b sc a n w') := by
  rw [locN, locN]
  split
  · exact hw.use _ _ _ _
  · split
    · exact hw
    · exact hw
theorem itmN_more (h : Fst its its') (b : Int) (k : Int) (a a' : Nat) (n : List UInt8) (ha : n ≠ [] → a' = a) {w w' : NW} (hw : Sub w w') : Sub (itmN its b k a n w) (itmN its' b k a' n w') := by
  rw [itmN]
  split
  · rename_i j hj
    obtain ⟨h1, _, h2, h3, _⟩ := findIt_lt hj
    have hs := h.sim j h1
    rw [itmN, h.find hj]
    dsimp only
    rw [ha h3, hs.at_, hs.mark (by rw [h2]; exact h3)]
    exact hw.use _ _ _ _
  · have key : ∀ u ∈ w'.us, u ∈ (itmN its' b k a' n w').us := fun u hu => by
      rw [itmN]
      split
      · exact List.mem_append_left _ hu
      · split
        · exact hu
        · exact hu
    split
    · exact fun u hu => key u (hw u hu)
    · exact fun u hu => key u (hw u hu)
theorem callN_us (its : List Itm) (b : Int) (a : Nat) (n : List UInt8) (m : Nat) (w : NW) : (callN its b a n m w).us = (itmN its b 2 a n w).us := by
  rw [callN]
  split
  · split <;> rfl
  · rfl
theorem callN_more (h : Fst its its') (b : Int) (a : Nat) (n : List UInt8) (m m' : Nat) {w w' : NW} (hw : Sub w w') : Sub (callN its b a n m w) (callN its' b a n m' w') := fun u hu => by
  rw [callN_us] at hu ⊢
  exact itmN_more h b 2 a a n (fun _ => rfl) hw u hu
theorem mkN_more (a a' : Nat) (n : List UInt8) (ha : n ≠ [] → a' = a) (sc : List Lc) {w w' : NW} (hw : Sub w w') : (mkN n a' sc w').1 = (mkN n a sc w).1 ∧ Sub (mkN n a sc w).2 (mkN n a' sc w').2 := by
  rw [mkN, mkN]
  split
  · exact ⟨rfl, hw⟩
  · rename_i hn
    rw [ha hn]
    refine ⟨rfl, ?_⟩
    dsimp only
    split <;> exact hw
mutual
theorem exN_more (h : Fst its its') (b : Int) (sc : List Lc) : ∀ (e e' : Ex), e'.er = e.er → ∀ {w w' : NW}, Sub w w' → Sub (exN its b sc e w) (exN its' b sc e' w')
  | .mk k nm n args f t, .mk k' nm' n' args' f' t', he, w, w', hw => by
    rw [Ex.er, Ex.er] at he
    injection he with e1 e2 _ e4 e5 _
    subst e1
    subst e2
    rw [exN, exN]
    refine exsN_more h b sc args args' e4 ?_
    split
    · rename_i hk
      rw [if_pos (.inl hk), if_pos (.inl hk)] at e5
      subst e5
      exact locN_more b sc _ _ hw
    · split
      · rename_i hk
        rw [if_pos (.inr hk), if_pos (.inr hk)] at e5
        subst e5
        exact callN_more h b _ _ _ _ hw
      · exact hw
theorem exsN_more (h : Fst its its') (b : Int) (sc : List Lc) : ∀ (l l' : List Ex), exsEr l' = exsEr l → ∀ {w w' : NW}, Sub w w' → Sub (exsN its b sc l w) (exsN its' b sc l' w')
  | [], [], _, w, w', hw => by rw [exsN, exsN]; exact hw
  | [], e' :: l', he, _, _, _ => by rw [exsEr, exsEr] at he; cases he
  | e :: l, [], he, _, _, _ => by rw [exsEr, exsEr] at he; cases he
  | e :: l, e' :: l', he, w, w', hw => by
    rw [exsEr, exsEr] at he
    injection he with e1 e2
    rw [exsN, exsN]
    exact exsN_more h b sc l l' e2 (exN_more h b sc e e' e1 hw)
 end
mutual
theorem stmN_more (h : Fst its its') (b : Int) : ∀ (x x' : Stm), x'.er = x.er → ∀ (sc : List Lc) {w w' : NW}, Sub w w' → (stmN its' b x' sc w').1 = (stmN its b x sc w).1 ∧ Sub (stmN its b x sc w).2 (stmN its' b x' sc w').2
  | .mk k nm a lb o e thn els f t, .mk k' nm' a' lb' o' e' thn' els' f' t', he, sc, w, w', hw => by
    rw [Stm.er, Stm.er] at he
    injection he with e1 e2 e3 _ _ e6 e7 e8 _ _
    subst e1
    subst e2
    have hx := exN_more h b sc e e' e6 hw
    have ha : nm' ≠ [] → a' = a := fun hn => by
      rw [if_neg (fun g => hn g.2), if_neg (fun g => hn g.2)] at e3
      exact e3
    rw [stmN, stmN]
    split
    · exact mkN_more _ _ _ ha sc hx
    · split
      · rename_i hk
        rw [if_neg (fun g => g.1 hk), if_neg (fun g => g.1 hk)] at e3
        subst e3
        exact ⟨rfl, locN_more b sc _ _ hx⟩
      · split
        · exact ⟨rfl, itmN_more h b 1 _ _ _ ha hx⟩
        · split
          · have h1 := stmsN_more h b thn thn' e7 sc hx
            exact ⟨rfl, (stmsN_more h b els els' e8 sc h1.2).2⟩
          · exact ⟨rfl, hx⟩
theorem stmsN_more (h : Fst its its') (b : Int) : ∀ (l l' : List Stm), stmsEr l' = stmsEr l → ∀ (sc : List Lc) {w w' : NW}, Sub w w' → (stmsN its' b l' sc w').1 = (stmsN its b l sc w).1 ∧ Sub (stmsN its b l sc w).2 (stmsN its' b l' sc w').2
  | [], [], _, sc, w, w', hw => by rw [stmsN, stmsN]; exact ⟨rfl, hw⟩
  | [], e' :: l', he, _, _, _, _ => by rw [stmsEr, stmsEr] at he; cases he
  | e :: l, [], he, _, _, _, _ => by rw [stmsEr, stmsEr] at he; cases he
  | e :: l, e' :: l', he, sc, w, w', hw => by
    rw [stmsEr, stmsEr] at he
    injection he with e1 e2
    rw [stmsN, stmsN]
    have h1 := stmN_more h b e e' e1 sc hw
    rw [h1.1]
    exact stmsN_more h b l l' e2 _ h1.2
 end
theorem er_at {n n' : List UInt8} {a a' : Nat} (e : (⟨n', if n' = [] then 0 else a'⟩ : Rf) = ⟨n, if n = [] then 0 else a⟩) : n' = n ∧ (n ≠ [] → a' = a) := by
  injection e with e1 e2
  subst e1
  refine ⟨rfl, fun hn => ?_⟩
  rw [if_neg hn, if_neg hn] at e2
  exact e2
theorem parN_more : ∀ (l l' : List Par), l'.map Par.er = l.map Par.er → ∀ (sc : List Lc) {w w' : NW}, Sub w w' → (parN l' sc w').1 = (parN l sc w).1 ∧ Sub (parN l sc w).2 (parN l' sc w').2
  | [], [], _, sc, w, w', hw => by rw [parN, parN]; exact ⟨rfl, hw⟩
  | [], e' :: l', he, _, _, _, _ => by simp at he
  | e :: l, [], he, _, _, _, _ => by simp at he
  | e :: l, e' :: l', he, sc, w, w', hw => by
    rw [List.map_cons, List.map_cons] at he
    injection he with e1 e2
    obtain ⟨e3, e4⟩ := er_at e1
    rw [parN, parN, e3]
    have h1 := mkN_more e.at_ e'.at_ e.name e4 sc hw
    rw [h1.1]
    exact parN_more l l' e2 _ h1.2
theorem sndStep_us (its : List Itm) (b : Int) (dn : List Rf) (c : Rf) (w : NW) : (sndStep its b dn c w).us = (itmN its b 1 c.at_ c.name w).us := by
  rw [sndStep]
  split <;> rfl
theorem sndN_more (h : Fst its its') (b : Int) : ∀ (l l' : List Rf), l'.map Rf.er = l.map Rf.er → ∀ (dn dn' : List Rf) {w w' : NW}, Sub w w' → Sub (sndN its b dn l w) (sndN its' b dn' l' w')
  | [], [], _, dn, dn', w, w', hw => by rw [sndN, sndN]; exact hw
  | [], e' :: l', he, _, _, _, _, _ => by simp at he
  | e :: l, [], he, _, _, _, _, _ => by simp at he
  | e :: l, e' :: l', he, dn, dn', w, w', hw => by
    rw [List.map_cons, List.map_cons] at he
    injection he with e1 e2
    obtain ⟨e3, e4⟩ := er_at e1
    rw [sndN, sndN]
    refine sndN_more h b l l' e2 _ _ fun u hu => ?_
    rw [sndStep_us] at hu ⊢
    rw [e3]
    exact itmN_more h b 1 _ _ _ e4 hw u hu
theorem walkN_more (h : Fst its its') {i : Nat} (hi : i < its.length) : Sub (walkN its i) (walkN its' i) := by
  have hs := h.sim i hi
  by_cases hk : (itNo its i).kind = 2
  · rw [walkN, walkN, if_pos hk, if_pos (show (itNo its' i).kind = 2 by rw [hs.kind]; exact hk), fnN, fnN, hs.at_]
    have hw : Sub (if taken its i (itNo its i) = true then NW0.tell (itNo its i).mark 7 (itNo its i).name else NW0) (if taken its' i (itNo its' i) = true then NW0.tell (itNo its' i).mark 7 (itNo its' i).name else NW0) := by
      split <;> exact fun u hu => by cases hu
    have h1 := parN_more (itNo its i).params (itNo its' i).params hs.params [] hw
    rw [h1.1]
    exact (stmsN_more h _ _ _ hs.body _ (sndN_more h _ _ _ hs.sends _ _ h1.2)).2
  · rw [walkN, if_neg hk]
    split <;> exact fun u hu => by cases hu
theorem usesN_more (h : Fst its its') : ∀ u ∈ usesN its, u ∈ usesN its' := fun u hu => by
  rw [usesN, usesTo, List.mem_flatMap] at hu ⊢
  obtain ⟨i, h1, h2⟩ := hu
  have h3 := List.mem_range.1 h1
  have hl := h.len
  exact ⟨i, List.mem_range.2 (by omega), walkN_more h h3 u h2⟩
end
theorem begins_app (s r : List UInt8) {t : Tok} (h : t.pos < s.length) : begins (s ++ r) t = begins s t := by
  have e : (s ++ r).getD (t.pos - 1) 0 = s.getD (t.pos - 1) 0 := by
    rw [List.getD_eq_getElem?_getD, List.getD_eq_getElem?_getD, List.getElem?_append_left (by omega)]
  rw [begins, begins, e]
theorem foldl_cut_app (s r : List UInt8) : ∀ (l : List Tok) (acc : List Nat), (∀ t ∈ l, t.pos < s.length) → l.foldl (cutStep (s ++ r)) acc = l.foldl (cutStep s) acc
  | [], _, _ => rfl
  | t :: l, acc, h => by
    rw [List.foldl_cons, List.foldl_cons, cutStep, begins_app s r (h t List.mem_cons_self), ← cutStep]
    exact foldl_cut_app s r l _ (fun t ht => h t (List.mem_cons_of_mem _ ht))
theorem cuts_join (s t : List UInt8) : ∃ r, cuts (s ++ [10] ++ t) = cuts s ++ r ∧ ∀ x ∈ r, s.length + 1 ≤ x := by
  obtain ⟨r, h1, h2⟩ := cuts_sub (s ++ [10] ++ t) ((tokens t).map (shift (s.length + 1))) (cuts s)
  refine ⟨r, ?_, fun x hx => ?_⟩
  · rw [cuts, tokens_join, List.foldl_append, List.append_assoc, foldl_cut_app s ([10] ++ t) (tokens s) [] (fun t ht => (tokens_ok s t ht).pos), ← cuts, ← List.append_assoc]
    exact h1
  · have := h2.subset hx
    obtain ⟨y, hy, rfl⟩ := List.mem_map.1 this
    obtain ⟨z, _, rfl⟩ := List.mem_map.1 hy
    show s.length + 1 ≤ z.pos + (s.length + 1)
    omega
theorem piece_end (s t : List UInt8) {c : Nat} (hc : c ≤ s.length) : ((s ++ [10] ++ t).drop c).take (s.length + 1 - c) = s.drop c ++ [10] := by
  rw [List.append_assoc, List.drop_append_of_le_length hc, ← List.append_assoc]
  exact List.take_left' (by rw [List.length_append, List.length_drop, List.length_singleton]; omega)
theorem file_more (s t : List UInt8) (h0 : fileErr s = 0) (h1 : fileErr (s ++ [10] ++ t) = 0)
    (hz : ∀ i, i < (fileItems s).length → (itNo (fileItems (s ++ [10] ++ t)) i).size ≤ (itNo (fileItems s) i).size + 1) : Fst (fileItems s) (fileItems (s ++ [10] ++ t)) := by
  obtain ⟨r, hr, hr1⟩ := cuts_join s t
  rw [fileItems, if_pos h0, fileItems, if_pos h1] at hz ⊢
  have hno : ∀ (v : List UInt8) (cs : List Nat) (i : Nat), i < cs.length → itNo (items v cs) i = itemAt v cs i := fun v cs i hi => by
    rw [itNo, items, List.getD_eq_getElem?_getD, List.getElem?_map, List.getElem?_range hi]; rfl
  have hln : ∀ (v : List UInt8) (cs : List Nat), (items v cs).length = cs.length := fun v cs => by rw [items, List.length_map, List.length_range]
  have hlc : (cuts (s ++ [10] ++ t)).length = (cuts s).length + r.length := by rw [hr, List.length_append]
  refine ⟨by rw [hln, hln]; omega, fun i hi => ?_⟩
  have hz := hz i hi
  rw [hln] at hi
  rw [hno _ _ _ hi, hno _ _ _ (by omega)] at hz ⊢
  obtain ⟨c1, c2⟩ := cuts_at s hi
  have hc : (cuts (s ++ [10] ++ t)).getD i 0 = (cuts s).getD i 0 := by
    rw [hr, List.getD_eq_getElem?_getD, List.getD_eq_getElem?_getD, List.getElem?_append_left hi]
  rw [itemAt, itemAt] at hz ⊢
  rw [item_size, item_size] at hz
  rw [hc]
  refine item_sim ?_ _
  rcases Nat.lt_or_ge (i + 1) (cuts s).length with h4 | h4
  · have e1 : (cuts (s ++ [10] ++ t)).getD (i + 1) (s ++ [10] ++ t).length = (cuts s).getD (i + 1) s.length := by
      rw [hr, List.getD_eq_getElem?_getD, List.getD_eq_getElem?_getD, List.getElem?_append_left h4, List.getElem?_eq_getElem h4]; rfl
    rw [piece, piece, hc, e1]
    congr 1
    rw [List.append_assoc, List.drop_append_of_le_length (by omega), List.take_append_of_le_length (by rw [List.length_drop]; omega)]
  · have e2 : (cuts s).getD (i + 1) s.length = s.length := by rw [List.getD_eq_getElem?_getD, List.getElem?_eq_none h4]; rfl
    have e3 : s.length + 1 ≤ (cuts (s ++ [10] ++ t)).getD (i + 1) (s ++ [10] ++ t).length := by
      rw [hr, List.getD_eq_getElem?_getD, List.getElem?_append_right h4]
      cases hx : r[i + 1 - (cuts s).length]? with
      | none => rw [Option.getD_none, List.length_append, List.length_append, List.length_singleton]; omega
      | some x => rw [Option.getD_some]; exact hr1 x (List.mem_of_getElem? hx)
    have hci := cuts_at (s ++ [10] ++ t) (i := i) (by omega)
    rw [hc] at hci
    have hl1 : (piece s (cuts s) i).length = s.length - (cuts s).getD i 0 := by
      rw [piece, e2, List.length_take, List.length_drop]; omega
    have hl2 : (piece (s ++ [10] ++ t) (cuts (s ++ [10] ++ t)) i).length = (cuts (s ++ [10] ++ t)).getD (i + 1) (s ++ [10] ++ t).length - (cuts s).getD i 0 := by
      rw [piece, hc, List.length_take, List.length_drop]; omega
    rw [hl1, hl2] at hz
    have e4 : (cuts (s ++ [10] ++ t)).getD (i + 1) (s ++ [10] ++ t).length = s.length + 1 := by omega
    have e5 : piece (s ++ [10] ++ t) (cuts (s ++ [10] ++ t)) i = piece s (cuts s) i ++ [10] ++ [] := by
      rw [piece, piece, hc, e4, e2, piece_end s t (by omega), List.append_nil]
      congr 1
      rw [List.take_of_length_le (by rw [List.length_drop]; exact Nat.le_refl _)]
    rw [e5, tokens_join]
    simp [tokens, toks]
theorem uses_more (s t : List UInt8) (h0 : fileErr s = 0) (h1 : fileErr (s ++ [10] ++ t) = 0)
    (hz : ∀ i, i < (fileItems s).length → (itNo (fileItems (s ++ [10] ++ t)) i).size ≤ (itNo (fileItems s) i).size + 1) : ∀ u ∈ usesN (fileItems s), u ∈ usesN (fileItems (s ++ [10] ++ t)) :=
  usesN_more (file_more s t h0 h1 hz)
end Go.Sp
end
section
namespace Go.Sp
theorem file_size (s : List UInt8) (h0 : fileErr s = 0 → s.length ≤ 4000) : ∀ x ∈ fileItems s, x.size ≤ 4000 := by
  intro x hx
  rw [fileItems] at hx
  split at hx
  · rename_i h1
    rw [items] at hx
    obtain ⟨j, _, rfl⟩ := List.mem_map.1 hx
    have := h0 h1
    rw [itemAt, item_size, piece, List.length_take, List.length_drop]
    omega
  · cases hx
def hasU (l : List Us) (u : Us) : Bool := l.any (fun v => decide (v = u))
theorem hasU_snoc (l : List Us) (u v : Us) : hasU (l ++ [v]) u = (hasU l u || decide (v = u)) := by simp [hasU]
theorem hasU_mem {l : List Us} {u : Us} (h : u ∈ l) : hasU l u = true := by
  rw [hasU, List.any_eq_true]
  exact ⟨u, h, by simp⟩
theorem take_snoc {α : Type} {l : List α} {k : Nat} (h : k < l.length) : l.take (k + 1) = l.take k ++ [l[k]] := by
  rw [List.take_add_one, List.getElem?_eq_getElem h]; rfl
end Go.Sp
namespace Go.Proofs.YtkbiakajlfmakaaDoor
open Go.Fw
theorem eqUs (u v : Sp.Us) : eqCells (encUs u) (encUs v) = decide (v = u) := by
  obtain ⟨a, b, c⟩ := u
  obtain ⟨x, y, z⟩ := v
  rw [Bool.eq_iff_iff]
  simp only [encUs, eqCells, eqCell, Bool.and_eq_true, decide_eq_true_eq, Sp.Us.mk.injEq, and_true]
  constructor
  · rintro ⟨h1, h2, h3⟩; exact ⟨h1.symm, h2.symm, h3.symm⟩
  · rintro ⟨h1, h2, h3⟩; exact ⟨h1.symm, h2.symm, h3.symm⟩
section
variable {P : Program} {N : Nat} {ds : List Deferred} {X : List Nat} {Q : Exit → Act → World → Prop} {l : Log} {w w0 : World} {ops : Array Oper} {os' tail : List Oper} {d : Nat} {ty : TypeId} {pos : String} {af : Array Edge} {g : Option (Nat × Bool)} {I I0 : Imm} {H : List HItem}
end
set_option maxHeartbeats 16000000 in
theorem sp_nmore (s t : List UInt8) (hs : s.length ≤ 1048576) (ht : t.length ≤ 1048576) (I : Imm) (hC : Conv I) : CalM Tryd.prog 8 #[str s, str t] I [] (fun v _ H' => v = .bool true ∧ H' = []) := by
  refine CalM.of fun w E hm => enter (N := 109) Tryd.func8 rfl [(0, str s), (1, str t)] args2 rfl ?_
  have hA := fun (I' : Imm) (m : Le I I') => n_alive I' (hC.le m)
  have hlt2 : (s ++ [10] ++ t).length ≤ 9223372036854775807 := by simp only [List.length_append, List.length_singleton]; omega
  have hF := fun (I' : Imm) (m : Le I I') => p_file s I' (hC.le m) (by omega)
  have hG := fun (I' : Imm) (m : Le I I') => p_file (s ++ [10] ++ t) I' (hC.le m) hlt2
  have g1 := Sp.file_itN s
  have g2 := Sp.file_itN (s ++ [10] ++ t)
  have few1 := Sp.file_few s
  have few2 := Sp.file_few (s ++ [10] ++ t)
  have hmore := Sp.uses_more s t
  have he := fun (u : List UInt8) (h0 : Sp.fileErr u = 0) => show u.length ≤ 4000 by
    rw [Sp.fileErr] at h0
    split at h0
    · cases h0
    · omega
  have he1 := he s
  have he2 := he (s ++ [10] ++ t)
  have hz1 := Sp.file_size s he1
  generalize Sp.fileErr s = er at hF hmore he1
  generalize Sp.fileErr (s ++ [10] ++ t) = er2 at hG hmore he2
  generalize Sp.fileItems s = its at hF g1 few1 hmore hz1
  generalize Sp.fileItems (s ++ [10] ++ t) = its2 at hG g2 few2 hmore
  by_cases h0 : er ≠ 0 ∨ er2 ≠ 0 ∨ its2.length < its.length
  · skip
    repeat' (first
      | (refine m_call (d := 17) hm (by rfl) (by rfl) (by rfl) (by first | exact pm0 | exact pm1_0 | exact pm1_1 | exact pm1_2 | exact pm1_3 | exact pm2_0 | exact pm2_1 | exact pm2_2 | exact pm2_3 | exact pm2_4 | exact pm3_0 | exact pm3_1 | exact pm3_2) (hA _ (Le.refl _)) ?_; clear hm; rintro _ I2 _ _ ⟨rfl, rfl⟩ hle hm; have hleI2 := hle; try simp only [setn] at hm)
      | (refine m_call (d := 21) hm (by rfl) (by rfl) (by rfl) (by first | exact pm0 | exact pm1_0 | exact pm1_1 | exact pm1_2 | exact pm1_3 | exact pm2_0 | exact pm2_1 | exact pm2_2 | exact pm2_3 | exact pm2_4 | exact pm3_0 | exact pm3_1 | exact pm3_2) (hF _ hleI2) ?_; clear hm; rintro _ I3 _ _ ⟨a, cp, xs, rfl, hrow, hits, rfl⟩ hle hm; have hleI3 := hle; try simp only [setn] at hm)
      | (refine op_add_str (d := 26) (by rfl) (by rfl) (by rfl) (by rfl) (by simp only [List.length_append, List.length_singleton]; omega) ?_)
      | (refine op_add_str (d := 28) (by rfl) (by rfl) (by rfl) (by rfl) (by simp only [List.length_append, List.length_singleton]; omega) ?_)
      | (refine m_call (d := 29) hm (by rfl) (by rfl) (by rfl) (by first | exact pm0 | exact pm1_0 | exact pm1_1 | exact pm1_2 | exact pm1_3 | exact pm2_0 | exact pm2_1 | exact pm2_2 | exact pm2_3 | exact pm2_4 | exact pm3_0 | exact pm3_1 | exact pm3_2) (hG _ (hleI2.trans hleI3)) ?_; clear hm; rintro _ I4 _ _ ⟨a2, cp2, xs2, rfl, hrow2, hits2, rfl⟩ hle hm; have hleI4 := hle; try simp only [setn] at hm)
      | (refine m_varS (d := 5) hm (by rfl) (by rfl) (by rfl) (by rfl) (by rfl) ?_; clear hm; intro b5 _ hm)
      | (refine m_varS (d := 7) hm (by rfl) (by rfl) (by rfl) (by rfl) (by rfl) ?_; clear hm; intro b7 _ hm)
      | refine m_load1 hm (by rfl) (by rfl) (by rfl) (by first | exact gt0 | exact gt1 | exact gt2 | exact gt3 | exact gt4 | exact gt5 | exact gt6) (by rfl) ?_
      | refine op_move (by rfl) (by rfl) (by rfl) ?_
      | refine op_assign (by rfl) (by rfl) (by rfl) ?_
      | refine op_pick_true (by rfl) (by rfl) (by rfl) (by rfl) ?_
      | refine op_pick_false (by rfl) (by rfl) (by rfl) (by rfl) ?_
      | refine op_lss (by rfl) (by rfl) (by rfl) (by rfl) ?_
      | refine op_neq (by rfl) (by rfl) (by rfl) (by rfl) ?_
      | refine op_len_slice (by rfl) (by rfl) (by rfl) ?_
      | refine op_not (by rfl) (by rfl) (by rfl) ?_
      | refine op_extract (by rfl) (by rfl) (by rfl) (by rfl) ?_
      | refine op_fieldAddr (by rfl) (by rfl) (by rfl) ?_
      | refine wl_skip (by rfl) (by rfl) (by rfl) ?_
      | (refine wl_split_dec (by rfl) (by rfl) (by rfl) (fun _ => ?_) (fun _ => ?_) <;> (try first | contradiction | (exfalso; omega)))
      | refine wl_nil ?_
      | refine at_then_normal ?_
      | refine at_then_ret ?_
      | refine wc_seq ?_
      | refine wc_region ?_
      | refine wc_skip ?_
      | refine wc_ret ?_
      | refine at_ret1 (by rfl) (by rfl) ?_
      | refine wc_cond_true (by rfl) ?_
      | refine wc_cond_false (by rfl) ?_
      | (refine wc_cond_dec (by rfl) (fun _ => ?_) (fun _ => ?_) <;> (try first | contradiction | (exfalso; omega))))
    all_goals try (exfalso; omega)
    all_goals exact ⟨I4, [], ⟨rfl, rfl⟩, hm.left (H := [])⟩
  obtain rfl : er = 0 := by omega
  obtain rfl : er2 = 0 := by omega
  have hl4 := he1 rfl
  have hl5 := he2 rfl
  have hul := Sp.usesN_len g1 (by omega)
  have hul2 := Sp.usesN_len g2 (by omega)
  have hU := fun (J : Imm) (a cp xs) (h : FE J its a cp xs) => n_uses J h hl4 g1
  have hV := fun (J : Imm) (a cp xs) (h : FE J its2 a cp xs) => n_uses J h hl5 g2
  repeat' (first
    | (refine m_call (d := 17) hm (by rfl) (by rfl) (by rfl) (by first | exact pm0 | exact pm1_0 | exact pm1_1 | exact pm1_2 | exact pm1_3 | exact pm2_0 | exact pm2_1 | exact pm2_2 | exact pm2_3 | exact pm2_4 | exact pm3_0 | exact pm3_1 | exact pm3_2) (hA _ (Le.refl _)) ?_; clear hm; rintro _ I2 _ _ ⟨rfl, rfl⟩ hle hm; have hleI2 := hle; try simp only [setn] at hm)
    | (refine m_call (d := 21) hm (by rfl) (by rfl) (by rfl) (by first | exact pm0 | exact pm1_0 | exact pm1_1 | exact pm1_2 | exact pm1_3 | exact pm2_0 | exact pm2_1 | exact pm2_2 | exact pm2_3 | exact pm2_4 | exact pm3_0 | exact pm3_1 | exact pm3_2) (hF _ hleI2) ?_; clear hm; rintro _ I3 _ _ ⟨a, cp, xs, rfl, hrow, hits, rfl⟩ hle hm; have hleI3 := hle; try simp only [setn] at hm)
    | (refine op_add_str (d := 26) (by rfl) (by rfl) (by rfl) (by rfl) (by simp only [List.length_append, List.length_singleton]; omega) ?_)
    | (refine op_add_str (d := 28) (by rfl) (by rfl) (by rfl) (by rfl) (by simp only [List.length_append, List.length_singleton]; omega) ?_)
    | (refine m_call (d := 29) hm (by rfl) (by rfl) (by rfl) (by first | exact pm0 | exact pm1_0 | exact pm1_1 | exact pm1_2 | exact pm1_3 | exact pm2_0 | exact pm2_1 | exact pm2_2 | exact pm2_3 | exact pm2_4 | exact pm3_0 | exact pm3_1 | exact pm3_2) (hG _ (hleI2.trans hleI3)) ?_; clear hm; rintro _ I4 _ _ ⟨a2, cp2, xs2, rfl, hrow2, hits2, rfl⟩ hle hm; have hleI4 := hle; try simp only [setn] at hm)
    | (refine m_varS (d := 5) hm (by rfl) (by rfl) (by rfl) (by rfl) (by rfl) ?_; clear hm; intro b5 _ hm)
    | (refine m_varS (d := 7) hm (by rfl) (by rfl) (by rfl) (by rfl) (by rfl) ?_; clear hm; intro b7 _ hm)
    | refine m_load1 hm (by rfl) (by rfl) (by rfl) (by first | exact gt0 | exact gt1 | exact gt2 | exact gt3 | exact gt4 | exact gt5 | exact gt6) (by rfl) ?_
    | refine op_move (by rfl) (by rfl) (by rfl) ?_
    | refine op_assign (by rfl) (by rfl) (by rfl) ?_
    | refine op_pick_false (by rfl) (by rfl) (by rfl) (by rfl) ?_
    | refine op_lss (by rfl) (by rfl) (by rfl) (by rfl) ?_
    | refine op_neq (by rfl) (by rfl) (by rfl) (by rfl) ?_
    | refine op_len_slice (by rfl) (by rfl) (by rfl) ?_
    | refine op_not (by rfl) (by rfl) (by rfl) ?_
    | refine op_extract (by rfl) (by rfl) (by rfl) (by rfl) ?_
    | refine op_fieldAddr (by rfl) (by rfl) (by rfl) ?_
    | refine wl_nil ?_
    | refine at_then_normal ?_
    | refine wc_seq ?_
    | refine wc_region ?_
    | refine wc_block ?_
    | refine wc_skip ?_
    | refine wc_cond_false (by rfl) ?_
    | (refine wc_cond_dec (by rfl) (fun _ => ?_) (fun _ => ?_) <;> (try first | contradiction | (exfalso; omega))))
  all_goals try (exfalso; omega)
  have q1 := (fe_nm hrow hits (by omega)).le hleI4
  have q2 := fe_nm hrow2 hits2 (by omega)
  refine wc_loop (fun k : Nat => [(5, ptr b5), (7, ptr b7), (49, nt its.length), (50, nt k)])
    (fun k w' => Mem E I4 [.cell b7 [.slice a2 its2.length cp2] 24, .cell b5 [.slice a its.length cp] 24] w' ∧ k ≤ its.length ∧ ∀ i, i < k → (Sp.itNo its2 i).size ≤ (Sp.itNo its i).size + 1) (fun k => its.length - k) 0
    (by exact ⟨rfl, rfl, rfl, rfl, trivial⟩) ⟨hm, Nat.zero_le _, fun i hi => absurd hi (Nat.not_lt_zero i)⟩ ?_
  clear hm
  rintro k w1 ⟨hm, hk, hsz⟩
  try dsimp only at hm hk hsz ⊢
  by_cases hlt : k < its.length
  · have hg := Sp.itNo_get hlt
    have hg2 := Sp.itNo_get (show k < its2.length by omega)
    obtain ⟨ci, hci, ⟨pa, pc, sa9, sc9, ba, bc9, da9, dc9, xb, rfl, _⟩, _⟩ := q1.get hg
    obtain ⟨ci2, hci2, ⟨pa2, pc2, sa92, sc92, ba2, bc92, da92, dc92, xb2, rfl, _⟩, _⟩ := q2.get hg2
    have hr1 := q1.row
    have hr2 := q2.row
    have z1 := hz1 _ (Sp.itNo_mem hlt)
    repeat' (first
      | (refine iq_indexAddr (d := 56) (by rfl) (by rfl) (by rfl) (by rfl) hr2 (by omega) (by omega) ?_; intro b56 o56 p56; rw [show ((k : Int).toNat * 10) = k * 10 from rfl, hci2] at p56)
      | (refine iq_indexAddr (d := 62) (by rfl) (by rfl) (by rfl) (by rfl) hr1 (by omega) (by omega) ?_; intro b62 o62 p62; rw [show ((k : Int).toNat * 10) = k * 10 from rfl, hci] at p62)
      | (refine iq_indexAddr (d := 71) (by rfl) (by rfl) (by rfl) (by rfl) hr2 (by omega) (by omega) ?_; intro b71 o71 p71; rw [show ((k : Int).toNat * 10) = k * 10 from rfl, hci2] at p71)
      | (refine iq_indexAddr (d := 77) (by rfl) (by rfl) (by rfl) (by rfl) hr1 (by omega) (by omega) ?_; intro b77 o77 p77; rw [show ((k : Int).toNat * 10) = k * 10 from rfl, hci] at p77)
      | refine mq_load1 hm (by rfl) (by rfl) (by rfl) (by first | exact gt0 | exact gt1 | exact gt2 | exact gt3 | exact gt4 | exact gt5 | exact gt6) (by rfl) ?_
      | refine iq_load1 hm (by rfl) (by rfl) (by rfl) (by assumption) (by rfl) ?_
      | refine op_move (by rfl) (by rfl) (by rfl) ?_
      | refine op_assign (by rfl) (by rfl) (by rfl) ?_
      | refine op_lss (by rfl) (by rfl) (by rfl) (by rfl) ?_
      | refine op_add (by rfl) (by rfl) (by rfl) (by rfl) (by omega) ?_
      | refine wl_nil ?_
      | refine at_then_normal ?_
      | refine at_then_ret ?_
      | refine at_block_normal ?_
      | refine at_block_ret ?_
      | refine wc_seq ?_
      | refine wc_region ?_
      | refine wc_block ?_
      | refine wc_skip ?_
      | refine wc_ret ?_
      | refine at_ret1 (by rfl) (by rfl) ?_
      | refine wc_quiet (by kernel_rfl) ?_
      | (refine wq_nil ?_; intro _ hkq; replace hm := hm.kept0 hkq; clear hkq)
      | refine wc_cond_true (by rfl) ?_
      | (refine wc_cond_dec (by rfl) (fun _ => ?_) (fun _ => ?_) <;> (try first | contradiction | (exfalso; omega)))
      | refine q_move (by rfl) (by rfl) (by rfl) ?_
      | refine q_pick_true (by rfl) (by rfl) (by rfl) (by rfl) ?_
      | refine q_pick_false (by rfl) (by rfl) (by rfl) (by rfl) ?_
      | refine q_gtr (by rfl) (by rfl) (by rfl) (by rfl) ?_
      | refine q_neq (by rfl) (by rfl) (by rfl) (by rfl) ?_
      | refine q_add (by rfl) (by rfl) (by rfl) (by rfl) (by omega) ?_
      | refine q_fieldAddr (by rfl) (by rfl) (by rfl) ?_
      | refine wq_skip (by rfl) (by rfl) (by rfl) ?_
      | (refine wq_split_dec (by rfl) (by rfl) (by rfl) (fun _ => ?_) (fun _ => ?_) <;> (try first | contradiction | (exfalso; omega))))
    all_goals try (exfalso; omega)
    all_goals first
      | exact ⟨I4, [], ⟨rfl, rfl⟩, hm.left (H := [])⟩
      | skip
    all_goals exact at_round (k + 1 : Nat) (by exact ⟨rfl, rfl, rfl, rfl, trivial⟩) ⟨hm, by omega, fun i hi => (if h : i < k then hsz i h else by obtain rfl : i = k := by omega
                                                                                                                                                  omega)⟩ (by omega)
  · obtain rfl : k = its.length := by omega
    have hmem := hmore rfl rfl hsz
    generalize Sp.usesN its = us at hU hmem hul
    generalize Sp.usesN its2 = vs at hV hmem hul2
    repeat' (first
      | (refine wc_semi_memL (id := 13) (hm.perm pm0) [0,2] [1,3] 4 (by kernel_rfl) ?_; clear hm; intro wd hR hm)
      | (refine mt_call (d := 84) hm (by rfl) (by rfl) (by rfl) (by first | exact pm0 | exact pm1_0 | exact pm1_1 | exact pm1_2 | exact pm1_3 | exact pm2_0 | exact pm2_1 | exact pm2_2 | exact pm2_3 | exact pm2_4 | exact pm3_0 | exact pm3_1 | exact pm3_2) (hU I4 _ _ _ q1) ?_; clear hm; rintro _ I5 _ _ ⟨rfl, ua, up, rfl, hru⟩ hle hm; have hleI5 := hle; try simp only [setn] at hm)
      | (refine mt_call (d := 86) hm (by rfl) (by rfl) (by rfl) (by first | exact pm0 | exact pm1_0 | exact pm1_1 | exact pm1_2 | exact pm1_3 | exact pm2_0 | exact pm2_1 | exact pm2_2 | exact pm2_3 | exact pm2_4 | exact pm3_0 | exact pm3_1 | exact pm3_2) (hV I5 _ _ _ (q2.le hleI5)) ?_; clear hm; rintro _ I6 _ _ ⟨rfl, va, vp, rfl, hrv⟩ hle hm; have hleI6 := hle; try simp only [setn] at hm)
      | refine mw_loadAll hR (by rfl) (by rfl) (by rfl) (by first | exact gt0 | exact gt1 | exact gt2 | exact gt3 | exact gt4 | exact gt5 | exact gt6) (by rfl) ?_
      | (refine ws_nil ?_; replace hm := hR.back hm; clear hR; try simp only [setn] at hm)
      | refine op_move (by rfl) (by rfl) (by rfl) ?_
      | refine op_assign (by rfl) (by rfl) (by rfl) ?_
      | refine op_lss (by rfl) (by rfl) (by rfl) (by rfl) ?_
      | refine op_len_slice (by rfl) (by rfl) (by rfl) ?_
      | refine wl_nil ?_
      | refine at_then_normal ?_
      | refine at_then_exit ?_
      | refine at_block_exit ?_
      | refine wc_seq ?_
      | refine wc_region ?_
      | refine wc_block ?_
      | refine wc_exit ?_
      | (refine wc_cond_dec (by rfl) (fun _ => ?_) (fun _ => ?_) <;> (try first | contradiction | (exfalso; omega)))
      | refine wv_nil ?_)
    all_goals try (exfalso; omega)
    refine wc_loop (fun k : Nat => [(11, .slice va vs.length vp), (87, .slice ua us.length up), (88, nt us.length), (89, nt k)])
      (fun k w' => Mem E I6 [] w' ∧ k ≤ us.length) (fun k => us.length - k) 0
      (by exact ⟨rfl, rfl, rfl, rfl, trivial⟩) ⟨hm.left (H := []), Nat.zero_le _⟩ ?_
    clear hm
    rintro k w2 ⟨hm, hk⟩
    try dsimp only at hm hk ⊢
    have hru6 := hru.le hleI6
    by_cases hlt : k < us.length
    · have hgk : us[((k : Nat) : Int).toNat]? = some us[k] := List.getElem?_eq_getElem hlt
      have hin := Sp.hasU_mem (hmem _ (List.getElem_mem hlt))
      generalize us[k] = u at hgk hin
      repeat' (first
        | (refine i_indexFlat (d := 91) (enc := encUs) (z := u) (by rfl) (by rfl) (by rfl) (by rfl) hru6 (fun _ => rfl) (by omega) (by omega) hgk ?_; intro bt ot hpt)
        | (refine m_varS (d := 13) hm (by rfl) (by rfl) (by rfl) (by rfl) (by rfl) ?_; clear hm; intro b13 _ hm)
        | refine i_loadN hm (by rfl) (by rfl) (by rfl) (by assumption) (by rfl) ?_
        | refine op_move (by rfl) (by rfl) (by rfl) ?_
        | refine op_assign (by rfl) (by rfl) (by rfl) ?_
        | refine op_lss (by rfl) (by rfl) (by rfl) (by rfl) ?_
        | refine op_len_slice (by rfl) (by rfl) (by rfl) ?_
        | refine wl_nil ?_
        | refine at_then_normal ?_
        | refine wc_seq ?_
        | refine wc_region ?_
        | refine wc_block ?_
        | refine wc_skip ?_
        | (refine wc_cond_dec (by rfl) (fun _ => ?_) (fun _ => ?_) <;> (try first | contradiction | (exfalso; omega))))
      all_goals try (exfalso; omega)
      refine wc_loop (fun j : Nat => [(11, .slice va vs.length vp), (87, .slice ua us.length up), (88, nt us.length), (89, nt k), (13, ptr b13), (14, .bool (Sp.hasU (vs.take j) u)), (93, .slice va vs.length vp), (94, nt vs.length), (95, nt j)])
        (fun j w' => Mem E I6 [.cell b13 (encUs u) 56] w' ∧ j ≤ vs.length) (fun j => vs.length - j) 0
        (by exact ⟨rfl, rfl, rfl, rfl, rfl, rfl, rfl, rfl, rfl, trivial⟩) ⟨hm, Nat.zero_le _⟩ ?_
      clear hm
      rintro j w3 ⟨hm, hj⟩
      try dsimp only at hm hj ⊢
      by_cases hjl : j < vs.length
      · have hgj : vs[((j : Nat) : Int).toNat]? = some vs[j] := List.getElem?_eq_getElem hjl
        have hsn := Sp.hasU_snoc (vs.take j) u vs[j]
        rw [← Sp.take_snoc hjl] at hsn
        have heq := eqUs u vs[j]
        generalize vs[j] = v at hgj hsn heq
        cases hb : Sp.hasU (vs.take j) u with
        | true =>
          rw [hb, Bool.true_or] at hsn
          repeat' (first
            | (refine i_indexFlat (d := 97) (enc := encUs) (z := v) (by rfl) (by rfl) (by rfl) (by rfl) hrv (fun _ => rfl) (by omega) (by omega) hgj ?_; intro bt ot hpt)
            | (refine m_varS (d := 16) hm (by rfl) (by rfl) (by rfl) (by rfl) (by rfl) ?_; clear hm; intro b16 _ hm)
            | refine i_loadN hm (by rfl) (by rfl) (by rfl) (by assumption) (by rfl) ?_
            | refine op_move (by rfl) (by rfl) (by rfl) ?_
            | refine op_assign (by rfl) (by rfl) (by rfl) ?_
            | refine op_pick_true (by rfl) (by rfl) (by rfl) (by rfl) ?_
            | refine op_lss (by rfl) (by rfl) (by rfl) (by rfl) ?_
            | refine op_add (by rfl) (by rfl) (by rfl) (by rfl) (by omega) ?_
            | refine wl_skip (by rfl) (by rfl) (by rfl) ?_
            | refine wl_nil ?_
            | refine at_then_normal ?_
            | refine at_block_normal ?_
            | refine wc_seq ?_
            | refine wc_region ?_
            | refine wc_block ?_
            | refine wc_skip ?_
            | (refine wc_cond_dec (by rfl) (fun _ => ?_) (fun _ => ?_) <;> (try first | contradiction | (exfalso; omega))))
          all_goals try (exfalso; omega)
          exact at_round (j + 1 : Nat) (by exact ⟨rfl, rfl, rfl, rfl, rfl, by rw [hsn]; rfl, rfl, rfl, rfl, trivial⟩) ⟨hm.tl, by omega⟩ (by omega)
        | false =>
          rw [hb, Bool.false_or, ← heq] at hsn
          repeat' (first
            | (refine i_indexFlat (d := 97) (enc := encUs) (z := v) (by rfl) (by rfl) (by rfl) (by rfl) hrv (fun _ => rfl) (by omega) (by omega) hgj ?_; intro bt ot hpt)
            | (refine m_varS (d := 16) hm (by rfl) (by rfl) (by rfl) (by rfl) (by rfl) ?_; clear hm; intro b16 _ hm)
            | refine m_loadAll hm (by rfl) (by rfl) (by rfl) (by first | exact gt0 | exact gt1 | exact gt2 | exact gt3 | exact gt4 | exact gt5 | exact gt6) (by rfl) ?_
            | refine i_loadN hm (by rfl) (by rfl) (by rfl) (by assumption) (by rfl) ?_
            | refine op_move (by rfl) (by rfl) (by rfl) ?_
            | refine op_assign (by rfl) (by rfl) (by rfl) ?_
            | refine op_pick_false (by rfl) (by rfl) (by rfl) (by rfl) ?_
            | refine op_lss (by rfl) (by rfl) (by rfl) (by rfl) ?_
            | refine op_eql_flat (by rfl) (by rfl) (by rfl) (by rfl) (by rfl) (by rfl) ?_
            | refine op_add (by rfl) (by rfl) (by rfl) (by rfl) (by omega) ?_
            | refine wl_nil ?_
            | refine at_then_normal ?_
            | refine at_block_normal ?_
            | refine wc_seq ?_
            | refine wc_region ?_
            | refine wc_block ?_
            | refine wc_skip ?_
            | (refine wc_cond_dec (by rfl) (fun _ => ?_) (fun _ => ?_) <;> (try first | contradiction | (exfalso; omega))))
          all_goals try (exfalso; omega)
          exact at_round (j + 1 : Nat) (by exact ⟨rfl, rfl, rfl, rfl, rfl, by rw [hsn]; rfl, rfl, rfl, rfl, trivial⟩) ⟨hm.tl, by omega⟩ (by omega)
      · obtain rfl : j = vs.length := by omega
        rw [List.take_length, hin]
        repeat' (first
          | refine op_move (by rfl) (by rfl) (by rfl) ?_
          | refine op_lss (by rfl) (by rfl) (by rfl) (by rfl) ?_
          | refine op_not (by rfl) (by rfl) (by rfl) ?_
          | refine op_add (by rfl) (by rfl) (by rfl) (by rfl) (by omega) ?_
          | refine wl_nil ?_
          | refine at_then_normal ?_
          | refine at_then_exit ?_
          | refine at_block_normal ?_
          | refine at_block_exit ?_
          | refine wc_seq ?_
          | refine wc_region ?_
          | refine wc_skip ?_
          | refine wc_exit ?_
          | refine wc_cond_false (by rfl) ?_
          | (refine wc_cond_dec (by rfl) (fun _ => ?_) (fun _ => ?_) <;> (try first | contradiction | (exfalso; omega))))
        all_goals try (exfalso; omega)
        exact at_round (k + 1 : Nat) (by exact ⟨rfl, rfl, rfl, rfl, trivial⟩) ⟨hm.left (H := []), by omega⟩ (by omega)
    · obtain rfl : k = us.length := by omega
      repeat' (first
        | refine op_assign (by rfl) (by rfl) (by rfl) ?_
        | refine op_lss (by rfl) (by rfl) (by rfl) (by rfl) ?_
        | refine wl_nil ?_
        | refine at_then_normal ?_
        | refine at_then_exit ?_
        | refine at_block_exit ?_
        | refine wc_seq ?_
        | refine wc_region ?_
        | refine wc_exit ?_
        | refine wc_ret ?_
        | refine at_ret1 (by rfl) (by rfl) ?_
        | (refine wc_cond_dec (by rfl) (fun _ => ?_) (fun _ => ?_) <;> (try first | contradiction | (exfalso; omega))))
      all_goals try (exfalso; omega)
      exact ⟨I6, [], ⟨rfl, rfl⟩, hm⟩
end Go.Proofs.YtkbiakajlfmakaaDoor
end
