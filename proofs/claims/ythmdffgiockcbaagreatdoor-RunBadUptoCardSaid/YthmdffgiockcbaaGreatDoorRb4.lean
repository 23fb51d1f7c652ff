/- Own work: texts FwSemi, one behind the other. -/
import Derived.Test.YthmdffgiockcbaaGreatDoorRb3
section
namespace Go.Fw
open Go
section
variable {P : Program} {ops : Array Oper} {md : Region.Mode} {C : World → Prop}

def vOp (P : Program) (ops : Array Oper) (i : Nat) (K : Act → World → Prop) (a : Act) (w : World) : Prop :=
  match ops[i]? with
  | none => K a w
  | some o => if Region.wanted o (yielded ops a.tmps) then (∃ u w', (execOp a.eval o).run P w = .ok (.value u) w' ∧ K (a.put o.dst u) w') ∨
      (∃ f args, (execOp a.eval o).run P w = .ok (.enter f args) w ∧ Calls P f args w (fun e w' => ∃ u, e = .returned u ∧ K (a.put o.dst u) w')) else K (a.put o.dst undef) w
theorem wpOp_of_vOp {Q : Exit → Act → World → Prop} {i : Nat} {K : Act → World → Prop} {a : Act} {w : World} (h : vOp P ops i K a w) : wpOp P ops Q i K a w := by
  unfold vOp at h
  unfold wpOp
  cases ho : ops[i]? with
  | none => simpa [ho] using h
  | some o =>
    simp only [ho] at h ⊢
    split
    · rename_i hw
      rw [if_pos hw] at h
      left
      rcases h with ⟨u, w', h1, h2⟩ | ⟨f, args, h1, h2⟩
      · unfold Oper.wp
        rw [h1, Oper.upon_value]
        exact h2
      · unfold Oper.wp
        rw [h1, Oper.upon_enter]
        exact Calls.mono h2 (fun e w' ⟨u, he, hk⟩ => by subst he; exact hk)
    · rename_i hw
      rw [if_neg hw] at h
      exact h
theorem vOp_mono {i : Nat} {K K' : Act → World → Prop} {a : Act} {w : World} (hk : ∀ a w, K a w → K' a w) (h : vOp P ops i K a w) : vOp P ops i K' a w := by
  unfold vOp at h ⊢
  cases ho : ops[i]? with
  | none => simp only [ho] at h ⊢; exact hk _ _ h
  | some o =>
    simp only [ho] at h ⊢
    split
    · rename_i hw
      rw [if_pos hw] at h
      rcases h with ⟨u, w', h1, h2⟩ | ⟨f, args, h1, h2⟩
      · exact .inl ⟨u, w', h1, hk _ _ h2⟩
      · exact .inr ⟨f, args, h1, Calls.mono h2 (fun e w' ⟨u, he, h⟩ => ⟨u, he, hk _ _ h⟩)⟩
    · rename_i hw
      rw [if_neg hw] at h
      exact hk _ _ h
def YieldsV (P : Program) (ops : Array Oper) (C : World → Prop) (o : Oper) (v : Value) (a : Act) : Prop :=
  (Region.wanted o (yielded ops a.tmps) = true ∧ ∀ w, C w → (execOp a.eval o).run P w = .ok (.value v) w) ∨
  (Region.wanted o (yielded ops a.tmps) = false ∧ v = undef)
theorem YieldsV.vOp {i : Nat} {o : Oper} {v : Value} {a : Act} {w : World} (hi : ops[i]? = some o) (hy : YieldsV P ops C o v a) (hC : C w) {K : Act → World → Prop} (h : K (a.put o.dst v) w) : vOp P ops i K a w := by
  unfold Fw.vOp
  simp only [hi]
  rcases hy with ⟨hw, hv⟩ | ⟨hw, rfl⟩
  · rw [if_pos hw]; exact .inl ⟨v, w, hv w hC, h⟩
  · rw [if_neg (by rw [hw]; simp)]; exact h
theorem vOp_put {j : Nat} {oi oj : Oper} {v : Value} (hj : ops[j]? = some oj) (hap : oi.apart ops oj = true)
    (hsi : ∀ cs b, oi.op ≠ .select cs b) (hsj : ∀ cs b, oj.op ≠ .select cs b) {K : Act → World → Prop} {a : Act} {w : World}
    (hy : YieldsV P ops C oi v a) (h : vOp P ops j K (a.put oi.dst v) w) :
    vOp P ops j (fun a' w' => YieldsV P ops C oi v a' ∧ K (a'.put oi.dst v) w') a w := by
  obtain ⟨h1, h2, h3⟩ := Oper.apart_spec hap
  have keep : ∀ (a : Act), YieldsV P ops C oi v a → ∀ u, YieldsV P ops C oi v (a.put oj.dst u) := fun a hy u => by
    unfold YieldsV at hy ⊢
    rw [execOp_put oi hsi a oj.dst u h3, wanted_put oi a oj.dst u h3]
    exact hy
  unfold vOp at *
  simp only [hj] at *
  rw [wanted_put oj a oi.dst v h1] at h
  split
  · rename_i hw
    rw [if_pos hw] at h
    rcases h with ⟨u, w', hu, hn⟩ | ⟨f, args, hu, hn⟩
    · rw [execOp_put oj hsj a oi.dst v h1] at hu
      exact .inl ⟨u, w', hu, keep a hy u, by rw [← Act.put_comm a v u h2]; exact hn⟩
    · rw [execOp_put oj hsj a oi.dst v h1] at hu
      exact .inr ⟨f, args, hu, Calls.mono hn (fun e w' ⟨u, he, h⟩ => ⟨u, he, keep a hy u, by rw [← Act.put_comm a v u h2]; exact h⟩)⟩
  · rename_i hw
    rw [if_neg hw] at h
    exact ⟨keep a hy _, by rw [← Act.put_comm a v undef h2]; exact h⟩

def anyV (P : Program) (md : Region.Mode) (ops : Array Oper) (C : World → Prop) (n : Nat) (L : Array Bool → Act → World → Prop) : Nat → Array Bool → Act → World → Prop
  | 0, listed, a, w => L listed a w
  | f + 1, listed, a, w => Region.ready md ops listed ≠ [] ∧ ∀ i ∈ Region.ready md ops listed, i < n ∧ vOp P ops i (fun a' w' => C w' ∧ anyV P md ops C n L f (listed.setIfInBounds i true) a' w') a w
theorem any_of_v {n g : Nat} {L : Array Bool → Act → World → Prop} {Q' : Exit → Act → World → Prop} (hL : ∀ listed a w, L listed a w → wpAny P md ops Q' g listed a w) :
    ∀ (f : Nat) (listed : Array Bool) (a : Act) (w : World), anyV P md ops C n L f listed a w → wpAny P md ops Q' (f + g) listed a w
  | 0, listed, a, w, h => by rw [Nat.zero_add]; exact hL _ _ _ h
  | f + 1, listed, a, w, h => by
    rw [show f + 1 + g = (f + g) + 1 by omega]
    exact ⟨fun h0 => absurd h0 h.1, fun i hi => wpOp_of_vOp (vOp_mono (fun a' w' h' => any_of_v hL f _ a' w' h'.2) (h.2 i hi).2)⟩

theorem v_first {n i : Nat} {oi : Oper} {v : Value} {L : Array Bool → Act → World → Prop} (hi : ops[i]? = some oi) (hsel : ∀ (j : Nat) (o : Oper) cs b, ops[j]? = some o → o.op ≠ .select cs b)
    (hs : Region.sinkB md ops n = true) (hc : Region.chainB md ops n = true) (hn : n < ops.size) (hin : i < n)
    (hdone : ∀ listed a w, L listed a w → ∀ j ∈ Region.ready md ops listed, n ≤ j) :
    ∀ (f : Nat) (listed : Array Bool) (a : Act) (w : World), C w → HeadInv md ops n listed →
      (∀ j oj, ops[j]? = some oj → j ≠ i → listed.getD j true = false → (∀ e ∈ oj.after, Region.binds md e = true → e.on ≠ i) → oi.apart ops oj = true) →
      i ∈ Region.ready md ops listed → YieldsV P ops C oi v a →
      anyV P md ops C n L f (listed.setIfInBounds i true) (a.put oi.dst v) w → anyV P md ops C n L (f + 1) listed a w := by
  intro f
  induction f with
  | zero =>
    intro listed a w hC inv _ hr hy H
    have hun := (mem_ready.1 hr).1
    refine ⟨fun h => (by rw [h] at hr; cases hr), fun j hj => ?_⟩
    have hjn : j < n := by
      rcases Nat.lt_or_ge j n with h | h
      · exact h
      · exact absurd hj (tail_waits hs hc hn inv _ i rfl hin hun j h)
    refine ⟨hjn, ?_⟩
    by_cases hji : j = i
    · subst hji; exact hy.vOp hi hC ⟨hC, H⟩
    · have := hdone _ _ _ H j (ready_mono hj hji)
      omega
  | succ f ih =>
    intro listed a w hC inv hfree hr hy H
    have hun := (mem_ready.1 hr).1
    refine ⟨fun h => (by rw [h] at hr; cases hr), fun j hj => ?_⟩
    have hjn : j < n := by
      rcases Nat.lt_or_ge j n with h | h
      · exact h
      · exact absurd hj (tail_waits hs hc hn inv _ i rfl hin hun j h)
    refine ⟨hjn, ?_⟩
    by_cases hji : j = i
    · subst hji; exact hy.vOp hi hC ⟨hC, H⟩
    · have h1 := (H.2 j (ready_mono hj hji)).2
      obtain ⟨hjun, oj, hoj, hall⟩ := mem_ready.1 hj
      have hnot : ∀ e ∈ oj.after, Region.binds md e = true → e.on ≠ i := fun e he hb heq => by
        have h1 := hall e he hb
        rw [heq, getD_both hun] at h1
        cases h1
      have h2 := vOp_put hoj (hfree j oj hoj hji hjun hnot) (fun cs b => hsel i oi cs b hi) (fun cs b => hsel j oj cs b hoj) hy h1
      have hfree' : ∀ k ok, ops[k]? = some ok → k ≠ i → (listed.setIfInBounds j true).getD k true = false →
          (∀ e ∈ ok.after, Region.binds md e = true → e.on ≠ i) → oi.apart ops ok = true := fun k ok hk hki hun hno => by
        refine hfree k ok hk hki ?_ hno
        by_cases hjk : j = k
        · subst hjk; exact hjun
        · rw [getD_set_ne true hjk] at hun; exact hun
      refine vOp_mono (fun a' w' h3 => ⟨h3.2.1, ih (listed.setIfInBounds j true) a' w' h3.2.1 (inv.set hj hjn) hfree' (ready_mono hr (Ne.symm hji)) h3.1 ?_⟩) h2
      rw [Array.setIfInBounds_comm _ _ hji]
      exact h3.2.2

def seqV (P : Program) (ops : Array Oper) (C : World → Prop) (K : Act → World → Prop) : List Oper → Act → World → Prop
  | [], a, w => K a w
  | o :: rest, a, w => if Region.wanted o (yielded ops a.tmps) then (∃ u w', (execOp a.eval o).run P w = .ok (.value u) w' ∧ C w' ∧ seqV P ops C K rest (a.put o.dst u) w') ∨
      (∃ f args, (execOp a.eval o).run P w = .ok (.enter f args) w ∧ Calls P f args w (fun e w' => ∃ u, e = .returned u ∧ C w' ∧ seqV P ops C K rest (a.put o.dst u) w')) else C w ∧ seqV P ops C K rest (a.put o.dst undef) w
def pureV (P : Program) (ops : Array Oper) (C : World → Prop) (K : Act → Prop) : List Oper → Act → Prop
  | [], a => K a
  | o :: rest, a => ∃ v, YieldsV P ops C o v a ∧ pureV P ops C K rest (a.put o.dst v)

theorem anyV_seq {n g : Nat} {Lq : Act → World → Prop} : ∀ (l : List Oper) (k : Nat) (listed : Array Bool) (a : Act) (w : World), (∀ j, j < l.length → l[j]? = ops[k + j]?) → k + l.length = n →
    Region.seqB md ops (l.length + g) k listed = true → seqV P ops C Lq l a w →
    anyV P md ops C n (fun listed' a' w' => Region.seqB md ops g n listed' = true ∧ Lq a' w') l.length listed a w
  | [], k, listed, a, w, _, hk, hB, h => by
    have : k = n := by simpa using hk
    subst this
    exact ⟨by simpa using hB, h⟩
  | o :: l, k, listed, a, w, hl, hk, hB, h => by
    have h0 : ops[k]? = some o := by simpa using (hl 0 (by simp)).symm
    rw [show (o :: l).length + g = (l.length + g) + 1 by simp only [List.length_cons]; omega] at hB
    simp only [Region.seqB, Bool.and_eq_true, decide_eq_true_eq] at hB
    have hkn : k < n := by simp only [List.length_cons] at hk; omega
    refine ⟨fun h1 => (by rw [hB.1] at h1; cases h1), fun i hi => ?_⟩
    rw [hB.1] at hi
    have hik : i = k := by simpa using hi
    subst hik
    refine ⟨hkn, ?_⟩
    have next : ∀ a' w', seqV P ops C Lq l a' w' → anyV P md ops C n (fun listed' a' w' => Region.seqB md ops g n listed' = true ∧ Lq a' w') l.length (listed.setIfInBounds i true) a' w' := fun a' w' h' =>
      anyV_seq l (i + 1) _ a' w' (fun j hj => by have := hl (j + 1) (by simp; omega); simpa [Nat.add_assoc, Nat.add_comm 1 j] using this) (by simp only [List.length_cons] at hk; omega) hB.2 h'
    unfold vOp
    simp only [h0]
    unfold seqV at h
    split
    · rename_i hw
      rw [if_pos hw] at h
      rcases h with ⟨u, w', h1, h2, h3⟩ | ⟨f, args, h1, h2⟩
      · exact .inl ⟨u, w', h1, h2, next _ _ h3⟩
      · exact .inr ⟨f, args, h1, Calls.mono h2 (fun e w' ⟨u, he, hc, h⟩ => ⟨u, he, hc, next _ _ h⟩)⟩
    · rename_i hw
      rw [if_neg hw] at h
      exact ⟨h.1, next _ _ h.2⟩

theorem anyV_lex {n q g : Nat} {Lq : Act → World → Prop} {lt : List Oper} (hsel : Region.noSelect ops = true) (hs : Region.sinkB md ops n = true) (hc : Region.chainB md ops n = true) (hn : n < ops.size) (hq : q + lt.length = n)
    (hlt : ∀ j, j < lt.length → lt[j]? = ops[q + j]?) :
    ∀ (l : List Oper) (k : Nat) (listed : Array Bool) (a : Act) (w : World), C w → (∀ j, j < l.length → l[j]? = ops[k + j]?) → k + l.length = q → HeadInv md ops n listed →
    Region.lexHead md ops (lt.length + g) l.length k listed = true → pureV P ops C (fun a' => seqV P ops C Lq lt a' w) l a →
    anyV P md ops C n (fun listed' a' w' => Region.seqB md ops g n listed' = true ∧ Lq a' w') (l.length + lt.length) listed a w
  | [], k, listed, a, w, _, _, hk, _, hB, h => by
    have : k = q := by simpa using hk
    subst this
    rw [List.length_nil, Nat.zero_add]
    exact anyV_seq lt k listed a w hlt hq (by simpa [Region.lexHead] using hB) h
  | o :: l, k, listed, a, w, hC, hl, hk, inv, hB, h => by
    have h0 : ops[k]? = some o := by simpa using (hl 0 (by simp)).symm
    simp only [List.length_cons, Region.lexHead, Bool.and_eq_true] at hB
    obtain ⟨⟨hr, hf⟩, hB'⟩ := hB
    have hkn : k < n := by simp only [List.length_cons] at hk; omega
    have hr' : k ∈ Region.ready md ops listed := by simpa using hr
    obtain ⟨v, hy, hK⟩ := h
    rw [show (o :: l).length + lt.length = (l.length + lt.length) + 1 by simp only [List.length_cons]; omega]
    exact v_first h0 (Region.noSelect_spec hsel) hs hc hn hkn (fun listed' a' w' hL => seqB_ready hL.1) (l.length + lt.length) listed a w hC inv (Region.free_spec h0 hf) hr' hy
      (anyV_lex hsel hs hc hn hq hlt l (k + 1) _ _ w hC (fun j hj => by have := hl (j + 1) (by simp; omega); simpa [Nat.add_assoc, Nat.add_comm 1 j] using this) (by simp only [List.length_cons] at hk; omega) (inv.set hr' hkn) hB' hK)

def semiB (ops : Array Oper) (q n : Nat) : Bool :=
  Region.noSelect ops && decide (n < ops.size) && decide (q ≤ n) && Region.sinkB .any ops n && Region.chainB .any ops n && Region.lexHead .any ops (ops.size - q) q 0 (Array.replicate ops.size false)
theorem wp_region_semi {id : Nat} {Q : Exit → Act → World → Prop} {a : Act} {w : World} {l : List Oper} (q n : Nat) (hm : P.follows .mixedOrders = true) (hB : semiB l.toArray q n = true)
    (hC : C { w with drawn := w.drawn + 1 })
    (h : pureV P l.toArray C (fun a' => seqV P l.toArray C (fun a' w' => wpList P l.toArray Q (l.drop n) a' w') ((l.drop q).take (n - q)) a' { w with drawn := w.drawn + 1 }) (l.take q) a) : (Code.region id l.toArray true).wp P Q a w := by
  simp only [semiB, Bool.and_eq_true, decide_eq_true_eq] at hB
  obtain ⟨⟨⟨⟨⟨hsel, hn⟩, hqn⟩, hs⟩, hc⟩, hlex⟩ := hB
  have hn' : n < l.length := by simpa using hn
  have hql : (l.take q).length = q := by simp; omega
  have htl : ((l.drop q).take (n - q)).length = n - q := by simp; omega
  have hdl : (l.drop n).length = l.toArray.size - n := by simp
  have inv0 : HeadInv .any l.toArray n (Array.replicate l.toArray.size false) :=
    ⟨by simp, fun j oj _ hl => (by rw [getD_replicate_false] at hl; cases hl), fun t _ ht => getD_in (by simpa using ht) (getD_replicate_false _ _)⟩
  have H := anyV_lex (md := .any) (q := q) (g := l.toArray.size - n) (lt := (l.drop q).take (n - q)) hsel hs hc hn (by rw [htl]; omega) (fun j hj => by
    rw [htl] at hj
    rw [List.getElem?_take, if_pos hj, List.getElem?_drop]; simp) (l.take q) 0 _ a _ hC (fun j hj => by
    have hj' : j < q := by rw [hql] at hj; exact hj
    simp [hj']) (by simpa using hql) inv0 (by rw [hql, htl, show n - q + (l.toArray.size - n) = l.toArray.size - q by omega]; exact hlex) h
  refine wp_region_any hm ?_
  have := any_of_v (Q' := Q) (g := l.toArray.size - n) (fun listed a' w' hL => by
    have := wpAny_of_seq (md := .any) (Q' := Q) (l.drop n) n listed a' w' (fun j => by simp [List.getElem?_drop]) (by rw [hdl]; exact hL.1) hL.2
    rwa [hdl] at this) _ _ _ _ H
  rw [hql, htl, show q + (n - q) + (l.toArray.size - n) = l.toArray.size by omega] at this
  exact this
end

section
variable {P : Program} {N : Nat} {ds : List Deferred} {X : List Nat} {K : Act → Prop} {Q : Exit → Act → World → Prop} {l l' : Log} {w w' w0 : World} {ops : Array Oper} {os os' tail : List Oper} {o : Oper}
structure WV (P : Program) (N : Nat) (ds : List Deferred) (ops : Array Oper) (X : List Nat) (w : World) (K : Act → Prop) (os : List Oper) (l : Log) : Prop where
  run : ∀ a, Fits N ds l a → pureV P ops (fun w' => Kept X w w') K os a
structure WS (P : Program) (N : Nat) (ds : List Deferred) (ops : Array Oper) (Q : Exit → Act → World → Prop) (X : List Nat) (w0 : World) (os' tail : List Oper) (l : Log) (w : World) : Prop where
  run : ∀ a, Fits N ds l a → seqV P ops (fun w' => Kept X w0 w') (fun a' w' => wpList P ops Q tail a' w') os' a w
theorem wv_value {d : Nat} {v : Value} (hd : o.dst = some d) (hw : want ops l o = some true) (hN : Nat.blt d N = true)
    (hrun : ∀ w', Kept X w w' → ∀ a, Fits N ds l a → (execOp a.eval o).run P w' = .ok (.value v) w')
    (k : WV P N ds ops X w K os ((d, v) :: l)) : WV P N ds ops X w K (o :: os) l :=
  ⟨fun a ha => ⟨v, .inl ⟨want_spec ha hw, fun w' hw' => hrun w' hw' a ha⟩, by rw [hd]; exact k.run _ (ha.put hN v)⟩⟩
theorem wv_skip {d : Nat} (hd : o.dst = some d := by rfl) (hw : want ops l o = some false := by rfl) (hN : Nat.blt d N = true := by rfl)
    (k : WV P N ds ops X w K os ((d, undef) :: l)) : WV P N ds ops X w K (o :: os) l :=
  ⟨fun a ha => ⟨undef, .inr ⟨want_spec ha hw, rfl⟩, by rw [hd]; exact k.run _ (ha.put hN _)⟩⟩
theorem wv_split {j : Nat} {b : Bool} {c : Bool} {t : Nat} (_hg : o.guard = some (j, c) := by rfl) (_ht : (ops[j]?).bind (·.dst) = some t := by rfl) (hb : lk l t = some (.bool b) := by rfl)
    (h1 : b = true → WV P N ds ops X w K (o :: os) ((t, .bool true) :: l)) (h0 : b = false → WV P N ds ops X w K (o :: os) ((t, .bool false) :: l)) :
    WV P N ds ops X w K (o :: os) l := by
  have key : ∀ c, b = c → WV P N ds ops X w K (o :: os) ((t, .bool c) :: l) → WV P N ds ops X w K (o :: os) l := fun c e h => ⟨fun a ha => by
    subst e
    refine h.run a ⟨ha.size, ha.defs, fun s v hv => ?_⟩
    simp only [lk] at hv
    cases hs : Nat.beq s t with
    | true => rw [hs] at hv; have := Nat.eq_of_beq_eq_true hs; subst this; simp at hv; subst hv; exact ha.vals _ _ hb
    | false => rw [hs] at hv; exact ha.vals _ _ (by simpa using hv)⟩
  cases hb' : b with
  | true => exact key true hb' (h1 hb')
  | false => exact key false hb' (h0 hb')
theorem wc_semi [Mixed P] {id : Nat} (q n : Nat) (X : List Nat) (hB : semiB os.toArray q n = true := by kernel_rfl)
    (h : ∀ wd, Kept [] w wd → WV P N ds os.toArray X wd (fun a' => seqV P os.toArray (fun w' => Kept X wd w') (fun a' w' => wpList P os.toArray Q (os.drop n) a' w') ((os.drop q).take (n - q)) a' wd) (os.take q) l) :
    WC P N ds (.region id os.toArray true) Q l w :=
  ⟨fun a ha => wp_region_semi (C := fun w' => Kept X { w with drawn := w.drawn + 1 } w') q n Mixed.out hB (Kept.refl _ _) ((h _ (Kept.drew w)).run a ha)⟩
theorem wv_nil (h : WS P N ds ops Q X w os' tail l w) : WV P N ds ops X w (fun a' => seqV P ops (fun w' => Kept X w w') (fun a' w' => wpList P ops Q tail a' w') os' a' w) [] l := ⟨fun a ha => h.run a ha⟩
theorem ws_nil (h : WL P N ds ops Q tail l w) : WS P N ds ops Q X w0 [] tail l w := ⟨fun a ha => h.run a ha⟩
theorem ws_value {d : Nat} {v : Value} (hd : o.dst = some d) (hw : want ops l o = some true) (hN : Nat.blt d N = true) (hrun : ∀ a, Fits N ds l a → (execOp a.eval o).run P w = .ok (.value v) w') (hC : Kept X w0 w')
    (k : WS P N ds ops Q X w0 os' tail ((d, v) :: l) w') : WS P N ds ops Q X w0 (o :: os') tail l w :=
  ⟨fun a ha => by
    unfold seqV
    rw [want_spec ha hw]
    exact .inl ⟨v, w', hrun a ha, hC, by rw [hd]; exact k.run _ (ha.put hN v)⟩⟩
theorem ws_enter {d : Nat} {f : FuncId} {args : Array Value} {Post : Value → World → Prop} (hd : o.dst = some d) (hw : want ops l o = some true) (hN : Nat.blt d N = true)
    (hrun : ∀ a, Fits N ds l a → (execOp a.eval o).run P w = .ok (.enter f args) w) (hc : Cal P f args w Post)
    (k : ∀ v w', Post v w' → Kept X w0 w' ∧ WS P N ds ops Q X w0 os' tail ((d, v) :: l) w') : WS P N ds ops Q X w0 (o :: os') tail l w :=
  ⟨fun a ha => by
    unfold seqV
    rw [want_spec ha hw]
    refine .inr ⟨f, args, hrun a ha, Calls.mono hc.run (fun e w' q => ?_)⟩
    cases e with
    | returned v => exact ⟨v, rfl, (k v w' q).1, by rw [hd]; exact (k v w' q).2.run _ (ha.put hN v)⟩
    | panicked c => exact q.elim
    | outgrown => exact q.elim⟩
variable {d : Nat} {ty : TypeId} {pos : String} {af : Array Edge} {g : Option (Nat × Bool)} {t t' : TypeId} {x y : Operand}
end
end Go.Fw
end
