/- Own work: texts FwFork, LexE, TokM, ExM, SpecSmall, one behind the other. -/
import Derived.Test.YtjfkjpbkmpofkaaIt10
section
namespace Go.Fw
open Go
section
variable {P : Program} {ops : Array Oper} {md : Region.Mode} {C : World → Prop}
/-- operation 'i' yields a value, or nothing. -/
def uOp (P : Program) (ops : Array Oper) (i : Nat) (K : Act → World → Prop) (a : Act) (w : World) : Prop :=
  match ops[i]? with
  | none => K a w
  | some o => if Region.wanted o (yielded ops a.tmps) then (∃ u w', (execOp a.eval o).run P w = .ok (.value u) w' ∧ K (a.put o.dst u) w') ∨
      (∃ f args, (execOp a.eval o).run P w = .ok (.enter f args) w ∧ Calls P f args w (fun e w' => ∃ u, e = .returned u ∧ K (a.put o.dst u) w')) ∨
      (∃ w', (execOp a.eval o).run P w = .ok .skip w' ∧ K (a.put o.dst undef) w') else K (a.put o.dst undef) w
theorem wpOp_of_uOp {Q : Exit → Act → World → Prop} {i : Nat} {K : Act → World → Prop} {a : Act} {w : World} (h : uOp P ops i K a w) : wpOp P ops Q i K a w := by
  unfold uOp at h
  unfold wpOp
  cases ho : ops[i]? with
  | none => simpa [ho] using h
  | some o =>
    simp only [ho] at h ⊢
    split
    · rename_i hw
      rw [if_pos hw] at h
      left
      rcases h with ⟨u, w', h1, h2⟩ | ⟨f, args, h1, h2⟩ | ⟨w', h1, h2⟩
      · unfold Oper.wp
        rw [h1, Oper.upon_value]
        exact h2
      · unfold Oper.wp
        rw [h1, Oper.upon_enter]
        exact Calls.mono h2 (fun e w' ⟨u, he, hk⟩ => by subst he; exact hk)
      · unfold Oper.wp
        rw [h1, Oper.upon_skip]
        exact h2
    · rename_i hw
      rw [if_neg hw] at h
      exact h
theorem uOp_mono {i : Nat} {K K' : Act → World → Prop} {a : Act} {w : World} (hk : ∀ a w, K a w → K' a w) (h : uOp P ops i K a w) : uOp P ops i K' a w := by
  unfold uOp at h ⊢
  cases ho : ops[i]? with
  | none => simp only [ho] at h ⊢; exact hk _ _ h
  | some o =>
    simp only [ho] at h ⊢
    split
    · rename_i hw
      rw [if_pos hw] at h
      rcases h with ⟨u, w', h1, h2⟩ | ⟨f, args, h1, h2⟩ | ⟨w', h1, h2⟩
      · exact .inl ⟨u, w', h1, hk _ _ h2⟩
      · exact .inr (.inl ⟨f, args, h1, Calls.mono h2 (fun e w' ⟨u, he, h⟩ => ⟨u, he, hk _ _ h⟩)⟩)
      · exact .inr (.inr ⟨w', h1, hk _ _ h2⟩)
    · rename_i hw
      rw [if_neg hw] at h
      exact hk _ _ h
theorem YieldsV.uOp {i : Nat} {o : Oper} {v : Value} {a : Act} {w : World} (hi : ops[i]? = some o) (hy : YieldsV P ops C o v a) (hC : C w) {K : Act → World → Prop} (h : K (a.put o.dst v) w) : uOp P ops i K a w := by
  unfold Fw.uOp
  simp only [hi]
  rcases hy with ⟨hw, hv⟩ | ⟨hw, rfl⟩
  · rw [if_pos hw]; exact .inl ⟨v, w, hv w hC, h⟩
  · rw [if_neg (by rw [hw]; simp)]; exact h
theorem uOp_put {j : Nat} {oi oj : Oper} {v : Value} (hj : ops[j]? = some oj) (hap : oi.apart ops oj = true)
    (hsi : ∀ cs b, oi.op ≠ .select cs b) (hsj : ∀ cs b, oj.op ≠ .select cs b) {K : Act → World → Prop} {a : Act} {w : World}
    (hy : YieldsV P ops C oi v a) (h : uOp P ops j K (a.put oi.dst v) w) :
    uOp P ops j (fun a' w' => YieldsV P ops C oi v a' ∧ K (a'.put oi.dst v) w') a w := by
  obtain ⟨h1, h2, h3⟩ := Oper.apart_spec hap
  have keep : ∀ (a : Act), YieldsV P ops C oi v a → ∀ u, YieldsV P ops C oi v (a.put oj.dst u) := fun a hy u => by
    unfold YieldsV at hy ⊢
    rw [execOp_put oi hsi a oj.dst u h3, wanted_put oi a oj.dst u h3]
    exact hy
  unfold uOp at *
  simp only [hj] at *
  rw [wanted_put oj a oi.dst v h1] at h
  split
  · rename_i hw
    rw [if_pos hw] at h
    rcases h with ⟨u, w', hu, hn⟩ | ⟨f, args, hu, hn⟩ | ⟨w', hu, hn⟩
    · rw [execOp_put oj hsj a oi.dst v h1] at hu
      exact .inl ⟨u, w', hu, keep a hy u, by rw [← Act.put_comm a v u h2]; exact hn⟩
    · rw [execOp_put oj hsj a oi.dst v h1] at hu
      exact .inr (.inl ⟨f, args, hu, Calls.mono hn (fun e w' ⟨u, he, h⟩ => ⟨u, he, keep a hy u, by rw [← Act.put_comm a v u h2]; exact h⟩)⟩)
    · rw [execOp_put oj hsj a oi.dst v h1] at hu
      exact .inr (.inr ⟨w', hu, keep a hy _, by rw [← Act.put_comm a v undef h2]; exact hn⟩)
  · rename_i hw
    rw [if_neg hw] at h
    exact ⟨keep a hy _, by rw [← Act.put_comm a v undef h2]; exact h⟩
/-- the first 'n', in any order; the class is kept. -/
def anyU (P : Program) (md : Region.Mode) (ops : Array Oper) (C : World → Prop) (n : Nat) (L : Array Bool → Act → World → Prop) : Nat → Array Bool → Act → World → Prop
  | 0, listed, a, w => L listed a w
  | f + 1, listed, a, w => Region.ready md ops listed ≠ [] ∧ ∀ i ∈ Region.ready md ops listed, i < n ∧ uOp P ops i (fun a' w' => C w' ∧ anyU P md ops C n L f (listed.setIfInBounds i true) a' w') a w
theorem any_of_u {n g : Nat} {L : Array Bool → Act → World → Prop} {Q' : Exit → Act → World → Prop} (hL : ∀ listed a w, L listed a w → wpAny P md ops Q' g listed a w) :
    ∀ (f : Nat) (listed : Array Bool) (a : Act) (w : World), anyU P md ops C n L f listed a w → wpAny P md ops Q' (f + g) listed a w
  | 0, listed, a, w, h => by rw [Nat.zero_add]; exact hL _ _ _ h
  | f + 1, listed, a, w, h => by
    rw [show f + 1 + g = (f + g) + 1 by omega]
    exact ⟨fun h0 => absurd h0 h.1, fun i hi => wpOp_of_uOp (uOp_mono (fun a' w' h' => any_of_u hL f _ a' w' h'.2) (h.2 i hi).2)⟩
theorem u_first {n i : Nat} {oi : Oper} {v : Value} {L : Array Bool → Act → World → Prop} (hi : ops[i]? = some oi) (hsel : ∀ (j : Nat) (o : Oper) cs b, ops[j]? = some o → o.op ≠ .select cs b)
    (hs : Region.sinkB md ops n = true) (hc : Region.chainB md ops n = true) (hn : n < ops.size) (hin : i < n)
    (hdone : ∀ listed a w, L listed a w → ∀ j ∈ Region.ready md ops listed, n ≤ j) :
    ∀ (f : Nat) (listed : Array Bool) (a : Act) (w : World), C w → HeadInv md ops n listed →
      (∀ j oj, ops[j]? = some oj → j ≠ i → listed.getD j true = false → (∀ e ∈ oj.after, Region.binds md e = true → e.on ≠ i) → oi.apart ops oj = true) →
      i ∈ Region.ready md ops listed → YieldsV P ops C oi v a →
      anyU P md ops C n L f (listed.setIfInBounds i true) (a.put oi.dst v) w → anyU P md ops C n L (f + 1) listed a w := by
  intro f
  induction f with
  | zero =>
    intro listed a w hC inv _ hr hy H
    have hun := (mem_ready.1 hr).1
    refine ⟨fun h => (by rw [h] at hr; cases hr), fun j hj => ?_⟩
    have hjn : j < n := by
      rcases Nat.lt_or_ge j n with h | h
      · exact h
      · exact absurd hj (tail_waits hs hc hn inv _ i rfl hin hun j h)
    refine ⟨hjn, ?_⟩
    by_cases hji : j = i
    · subst hji; exact hy.uOp hi hC ⟨hC, H⟩
    · have := hdone _ _ _ H j (ready_mono hj hji)
      omega
  | succ f ih =>
    intro listed a w hC inv hfree hr hy H
    have hun := (mem_ready.1 hr).1
    refine ⟨fun h => (by rw [h] at hr; cases hr), fun j hj => ?_⟩
    have hjn : j < n := by
      rcases Nat.lt_or_ge j n with h | h
      · exact h
      · exact absurd hj (tail_waits hs hc hn inv _ i rfl hin hun j h)
    refine ⟨hjn, ?_⟩
    by_cases hji : j = i
    · subst hji; exact hy.uOp hi hC ⟨hC, H⟩
    · have h1 := (H.2 j (ready_mono hj hji)).2
      obtain ⟨hjun, oj, hoj, hall⟩ := mem_ready.1 hj
      have hnot : ∀ e ∈ oj.after, Region.binds md e = true → e.on ≠ i := fun e he hb heq => by
        have h1 := hall e he hb
        rw [heq, getD_both hun] at h1
        cases h1
      have h2 := uOp_put hoj (hfree j oj hoj hji hjun hnot) (fun cs b => hsel i oi cs b hi) (fun cs b => hsel j oj cs b hoj) hy h1
      have hfree' : ∀ k ok, ops[k]? = some ok → k ≠ i → (listed.setIfInBounds j true).getD k true = false →
          (∀ e ∈ ok.after, Region.binds md e = true → e.on ≠ i) → oi.apart ops ok = true := fun k ok hk hki hun hno => by
        refine hfree k ok hk hki ?_ hno
        by_cases hjk : j = k
        · subst hjk; exact hjun
        · rw [getD_set_ne true hjk] at hun; exact hun
      refine uOp_mono (fun a' w' h3 => ⟨h3.2.1, ih (listed.setIfInBounds j true) a' w' h3.2.1 (inv.set hj hjn) hfree' (ready_mono hr (Ne.symm hji)) h3.1 ?_⟩) h2
      rw [Array.setIfInBounds_comm _ _ hji]
      exact h3.2.2

/-- the check of those that come first: each may, and none bears on it. -/
def lexQB (md : Region.Mode) (ops : Array Oper) (n : Nat) : List Nat → Array Bool → Bool
  | [], _ => true
  | k :: ks, listed => (Region.ready md ops listed).contains k && Region.free md ops listed k && decide (k < n) && lexQB md ops n ks (listed.setIfInBounds k true)
def listK : List Nat → Array Bool → Array Bool
  | [], l => l
  | k :: ks, l => listK ks (l.setIfInBounds k true)
theorem anyU_quiet {n g f : Nat} {Lq : Act → World → Prop} (hsel : Region.noSelect ops = true) (hs : Region.sinkB md ops n = true) (hc : Region.chainB md ops n = true) (hn : n < ops.size) :
    ∀ (ks : List Nat) (l : List Oper) (listed : Array Bool) (a : Act) (w : World), C w → ks.map (ops[·]?) = l.map some → HeadInv md ops n listed → lexQB md ops n ks listed = true →
    pureV P ops C (fun a' => anyU P md ops C n (fun listed' a' w' => Region.seqB md ops g n listed' = true ∧ Lq a' w') f (listK ks listed) a' w) l a →
    anyU P md ops C n (fun listed' a' w' => Region.seqB md ops g n listed' = true ∧ Lq a' w') (l.length + f) listed a w
  | [], [], listed, a, w, _, _, _, _, h => by rw [List.length_nil, Nat.zero_add]; exact h
  | k :: ks, o :: l, listed, a, w, hC, hl, inv, hB, h => by
    simp only [List.map_cons, List.cons.injEq] at hl
    obtain ⟨h0, hl'⟩ := hl
    simp only [lexQB, Bool.and_eq_true, decide_eq_true_eq] at hB
    obtain ⟨⟨⟨hr, hf⟩, hkn⟩, hB'⟩ := hB
    have hr' : k ∈ Region.ready md ops listed := by simpa using hr
    obtain ⟨v, hy, hK⟩ := h
    rw [show (o :: l).length + f = (l.length + f) + 1 by simp only [List.length_cons]; omega]
    exact u_first h0 (Region.noSelect_spec hsel) hs hc hn hkn (fun listed' a' w' hL => seqB_ready hL.1) (l.length + f) listed a w hC inv (Region.free_spec h0 hf) hr' hy
      (anyU_quiet hsel hs hc hn ks l _ _ w hC hl' (inv.set hr' hkn) hB' hK)
  | [], _ :: _, _, _, _, _, hl, _, _, _ => by simp at hl
  | _ :: _, [], _, _, _, _, hl, _, _, _ => by simp at hl
def forkOk (ops : Array Oper) (ks : List Nat) (n : Nat) : Bool :=
  Region.noSelect ops && decide (n < ops.size) && Region.sinkB .any ops n && Region.chainB .any ops n && lexQB .any ops n ks (Array.replicate ops.size false) && decide (ks.length ≤ n) && ks.all (fun k => Nat.blt k ops.size)
theorem wp_region_fork {id : Nat} {Q : Exit → Act → World → Prop} {a : Act} {w : World} {l : List Oper} (ks : List Nat) (n : Nat) (hm : P.follows .mixedOrders = true) (hB : forkOk l.toArray ks n = true)
    (hC : C { w with drawn := w.drawn + 1 })
    (h : pureV P l.toArray C (fun a' => anyU P .any l.toArray C n (fun listed' a' w' => Region.seqB .any l.toArray (l.length - n) n listed' = true ∧ wpList P l.toArray Q (l.drop n) a' w') (n - ks.length) (listK ks (Array.replicate l.length false)) a' { w with drawn := w.drawn + 1 }) (pickL l ks) a) :
    (Code.region id l.toArray true).wp P Q a w := by
  simp only [forkOk, Bool.and_eq_true, decide_eq_true_eq] at hB
  obtain ⟨⟨⟨⟨⟨⟨hsel, hn⟩, hs⟩, hc⟩, hlex⟩, hlen⟩, hks⟩ := hB
  have hn' : n < l.length := by simpa using hn
  have hdl : (l.drop n).length = l.length - n := by simp
  obtain ⟨k1, k2⟩ := pickL_map l ks (by simpa using hks)
  have inv0 : HeadInv .any l.toArray n (Array.replicate l.length false) :=
    ⟨by simp, fun j oj _ hl => (by rw [getD_replicate_false] at hl; cases hl), fun t _ ht => getD_in (by simpa using ht) (getD_replicate_false _ _)⟩
  have H := anyU_quiet (md := .any) (g := l.length - n) (f := n - ks.length) hsel hs hc hn ks (pickL l ks) _ a _ hC k1 inv0 (by simpa using hlex) h
  refine wp_region_any hm ?_
  have := any_of_u (Q' := Q) (g := l.length - n) (fun listed a' w' hL => by
    have := wpAny_of_seq (md := .any) (Q' := Q) (l.drop n) n listed a' w' (fun j => by simp [List.getElem?_drop]) (by rw [hdl]; exact hL.1) hL.2
    rwa [hdl] at this) _ _ _ _ H
  rw [k2, show ks.length + (n - ks.length) + (l.length - n) = l.length by omega] at this
  simpa using this
end
section
variable {P : Program} {N : Nat} {ds : List Deferred} {X : List Nat} {Q : Exit → Act → World → Prop} {l : Log} {w w' w0 : World} {os tail : List Oper} {ops : Array Oper} {E : Ent} {I : Imm} {G R H : List HItem} {o : Oper}
/-- what is still to come, in any order. -/
structure WA (P : Program) (N : Nat) (ds : List Deferred) (ops : Array Oper) (Q : Exit → Act → World → Prop) (X : List Nat) (w0 : World) (n f : Nat) (listed : Array Bool) (tail : List Oper) (l : Log) (w : World) : Prop where
  run : ∀ a, Fits N ds l a → anyU P .any ops (fun w' => Kept X w0 w') n (fun listed' a' w' => Region.seqB .any ops (ops.size - n) n listed' = true ∧ wpList P ops Q tail a' w') f listed a w
/-- one operation, now. -/
structure WU (P : Program) (N : Nat) (ds : List Deferred) (ops : Array Oper) (Q : Exit → Act → World → Prop) (X : List Nat) (w0 : World) (n f : Nat) (listed : Array Bool) (tail : List Oper) (o : Oper) (l : Log) (w : World) : Prop where
  run : ∀ a, Fits N ds l a → ∀ i, ops[i]? = some o → uOp P ops i (fun a' w' => Kept X w0 w' ∧ anyU P .any ops (fun w' => Kept X w0 w') n (fun listed' a' w' => Region.seqB .any ops (ops.size - n) n listed' = true ∧ wpList P ops Q tail a' w') f listed a' w') a w
theorem wc_fork_mem [Mixed P] {id : Nat} (hm : Mem E I (G ++ R) w) (ks : List Nat) (n : Nat) (hB : forkOk os.toArray ks n = true := by kernel_rfl)
    (h : ∀ wd, Mem E I (G ++ R) wd → Mem ⟨wd, blks G, I⟩ I G wd → WV P N ds os.toArray (blks G) wd (fun a' => anyU P .any os.toArray (fun w' => Kept (blks G) wd w') n (fun listed' a' w' => Region.seqB .any os.toArray (os.toArray.size - n) n listed' = true ∧ wpList P os.toArray Q (os.drop n) a' w') (n - ks.length) (listK ks (Array.replicate os.length false)) a' wd) (pickL os ks) l) :
    WC P N ds (.region id os.toArray true) Q l w :=
  ⟨fun a ha => wp_region_fork (C := fun w' => Kept (blks G) { w with drawn := w.drawn + 1 } w') ks n Mixed.out hB (Kept.refl _ _) ((h _ (hm.kept0 (Kept.drew w)) (hm.kept0 (Kept.drew w)).sub).run a ha)⟩
theorem wv_nilA {n f : Nat} {listed : Array Bool} (h : WA P N ds ops Q X w n f listed tail l w) :
    WV P N ds ops X w (fun a' => anyU P .any ops (fun w' => Kept X w w') n (fun listed' a' w' => Region.seqB .any ops (ops.size - n) n listed' = true ∧ wpList P ops Q tail a' w') f listed a' w) [] l := ⟨fun a ha => h.run a ha⟩
theorem wa_nil {n : Nat} {listed : Array Bool} (hs : Region.seqB .any ops (ops.size - n) n listed = true) (h : WL P N ds ops Q tail l w) : WA P N ds ops Q X w0 n 0 listed tail l w := ⟨fun a ha => ⟨hs, h.run a ha⟩⟩
theorem wa_one {n f i : Nat} {listed : Array Bool} (hr : Region.ready .any ops listed = [i]) (hi : ops[i]? = some o := by rfl) (hn : Nat.blt i n = true := by rfl)
    (h : WU P N ds ops Q X w0 n f (listed.setIfInBounds i true) tail o l w) : WA P N ds ops Q X w0 n (f + 1) listed tail l w :=
  ⟨fun a ha => ⟨by rw [hr]; simp, fun j hj => by
    rw [hr] at hj
    obtain rfl : j = i := by simpa using hj
    exact ⟨by simpa [Nat.blt_eq] using hn, h.run a ha j hi⟩⟩⟩
theorem wa_two {n f i j : Nat} {o2 : Oper} {listed : Array Bool} (hr : Region.ready .any ops listed = [i, j]) (hi : ops[i]? = some o := by rfl) (hj : ops[j]? = some o2 := by rfl) (hn : Nat.blt i n = true := by rfl) (hn2 : Nat.blt j n = true := by rfl)
    (h : WU P N ds ops Q X w0 n f (listed.setIfInBounds i true) tail o l w) (h2 : WU P N ds ops Q X w0 n f (listed.setIfInBounds j true) tail o2 l w) : WA P N ds ops Q X w0 n (f + 1) listed tail l w :=
  ⟨fun a ha => ⟨by rw [hr]; simp, fun k hk => by
    rw [hr] at hk
    rcases List.mem_cons.1 hk with rfl | hk
    · exact ⟨by simpa [Nat.blt_eq] using hn, h.run a ha _ hi⟩
    · obtain rfl : k = j := by simpa using hk
      exact ⟨by simpa [Nat.blt_eq] using hn2, h2.run a ha _ hj⟩⟩⟩
variable {d : Nat} {ty : TypeId} {pos : String} {af : Array Edge} {g : Option (Nat × Bool)} {t t' : TypeId} {x y z : Operand} {n f : Nat} {listed : Array Bool}
theorem wu_value {d : Nat} {v : Value} (hd : o.dst = some d) (hw : want ops l o = some true) (hN : Nat.blt d N = true) (hrun : ∀ a, Fits N ds l a → (execOp a.eval o).run P w = .ok (.value v) w') (hC : Kept X w0 w')
    (k : WA P N ds ops Q X w0 n f listed tail ((d, v) :: l) w') : WU P N ds ops Q X w0 n f listed tail o l w :=
  ⟨fun a ha i hi => by
    unfold uOp
    simp only [hi]
    rw [want_spec ha hw]
    exact .inl ⟨v, w', hrun a ha, hC, by rw [hd]; exact k.run _ (ha.put hN v)⟩⟩
theorem wu_skip (hd : o.dst = none) (hw : want ops l o = some true) (hrun : ∀ a, Fits N ds l a → (execOp a.eval o).run P w = .ok .skip w') (hC : Kept X w0 w')
    (k : WA P N ds ops Q X w0 n f listed tail l w') : WU P N ds ops Q X w0 n f listed tail o l w :=
  ⟨fun a ha i hi => by
    unfold uOp
    simp only [hi]
    rw [want_spec ha hw]
    exact .inr (.inr ⟨w', hrun a ha, hC, by rw [hd]; exact k.run _ ha⟩)⟩
theorem mu_allocS {pl : List (Nat × Nat)} {z : List Value} [hS : StructT P t pl z] {n' by_ : Nat} [Elem P t n' by_] {I0 : Imm} (hm : Mem ⟨w0, X, I0⟩ I H w) (hw : want ops l ⟨some d, .alloc t, ty, pos, af, g⟩ = some true := by rfl) (hN : Nat.blt d N = true := by rfl)
    (k : ∀ b w', Mem ⟨w0, X, I0⟩ I (.obj b (.cells z.toArray t (0, 0)) :: H) w' → WA P N ds ops Q X w0 n f listed tail ((d, .pointer (some ⟨b, 0, none⟩)) :: l) w') :
    WU P N ds ops Q X w0 n f listed tail ⟨some d, .alloc t, ty, pos, af, g⟩ l w := by
  obtain ⟨_, _, _, hz⟩ := hS.out
  cases hi : P.info? t with
  | none => simp [hi] at hz
  | some i =>
    simp only [hi, Option.bind_some] at hz
    have hk := Kept.alloc w (.cells z.toArray t (0, 0))
    have hm' := hm.add (x := .obj w.heap.size (.cells z.toArray t (0, 0))) hk (heap_alloc_new w _) (fun b hb => by simp only [HItem.blk, Option.some.injEq] at hb; omega)
    refine wu_value (w' := w.alloc (.cells z.toArray t (0, 0))) (v := .pointer (some ⟨w.heap.size, 0, none⟩)) rfl hw hN (fun a ha => ?_) hm'.kept (k _ _ hm')
    simp [execOp, Instr.alloc, newVar, newRow, newObj, zeroValue, typeInfo, hi, hz, Value.cells]; rfl
/-- a walk holds here. -/
structure WHold (p : Prop) : Prop where
  out : p
theorem wc_hold (id : Nat) {dr : Bool} (h : WHold (WC P N ds (.region id ops dr) Q l w)) : WC P N ds (.region id ops dr) Q l w := h.out
/-- such a region, cut at its end: the ways through it meet. -/
theorem wc_midF {α : Type} (id : Nat) (L : α → Log) (J : α → World → Prop)
    (h : WC P N ds (.region id os.toArray true) (Exit.then (fun a w => ∃ x, Fits N ds (L x) a ∧ J x w) Q) l w) (k : ∀ x w, J x w → At N ds Q .normal (L x) w) : WC P N ds (.region id os.toArray true) Q l w :=
  ⟨fun a ha => wp_mono (h.run a ha) (fun e a w q => by
    cases e <;> first | exact q | (obtain ⟨x, hx, hj⟩ := q; exact (k x w hj).run a hx))⟩
theorem iw_indexAddr {e : TypeId} {sz by_ : Nat} {KV : Act → Prop} [TySlice P t e] [Elem P e sz by_] {a : Option Addr} {m cp : Nat} {i : Int} {xs : List Value} (hw : want ops l ⟨some d, .indexAddr t x y, ty, pos, af, g⟩ = some true := by rfl) (hN : Nat.blt d N = true := by rfl)
    (hx : ev l x = some (.slice a m cp) := by rfl) (hy : ev l y = some (.int .i64 i) := by rfl) (hr : RowI I e sz (.slice a m cp) m xs) (h0 : 0 ≤ i := by omega) (h1 : i < m := by omega)
    (k : ∀ b off, PtrI I b off e ((xs.drop (i.toNat * sz)).take sz) → WV P N ds ops X w KV os ((d, .pointer (some ⟨b, off, none⟩)) :: l)) :
    WV P N ds ops X w KV (⟨some d, .indexAddr t x y, ty, pos, af, g⟩ :: os) l := by
  obtain ⟨b, off, rfl, hp⟩ := hr.at_ i.toNat (by omega)
  exact v_indexAddr hw hN hx hy h0 h1 (k b _ hp)
theorem mu_storeAll {i b n' by_ : Nat} [Elem P t n' by_] {c vs : List Value} {e : TypeId} {dst : Option Nat} {I0 : Imm} (hm : Mem ⟨w0, X, I0⟩ I H w) (hd : dst = none := by rfl) (hw : want ops l ⟨dst, .store t x y, ty, pos, af, g⟩ = some true := by rfl)
    (hx : ev l x = some (.pointer (some ⟨b, 0, none⟩)) := by rfl) (hy : ev l y = some (.agg vs.toArray) := by rfl) (hb : H[i]? = some (.obj b (.cells c.toArray e (0, 0))) := by first | exact gt0 | exact gt1 | exact gt2 | exact gt3 | exact gt4 | exact gt5 | exact gt6) (hn : vs.length = n' := by rfl) (ho : c.length = n' := by rfl)
    (h1 : vs.all (·.oneCell') = true := by rfl)
    (k : ∀ w', Mem ⟨w0, X, I0⟩ I (H.set i (.obj b (.cells vs.toArray e (0, 0)))) w' → WA P N ds ops Q X w0 n f listed tail l w') :
    WU P N ds ops Q X w0 n f listed tail ⟨dst, .store t x y, ty, pos, af, g⟩ l w := by
  subst hd
  have hget := hm.get hb
  have h2 := run_storeVar (P := P) (t := t) (off := 0) (.agg vs.toArray) hget (by simpa [Value.cells] using hn) (by simp [ho]) (by simpa [Value.cells] using h1)
  generalize hc' : (c.toArray.toList.take 0 ++ (Value.agg vs.toArray).cells.toList ++ c.toArray.toList.drop (0 + n')).toArray = c' at h2
  have e0 : c' = vs.toArray := by
    rw [← hc', Nat.zero_add, ← ho]
    simp [Value.cells]
  rw [e0] at h2
  have hk : Kept [b] w (w.setRow b vs.toArray) := Kept.setRow hget _
  have hm' := hm.turn (h' := .obj b (.cells vs.toArray e (0, 0))) hb (by simpa [HItem.blk] using hk) (by
    show (w.setRow b vs.toArray).heap[b]? = _
    rw [setRow_heap w b c.toArray _ e (0, 0) hget]) (.inl rfl)
  refine wu_skip rfl hw (fun a ha => ?_) hm'.kept (k _ hm')
  simp only [execOp, Instr.storeAt, Instr.sureAddr, ha.ev hx, ha.ev hy, Sem.run_bind, Sem.run_pure, Result.andThen, h2]
end
theorem wc_cut_regN {P : Program} {N : Nat} {ds : List Deferred} {Q : Exit → Act → World → Prop} {l : Log} {w : World} (id : Nat) {ops : Array Oper} {dr : Bool} {x y : Code} {α : Type} (L : α → Log) (J : α → World → Prop)
    (h : WHold (WC P N ds (.seq (.region id ops dr) x) (Exit.then (fun a w => ∃ x, Fits N ds (L x) a ∧ J x w) Q) l w))
    (k : ∀ x w, J x w → WC P N ds y Q (L x) w) : WC P N ds (.seq (.seq (.region id ops dr) x) y) Q l w := wc_cut_reg id L J h.out k
end Go.Fw
end
section
namespace Go.Proofs.Ytjfkjpbkmpofkaa
open Go.Fw
theorem toNat_inj {a b : UInt8} (h : (a.toNat : Int) = b.toNat) : a = b := UInt8.toNat_inj.1 (by omega)
/-- a token's cells. -/
def encTok (t : Sp.Tok) : List Value := [.int .i64 (t.kind : Int), str t.text, .int .i64 (t.pos : Int)]
theorem encTok_len (l : List Sp.Tok) : (l.flatMap encTok).length = l.length * 3 := by
  induction l with
  | nil => rfl
  | cons t l ih => simp only [List.flatMap_cons, List.length_append, ih, List.length_cons, encTok]; simp; omega

theorem word_no {s : List UInt8} {k : Nat} (h : k < s.length) (hf : Sp.isWord (s.getD k 0) = false) : Sp.word s = false := by
  have : s.all Sp.isWord = false := by
    rw [Bool.eq_false_iff]; intro h1
    have := (Sp.all_iff _ _).1 h1 k h
    rw [hf] at this; cases this
  simp [Sp.word, this]
/-- a cell of an owned row is set. -/
theorem own_set {w w' : World} {base e sz n g off cap : Nat} {xs : List Value} {cur : Array Value} {u : Value} (h : w.ownsRow base e sz (.slice (some ⟨g, 0, none⟩) n cap) n xs)
    (hg : w.heap[g]? = some (.cells cur e (0, 0))) (hb : w'.heap[g]? = some (.cells (cur.toList.take off ++ [u] ++ cur.toList.drop (off + 1)).toArray e (0, 0))) (ho : off < n * sz) :
    w'.ownsRow base e sz (.slice (some ⟨g, 0, none⟩) n cap) n (xs.set off u) := by
  rcases h.2 with ⟨h1, _⟩ | ⟨g', cap', cur', hv, hbg, hg', hc, hm, hs, ht⟩
  · cases h1
  · injection hv with e1 e2 e3
    injection e1 with e1
    injection e1 with e1
    subst e1
    subst e3
    rw [hg] at hg'
    injection hg' with hg'
    injection hg' with e4
    subst e4
    have hle : n * sz ≤ cur.size := by rw [hs]; exact Nat.mul_le_mul_right _ hc
    refine ⟨by rw [List.length_set]; exact h.1, .inr ⟨g, cap, _, rfl, hbg, hb, hc, hm, ?_, ?_⟩⟩
    · simp only [List.size_toArray, List.length_append, List.length_take, List.length_drop, Array.length_toList, List.length_cons, List.length_nil]; omega
    · rw [← ht]
      apply List.ext_getElem?
      intro j
      simp only [List.getElem?_take, List.getElem?_set, List.length_take, Array.length_toList]
      by_cases h2 : j < n * sz
      · rw [if_pos h2, if_pos h2]
        by_cases h3 : off = j
        · subst h3
          rw [if_pos rfl, if_pos (by omega), List.append_assoc, List.getElem?_append_right (by simp; omega)]
          simp [show min off cur.size = off by omega]
        · rw [if_neg h3]
          by_cases h4 : j < off
          · rw [List.append_assoc, List.getElem?_append_left (by simp; omega)]
            simp [h4]
          · rw [List.getElem?_append_right (by simp; omega)]
            simp only [List.length_append, List.length_take, Array.length_toList, List.length_cons, List.length_nil, List.getElem?_drop]
            congr 1; omega
      · rw [if_neg h2]
        rw [if_neg (by omega)]
        simp [h2]

theorem enc_addLast (l : List Sp.Tok) (t : Sp.Tok) (c : UInt8) : ((l ++ [t]).flatMap encTok).set (l.length * 3 + 1) (str (t.text ++ [c])) = (Sp.addLast (l ++ [t]) c).flatMap encTok := by
  have e : Sp.addLast (l ++ [t]) c = l ++ [⟨t.kind, t.text ++ [c], t.pos⟩] := by simp [Sp.addLast]
  rw [e, List.flatMap_append, List.flatMap_append, List.set_append_right _ _ (by rw [encTok_len]; omega), encTok_len]
  rw [show l.length * 3 + 1 - l.length * 3 = 1 by omega]
  rfl
def encInt (n : Nat) : List Value := [.int .i64 (n : Int)]
theorem encTok_get (l : List Sp.Tok) (k : Nat) (t : Sp.Tok) (h : l[k]? = some t) (j : Nat) (v : Value) (hv : (encTok t)[j]? = some v) : (l.flatMap encTok)[k * 3 + j]? = some v := by
  induction l generalizing k with
  | nil => simp at h
  | cons a l ih =>
    have hj : j < 3 := by
      have := (List.getElem?_eq_some_iff.1 hv).1
      simpa [encTok] using this
    cases k with
    | zero =>
      simp at h
      subst h
      rw [List.flatMap_cons, List.getElem?_append_left (by simp [encTok]; omega)]
      simpa using hv
    | succ k =>
      rw [List.flatMap_cons, List.getElem?_append_right (by simp [encTok]; omega)]
      have := ih k (by simpa using h)
      rw [← this]
      congr 1
      simp [encTok]; omega
theorem toks_len (s : List UInt8) : (Sp.tokens s).length ≤ s.length := by
  have key : ∀ (n k : Nat), s.length - k = n → (Sp.toksAt s k).length ≤ n := by
    intro n
    induction n using Nat.strongRecOn with
    | _ n ih =>
      intro k hn
      by_cases h : k < s.length
      · have hl := Sp.one_le (s.drop k) (by simp; omega)
        simp only [List.length_drop] at hl
        have := ih (s.length - (k + (Sp.one (s.drop k)).2)) (by omega) _ rfl
        rw [Sp.toksAt_step s k h, List.length_append]
        split
        · simp; omega
        · simp; omega
      · rw [Sp.toksAt_end s k (by omega)]; simp
  have := key _ 0 rfl
  rw [Sp.tokens_eq]; simpa using this
end Go.Proofs.Ytjfkjpbkmpofkaa
end
section
namespace Go.Sp
theorem mem_takeWhile {F : UInt8 → Bool} : ∀ {l : List UInt8} {c : UInt8}, c ∈ l.takeWhile F → F c = true
  | [], _, h => by simp at h
  | a :: l, c, h => by
    rw [List.takeWhile_cons] at h
    split at h
    · rename_i ha
      rcases List.mem_cons.1 h with rfl | h
      · exact ha
      · exact mem_takeWhile h
    · simp at h
theorem take_tw (F : UInt8 → Bool) : ∀ r : List UInt8, r.take (r.takeWhile F).length = r.takeWhile F
  | [] => rfl
  | a :: r => by
    rw [List.takeWhile_cons]
    split
    · rw [List.length_cons, List.take_succ_cons, take_tw F r]
    · rfl
theorem tok_digits {s : List UInt8} {t : Tok} (h : TokOk s t) (hk : t.kind = 2) : ∀ c ∈ t.text, 48 ≤ c.toNat ∧ c.toNat ≤ 57 := by
  have h1 := h.one.1
  have h2 := h.one.2
  have h3 := h.text
  rw [hk] at h1
  rw [h2] at h3
  intro c hc
  rw [h3] at hc
  generalize s.drop t.pos = r at h1 hc
  cases r with
  | nil => simp [one] at h1
  | cons a r =>
    simp only [one] at h1 hc
    split at h1
    · simp at h1
    · split at h1
      · simp at h1
      · split at h1
        · simp at h1
        · split at h1
          · rename_i n1 n2 n3 n4
            rw [if_neg n1, if_neg n2, if_neg n3, if_pos n4] at hc
            have e : (run isDigit r) = 1 + (r.takeWhile isDigit).length := rfl
            rw [e, Nat.add_comm, List.take_succ_cons, take_tw] at hc
            have : isDigit c = true := by
              rcases List.mem_cons.1 hc with rfl | hc
              · exact n4
              · exact mem_takeWhile hc
            simpa [isDigit] using this
          · split at h1 <;> simp at h1
end Go.Sp
namespace Go.Proofs.Ytjfkjpbkmpofkaa
open Go.Fw
/-- the tokens are those of a text that is not too long. -/
structure Ok (T : Sp.Src) : Prop where
  size : T.size ≤ 1048576
  len : T.l.length ≤ T.size
  tok : ∀ t ∈ T.l, t.pos + t.text.length ≤ T.size
  len1 : ∀ t ∈ T.l, 1 ≤ t.text.length
  dig : ∀ t ∈ T.l, t.kind = 2 → ∀ c ∈ t.text, 48 ≤ c.toNat ∧ c.toNat ≤ 57
theorem Ok.at_ {T : Sp.Src} (h : Ok T) (i : Nat) : (T.tok i).pos + (T.tok i).text.length ≤ T.size := by
  rcases Nat.lt_or_ge i T.l.length with h1 | h1
  · rw [Sp.Src.tok, List.getD_eq_getElem?_getD, List.getElem?_eq_getElem h1]
    exact h.tok _ (List.getElem_mem h1)
  · rw [Sp.tok_end h1]; simp
theorem tok_get {T : Sp.Src} {i : Nat} (h : i < T.l.length) : T.l[i]? = some (T.tok i) := by
  rw [Sp.Src.tok, List.getD_eq_getElem?_getD, List.getElem?_eq_getElem h]; rfl

/-- the tokens' slice. -/
abbrev TokR (I : Imm) (T : Sp.Src) (la : Option Addr) (lc : Nat) : Prop := RowI I 90 3 (.slice la T.l.length lc) T.l.length (T.l.flatMap encTok)
abbrev dgRow (ds : List Sp.Dg) (da : Option Addr) (dc : Nat) : HItem := .row (.slice da ds.length dc) 82 4 ds.length (ds.flatMap encDg)
theorem ok_tokens (s : List UInt8) (h : s.length ≤ 1048576) : Ok ⟨Sp.tokens s, s.length⟩ :=
  ⟨h, toks_len s, fun t ht => (Sp.tokens_ok s t ht).fit, fun t ht => (Sp.tokens_ok s t ht).len, fun t ht hk => Sp.tok_digits (Sp.tokens_ok s t ht) hk⟩
end Go.Proofs.Ytjfkjpbkmpofkaa
end
section
namespace Go.Sp
theorem tight_le (t : List UInt8) : tight t ≤ 3 := by
  rw [tight]
  split
  · omega
  · split
    · omega
    · split <;> omega
theorem digits_snoc (t : List UInt8) (c : UInt8) : digits (t ++ [c]) = if digits t ≤ 1000000000 then 10 * digits t + (c.toNat - 48) else digits t := by
  rw [digits, List.foldl_append]; rfl
theorem digits_le (t : List UInt8) (h : ∀ c ∈ t, c.toNat ≤ 57) : ∀ k, digits (t.take k) ≤ 10000000009
  | 0 => by simp [digits]
  | k + 1 => by
    by_cases hk : k < t.length
    · rw [List.take_succ_eq_append_getElem hk, digits_snoc]
      have h1 := h t[k] (List.getElem_mem hk)
      have h2 := digits_le t h k
      split <;> omega
    · rw [List.take_of_length_le (by omega)]
      have := digits_le t h k
      rwa [List.take_of_length_le (by omega)] at this
end Go.Sp
namespace Go.Proofs.Ytjfkjpbkmpofkaa
open Go.Fw
/-- an expression's cells, its arguments' slice seen. -/
abbrev exCells (e : Sp.Ex) (ea : Option Addr) (ec : Nat) : List Value := [nt e.kind, str e.name, nt e.n, .slice ea e.args.length ec, nt e.fr, nt e.to]
abbrev ex0 : List Value := [.int .i64 0, str [], .int .i64 0, .slice none 0 0, .int .i64 0, .int .i64 0]
theorem exAt_cells {I : Imm} {e : Sp.Ex} {ea : Option Addr} {ec : Nat} {xs : List Value} (h1 : RowI I 111 6 (.slice ea e.args.length ec) e.args.length xs) (h2 : ExsAt I e.args xs) : ExAt I e (exCells e ea ec) := by
  cases e with
  | mk k nm n args f t => exact .of h1 h2
theorem exs2 {I : Imm} {e1 e2 : Sp.Ex} {c1 c2 : List Value} (h1 : ExAt I e1 c1) (h2 : ExAt I e2 c2) : ExsAt I [e1, e2] (c1 ++ (c2 ++ [])) := by
  rw [ExsAt]; exact ⟨c1, _, rfl, h1, by rw [ExsAt]; exact ⟨c2, [], rfl, h2, .nil⟩⟩
theorem Ok.digs {T : Sp.Src} (h : Ok T) {i : Nat} (hk : (T.tok i).kind = 2) : ∀ c ∈ (T.tok i).text, 48 ≤ c.toNat ∧ c.toNat ≤ 57 := by
  rcases Nat.lt_or_ge i T.l.length with h1 | h1
  · rw [Sp.Src.tok, List.getD_eq_getElem?_getD, List.getElem?_eq_getElem h1] at hk ⊢
    exact h.dig _ (List.getElem_mem h1) hk
  · rw [Sp.tok_end h1] at hk; cases hk
theorem st_row0 (I : Imm) : RowI I 113 15 (.slice none ([] : List Sp.Stm).length 0) ([] : List Sp.Stm).length [] := rowI_nil _ _ _ _ _
theorem stAt_cells {I : Imm} {s : Sp.Stm} {ea a1 a2 : Option Addr} {ec c1 c2 : Nat} {ex xs1 xs2 : List Value}
    (h2 : RowI I 111 6 (.slice ea s.e.args.length ec) s.e.args.length ex) (h3 : ExsAt I s.e.args ex)
    (h4 : RowI I 113 15 (.slice a1 s.thn.length c1) s.thn.length xs1) (h5 : StsAt I s.thn xs1) (h6 : RowI I 113 15 (.slice a2 s.els.length c2) s.els.length xs2) (h7 : StsAt I s.els xs2) :
    StAt I s (stCells s.kind s.name s.at_ s.label s.opn s.e ea ec (.slice a1 s.thn.length c1) (.slice a2 s.els.length c2) s.fr s.to) := by
  cases s with
  | mk k nm a lb o e thn els f t => exact .of h2 h3 h4 h5 h6 h7
abbrev stRow (n : Nat) (a : Option Addr) (cp : Nat) (xs : List Value) : HItem := .row (.slice a n cp) 113 15 n xs
abbrev argRow (n : Nat) (a : Option Addr) (cp : Nat) (xs : List Value) : HItem := .row (.slice a n cp) 111 6 n xs
abbrev nil0 : Value := .slice none 0 0
abbrev parRow (l : List Sp.Par) (n : Nat) (a : Option Addr) (c : Nat) : HItem := .row (.slice a n c) 58 3 n (l.flatMap encPar)
abbrev sndRow (l : List Sp.Rf) (n : Nat) (a : Option Addr) (c : Nat) : HItem := .row (.slice a n c) 85 2 n (l.flatMap encRf)
/-- what comes of a text's file. -/
abbrev ToFile (err : Nat) (its : List Sp.Itm) : Value → Imm → List HItem → Prop := fun v I' H' => ∃ a cp xs, v = .tuple #[.agg [.slice a its.length cp].toArray, nt err] ∧ RowI I' 38 10 (.slice a its.length cp) its.length xs ∧ ItsAt I' its xs ∧ H' = []
abbrev itRow (k : Nat) (a : Option Addr) (cp : Nat) (xs : List Value) : HItem := .row (.slice a k cp) 38 10 k xs
structure ItX where
  I : Imm
  da : Option Addr
  dc : Nat
  ap : Option Addr
  cp : Nat
  as_ : Option Addr
  cs : Nat
  ab : Option Addr
  cb : Nat
  xb : List Value
abbrev itV (q : Sp.Itm) (x : ItX) : List Value := itCells q.kind q.name q.label (.slice x.ap q.params.length x.cp) (.slice x.as_ q.sends.length x.cs) (.slice x.ab q.body.length x.cb) q.at_ q.size q.mark nil0
/-- what comes of an item. -/
abbrev ToIt (it : Sp.Itm) : Value → Imm → List HItem → Prop := fun v I' H' => ∃ cs, v = .agg cs.toArray ∧ ItAt I' it cs ∧ H' = []
end Go.Proofs.Ytjfkjpbkmpofkaa
end
section
namespace Go.Sp
mutual
def Ex.small : Ex → Prop
  | .mk _ _ _ args _ _ => args.length ≤ 64 ∧ exsSmall args
def exsSmall : List Ex → Prop
  | [] => True
  | e :: es => e.small ∧ exsSmall es
 end
mutual
def Stm.small : Stm → Prop
  | .mk _ _ _ _ _ e thn els _ _ => e.small ∧ thn.length ≤ 64 ∧ stmsSmall thn ∧ els.length ≤ 64 ∧ stmsSmall els
def stmsSmall : List Stm → Prop
  | [] => True
  | e :: es => e.small ∧ stmsSmall es
 end
theorem exsSmall_snoc : ∀ {l : List Ex} {e : Ex}, exsSmall l → e.small → exsSmall (l ++ [e])
  | [], e, _, h => by rw [List.nil_append, exsSmall, exsSmall]; exact ⟨h, trivial⟩
  | a :: l, e, h, he => by
    rw [exsSmall] at h
    rw [List.cons_append, exsSmall]
    exact ⟨h.1, exsSmall_snoc h.2 he⟩
theorem stmsSmall_snoc : ∀ {l : List Stm} {e : Stm}, stmsSmall l → e.small → stmsSmall (l ++ [e])
  | [], e, _, h => by rw [List.nil_append, stmsSmall, stmsSmall]; exact ⟨h, trivial⟩
  | a :: l, e, h, he => by
    rw [stmsSmall] at h
    rw [List.cons_append, stmsSmall]
    exact ⟨h.1, stmsSmall_snoc h.2 he⟩
theorem exsSmall_get : ∀ {l : List Ex} {i : Nat} {e : Ex}, exsSmall l → l[i]? = some e → e.small
  | [], _, _, _, h => by simp at h
  | a :: l, 0, e, h, he => by
    rw [exsSmall] at h
    simp only [List.getElem?_cons_zero, Option.some.injEq] at he
    exact he ▸ h.1
  | a :: l, i + 1, e, h, he => by
    rw [exsSmall] at h
    exact exsSmall_get h.2 (by simpa using he)
theorem stmsSmall_get : ∀ {l : List Stm} {i : Nat} {e : Stm}, stmsSmall l → l[i]? = some e → e.small
  | [], _, _, _, h => by simp at h
  | a :: l, 0, e, h, he => by
    rw [stmsSmall] at h
    simp only [List.getElem?_cons_zero, Option.some.injEq] at he
    exact he ▸ h.1
  | a :: l, i + 1, e, h, he => by
    rw [stmsSmall] at h
    exact stmsSmall_get h.2 (by simpa using he)
theorem leaf_small (k n f t : Nat) (nm : List UInt8) : (Ex.mk k nm n [] f t).small := by rw [Ex.small, exsSmall]; exact ⟨by simp, trivial⟩
theorem small_expr (T : Src) : ∀ f, (∀ d s, (atom T f d s).1.small) ∧ (∀ d l s, l.length ≤ 5 → exsSmall l → (argL T f d l s).1.length ≤ 5 ∧ exsSmall (argL T f d l s).1) ∧ (∀ d m s, (expr T f d m s).1.small) ∧ (∀ d m e s, Ex.small e → (opL T f d m e s).1.small)
  | 0 => ⟨fun _ _ => by rw [atom]; exact leaf_small _ _ _ _ _, fun _ _ _ h1 h2 => by rw [argL]; exact ⟨h1, h2⟩, fun _ _ _ => by rw [expr]; exact leaf_small _ _ _ _ _, fun _ _ _ _ h => by rw [opL]; exact h⟩
  | f + 1 => by
    obtain ⟨hA, hL, hE, hO⟩ := small_expr T f
    refine ⟨fun d s => ?_, fun d l s h1 h2 => ?_, fun d m s => ?_, fun d m e s h => ?_⟩
    · rw [atom]
      dsimp only
      split
      · exact leaf_small _ _ _ _ _
      · split
        · exact leaf_small _ _ _ _ _
        · split
          · split <;> exact leaf_small _ _ _ _ _
          · split
            · exact hE _ _ _
            · split
              · exact leaf_small _ _ _ _ _
              · split
                · exact leaf_small _ _ _ _ _
                · have := hL (d + 1) [] s.next.next (by simp) (by rw [exsSmall]; trivial)
                  rw [Ex.small]
                  exact ⟨by omega, this.2⟩
    · rw [argL]
      split
      · exact ⟨h1, h2⟩
      · split
        · exact ⟨h1, h2⟩
        · rename_i h5
          have hs := exsSmall_snoc h2 (hE d 1 s)
          have hl : (l ++ [(expr T f d 1 s).1]).length ≤ 5 := by simp; omega
          try dsimp only
          split
          · exact hL _ _ _ hl hs
          · exact ⟨hl, hs⟩
    · rw [expr]
      try dsimp only
      exact hO _ _ _ _ (hA _ _)
    · rw [opL]
      try dsimp only
      split
      · exact h
      · refine hO _ _ _ _ ?_
        rw [Ex.small, exsSmall, exsSmall, exsSmall]
        exact ⟨by simp, h, hE _ _ _, trivial⟩
theorem stmsSmall_nil : stmsSmall [] := by rw [stmsSmall]; trivial
theorem simple_small (k a lb f t : Nat) (o : Bool) (nm : List UInt8) (e : Ex) (h : e.small) : (Stm.mk k nm a lb o e [] [] f t).small := by
  rw [Stm.small]; exact ⟨h, by simp, stmsSmall_nil, by simp, stmsSmall_nil⟩
theorem small_block (T : Src) : ∀ f, (∀ d s, (block T f d s).1.length ≤ 40 ∧ stmsSmall (block T f d s).1) ∧ (∀ d l s, l.length ≤ 40 → stmsSmall l → (stmL T f d l s).1.length ≤ 40 ∧ stmsSmall (stmL T f d l s).1) ∧ (∀ d s, (stm T f d s).1.small)
  | 0 => ⟨fun _ _ => by rw [block]; exact ⟨by simp, stmsSmall_nil⟩, fun _ _ _ h1 h2 => by rw [stmL]; exact ⟨h1, h2⟩, fun _ s => by rw [stm]; exact simple_small _ _ _ _ _ _ _ _ (leaf_small _ _ _ _ _)⟩
  | f + 1 => by
    obtain ⟨hB, hL, hS⟩ := small_block T f
    have hE := (small_expr T f).2.2.1
    refine ⟨fun d s => ?_, fun d l s h1 h2 => ?_, fun d s => ?_⟩
    · rw [block]
      split
      · exact ⟨by simp, stmsSmall_nil⟩
      · split
        · exact ⟨by simp, stmsSmall_nil⟩
        · dsimp only
          exact hL _ _ _ (by simp) stmsSmall_nil
    · rw [stmL]
      split
      · exact ⟨h1, h2⟩
      · split
        · exact ⟨h1, h2⟩
        · dsimp only
          exact hL _ _ _ (by simp; omega) (stmsSmall_snoc h2 (hS d s))
    · rw [stm]
      dsimp only
      have two : ∀ (k a lb f t : Nat) (o : Bool) (nm : List UInt8) (e : Ex) (b c : List Stm), e.small → b.length ≤ 40 ∧ stmsSmall b → c.length ≤ 40 ∧ stmsSmall c → (Stm.mk k nm a lb o e b c f t).small := fun k a lb f t o nm e b c h1 h2 h3 => by
        rw [Stm.small]; exact ⟨h1, by omega, h2.2, by omega, h3.2⟩
      have nil2 : ([] : List Stm).length ≤ 40 ∧ stmsSmall [] := ⟨by simp, stmsSmall_nil⟩
      repeat' split
      all_goals first
        | exact simple_small _ _ _ _ _ _ _ _ (hE _ _ _)
        | exact two _ _ _ _ _ _ _ _ _ _ (hE _ _ _) (hB _ _) (hB _ _)
        | exact two _ _ _ _ _ _ _ _ _ _ (hE _ _ _) (hB _ _) nil2
        | exact simple_small _ _ _ _ _ _ _ _ (leaf_small _ _ _ _ _)
theorem parL_few (T : Src) : ∀ (f : Nat) (l : List Par) (s : St), l.length ≤ 5 → (parL T f l s).1.length ≤ 5 ∧ (s.i ≤ T.l.length → s.i ≤ (parL T f l s).2.i ∧ (parL T f l s).2.i ≤ T.l.length ∧ (parL T f l s).2.ds.length ≤ s.ds.length + 2 * ((parL T f l s).2.i - s.i) + 3 * f)
  | 0, l, s, h => by rw [parL]; exact ⟨h, fun hi => ⟨Nat.le_refl _, hi, by dsimp only; omega⟩⟩
  | f + 1, l, s, h => by
    rw [parL]
    split
    · exact ⟨h, fun hi => ⟨Nat.le_refl _, hi, by dsimp only; omega⟩⟩
    · split
      · exact ⟨h, fun hi => ⟨Nat.le_refl _, hi, by simp [St.bad]; omega⟩⟩
      · dsimp only
        have g1 := goes_named T s
        have g2 := goes_need T (s.named T).2 [58]
        have g3 := goes_lab T ((s.named T).2.need T [58]).2
        have a1 := g1.le; have a2 := g1.top; have a3 := g1.ds
        have b1 := g2.le; have b2 := g2.top; have b3 := g2.ds
        have c1 := g3.le; have c2 := g3.top; have c3 := g3.ds
        split
        · exact ⟨h, fun hi => ⟨by dsimp only; omega, b2 (a2 hi), by dsimp only; omega⟩⟩
        · split
          · rename_i h5
            have h6 := is_lt h5
            have ih := parL_few T f (l ++ [⟨(s.named T).1, (lab T ((s.named T).2.need T [58]).2).1, (T.tok s.i).pos⟩]) (lab T ((s.named T).2.need T [58]).2).2.next (by simp; omega)
            refine ⟨ih.1, fun hi => ?_⟩
            have e1 : (lab T ((s.named T).2.need T [58]).2).2.next.i = (lab T ((s.named T).2.need T [58]).2).2.i + 1 := rfl
            have e2 : (lab T ((s.named T).2.need T [58]).2).2.next.ds.length = (lab T ((s.named T).2.need T [58]).2).2.ds.length := rfl
            obtain ⟨i1, i2, i3⟩ := ih.2 (by omega)
            exact ⟨by omega, i2, by omega⟩
          · exact ⟨by simp; omega, fun hi => ⟨by dsimp only; omega, c2 (b2 (a2 hi)), by dsimp only; omega⟩⟩
theorem sndL_few (T : Src) : ∀ (f : Nat) (l : List Rf) (s : St), l.length ≤ 5 → (sndL T f l s).1.length ≤ 5 ∧ (s.i ≤ T.l.length → s.i ≤ (sndL T f l s).2.i ∧ (sndL T f l s).2.i ≤ T.l.length ∧ (sndL T f l s).2.ds.length ≤ s.ds.length + 2 * ((sndL T f l s).2.i - s.i) + 3 * f)
  | 0, l, s, h => by rw [sndL]; exact ⟨h, fun hi => ⟨Nat.le_refl _, hi, by dsimp only; omega⟩⟩
  | f + 1, l, s, h => by
    rw [sndL]
    split
    · exact ⟨h, fun hi => ⟨Nat.le_refl _, hi, by simp [St.bad]; omega⟩⟩
    · dsimp only
      have g1 := goes_named T s
      have a1 := g1.le; have a2 := g1.top; have a3 := g1.ds
      split
      · rename_i h5
        have h6 := is_lt h5
        have ih := sndL_few T f (l ++ [⟨(s.named T).1, (T.tok s.i).pos⟩]) (s.named T).2.next (by simp; omega)
        refine ⟨ih.1, fun hi => ?_⟩
        have e1 : (s.named T).2.next.i = (s.named T).2.i + 1 := rfl
        have e2 : (s.named T).2.next.ds.length = (s.named T).2.ds.length := rfl
        obtain ⟨i1, i2, i3⟩ := ih.2 (by omega)
        exact ⟨by omega, i2, by omega⟩
      · exact ⟨by simp; omega, fun hi => ⟨by dsimp only; omega, a2 hi, by dsimp only; omega⟩⟩
structure Itm.small (it : Itm) : Prop where
  params : it.params.length ≤ 5
  sends : it.sends.length ≤ 5
  body : it.body.length ≤ 40
  stms : stmsSmall it.body
  diags : it.diags.length ≤ 40000000
theorem fnItm_small (T : Src) (at_ : Int) (size : Nat) (s : St) (hT : T.l.length ≤ 1048576) (hi : s.i ≤ T.l.length) (hd : s.ds = []) :
    (fnItm T at_ size s).1.params.length ≤ 5 ∧ (fnItm T at_ size s).1.sends.length ≤ 5 ∧ (fnItm T at_ size s).1.body.length ≤ 40 ∧ stmsSmall (fnItm T at_ size s).1.body ∧ (fnItm T at_ size s).2.ds.length ≤ 39000000 := by
  rw [fnItm]
  dsimp only
  have g1 := goes_named T s
  generalize s.named T = r at g1 ⊢
  have g2 := goes_need T r.2 [40]
  generalize r.2.need T [40] = s1 at g2 ⊢
  have p := parL_few T 6 [] s1.2 (by simp)
  generalize parL T 6 [] s1.2 = r2 at p ⊢
  have g3 := goes_need T r2.2 [41]
  generalize r2.2.need T [41] = s3 at g3 ⊢
  have g4 := goes_need T s3.2 [58]
  generalize s3.2.need T [58] = s4 at g4 ⊢
  have g5 := goes_lab T s4.2
  generalize lab T s4.2 = r5 at g5 ⊢
  have hd0 : s.ds.length = 0 := by rw [hd]; rfl
  have a2 := g1.top hi; have a3 := g1.ds; have a1 := g1.le
  have b2 := g2.top a2; have b3 := g2.ds; have b1 := g2.le
  obtain ⟨p1, p2⟩ := p
  obtain ⟨p3, p4, p5⟩ := p2 b2
  have c2 := g3.top p4; have c3 := g3.ds; have c1 := g3.le
  have d2 := g4.top c2; have d3 := g4.ds; have d1 := g4.le
  have e2 := g5.top d2; have e3 := g5.ds; have e1 := g5.le
  have q : ∀ r6 : List Rf × St, r6 = (if T.is r5.2.i [115, 101, 110, 100, 115] = true then sndL T 6 [] r5.2.next else ([], r5.2)) → r6.1.length ≤ 5 ∧ r6.2.i ≤ T.l.length ∧ r6.2.ds.length ≤ r5.2.ds.length + 2 * (T.l.length) + 18 := fun r6 h => by
    by_cases hs : T.is r5.2.i [115, 101, 110, 100, 115] = true
    · rw [if_pos hs] at h
      have hlt := is_lt hs
      have q := sndL_few T 6 [] r5.2.next (by simp)
      have f1 : r5.2.next.i = r5.2.i + 1 := rfl
      have f2 : r5.2.next.ds.length = r5.2.ds.length := rfl
      obtain ⟨q3, q4, q5⟩ := q.2 (by omega)
      rw [h]
      exact ⟨q.1, q4, by omega⟩
    · rw [if_neg hs] at h
      rw [h]
      exact ⟨by simp, e2, by dsimp only; omega⟩
  obtain ⟨r6, h6⟩ : ∃ r6, r6 = (if T.is r5.2.i [115, 101, 110, 100, 115] = true then sndL T 6 [] r5.2.next else ([], r5.2)) := ⟨_, rfl⟩
  obtain ⟨q1, q2, q3⟩ := q r6 h6
  rw [← h6]
  have hb := (small_block T (fuel T)).1 0 r6.2
  have gb := (goes_block T (fuel T)).1 0 r6.2
  have h1 := gb.ds
  have h2 := gb.top q2
  exact ⟨p1, q1, hb.1, hb.2, by omega⟩
theorem itemQ_small (T : Src) (at_ : Int) (size : Nat) (hT : T.l.length ≤ 1048576) :
    (itemQ T at_ size).1.params.length ≤ 5 ∧ (itemQ T at_ size).1.sends.length ≤ 5 ∧ (itemQ T at_ size).1.body.length ≤ 40 ∧ stmsSmall (itemQ T at_ size).1.body ∧ (itemQ T at_ size).2.ds.length ≤ 39000000 := by
  rw [itemQ]
  split
  · rename_i h
    exact fnItm_small T at_ size ⟨1, []⟩ hT (is_lt h) rfl
  · split
    · rename_i h
      have hlt := is_lt h
      rw [chItm]
      dsimp only
      have g1 := goes_named T ⟨1, []⟩
      generalize (⟨1, []⟩ : St).named T = r at g1 ⊢
      have g2 := goes_need T r.2 [58]
      generalize r.2.need T [58] = s1 at g2 ⊢
      have g3 := goes_lab T s1.2
      generalize lab T s1.2 = r2 at g3 ⊢
      have g4 := goes_need T r2.2 [59]
      generalize r2.2.need T [59] = s3 at g4 ⊢
      have a2 := g1.top hlt; have a3 := g1.ds; have a1 := g1.le
      have b2 := g2.top a2; have b3 := g2.ds; have b1 := g2.le
      have c2 := g3.top b2; have c3 := g3.ds; have c1 := g3.le
      have d2 := g4.top c2; have d3 := g4.ds; have d1 := g4.le
      dsimp only [List.length_nil] at a1 a3
      exact ⟨by simp, by simp, by simp, stmsSmall_nil, by omega⟩
    · exact ⟨by simp, by simp, by simp, stmsSmall_nil, by simp [St.bad]⟩
theorem item_small (src : List UInt8) (at_ : Int) (h : src.length ≤ 1048576) : (item src at_).small := by
  have hl := toks_len src
  rw [item_eq]
  have hT : (Src.mk (tokens src) src.length).l.length ≤ 1048576 := by dsimp only; omega
  generalize Src.mk (tokens src) src.length = T at hT ⊢
  obtain ⟨h1, h2, h3, h4, h5⟩ := itemQ_small T at_ src.length hT
  rw [itemT]
  refine ⟨h1, h2, h3, h4, ?_⟩
  dsimp only
  split
  · simp [St.bad]; omega
  · omega
theorem small_args {e : Ex} (h : e.small) : e.args.length ≤ 64 ∧ exsSmall e.args := by
  cases e with
  | mk k n m a f t => rw [Ex.small] at h; exact h
theorem size_args {e a : Ex} (h : a ∈ e.args) : SizeOf.sizeOf a < SizeOf.sizeOf e := by
  cases e with
  | mk k n m l f t =>
    have h' : a ∈ l := h
    have := List.sizeOf_lt_of_mem h'
    simp only [Ex.mk.sizeOf_spec]
    omega
theorem small_parts {s : Stm} (h : s.small) : s.e.small ∧ s.thn.length ≤ 64 ∧ stmsSmall s.thn ∧ s.els.length ≤ 64 ∧ stmsSmall s.els := by
  cases s with
  | mk k n a l o e t x f u => rw [Stm.small] at h; exact h
theorem size_thn {s : Stm} : SizeOf.sizeOf s.thn < SizeOf.sizeOf s ∧ SizeOf.sizeOf s.els < SizeOf.sizeOf s := by
  cases s with
  | mk k n a l o e t x f u =>
    simp only [Stm.mk.sizeOf_spec, Stm.thn, Stm.els]
    omega
theorem sizeL_mem {l : List Stm} {s : Stm} (h : s ∈ l) : SizeOf.sizeOf s < SizeOf.sizeOf l := List.sizeOf_lt_of_mem h
end Go.Sp
end
