/- Own work: texts FwFork, FwCut, FwCut2, FwByt, FwIf, one behind the other. -/
import Derived.Test.YtkbiakajlfmakaaDoorFt4
import Derived.WideLaws
section
namespace Go.Fw
open Go
section
variable {P : Program} {ops : Array Oper} {md : Region.Mode} {C : World → Prop}
/-- operation 'i' yields a value, or nothing. -/
def uOp (P : Program) (ops : Array Oper) (i : Nat) (K : Act → World → Prop) (a : Act) (w : World) : Prop :=
  match ops[i]? with
  | none => K a w
  | some o => if Region.wanted o (yielded ops a.tmps) then (∃ u w', (execOp a.eval o).run P w = .ok (.value u) w' ∧ K (a.put o.dst u) w') ∨
      (∃ f args, (execOp a.eval o).run P w = .ok (.enter f args) w ∧ Calls P f args w (fun e w' => ∃ u, e = .returned u ∧ K (a.put o.dst u) w')) ∨
      (∃ w', (execOp a.eval o).run P w = .ok .skip w' ∧ K (a.put o.dst undef) w') else K (a.put o.dst undef) w
theorem wpOp_of_uOp {Q : Exit → Act → World → Prop} {i : Nat} {K : Act → World → Prop} {a : Act} {w : World} (h : uOp P ops i K a w) : wpOp P ops Q i K a w := by
  unfold uOp at h
  unfold wpOp
  cases ho : ops[i]? with
  | none => simpa [ho] using h
  | some o =>
    simp only [ho] at h ⊢
    split
    · rename_i hw
      rw [if_pos hw] at h
      left
      rcases h with ⟨u, w', h1, h2⟩ | ⟨f, args, h1, h2⟩ | ⟨w', h1, h2⟩
      · unfold Oper.wp
        rw [h1, Oper.upon_value]
        exact h2
      · unfold Oper.wp
        rw [h1, Oper.upon_enter]
        exact Calls.mono h2 (fun e w' ⟨u, he, hk⟩ => by subst he; exact hk)
      · unfold Oper.wp
        rw [h1, Oper.upon_skip]
        exact h2
    · rename_i hw
      rw [if_neg hw] at h
      exact h
theorem uOp_mono {i : Nat} {K K' : Act → World → Prop} {a : Act} {w : World} (hk : ∀ a w, K a w → K' a w) (h : uOp P ops i K a w) : uOp P ops i K' a w := by
  unfold uOp at h ⊢
  cases ho : ops[i]? with
  | none => simp only [ho] at h ⊢; exact hk _ _ h
  | some o =>
    simp only [ho] at h ⊢
    split
    · rename_i hw
      rw [if_pos hw] at h
      rcases h with ⟨u, w', h1, h2⟩ | ⟨f, args, h1, h2⟩ | ⟨w', h1, h2⟩
      · exact .inl ⟨u, w', h1, hk _ _ h2⟩
      · exact .inr (.inl ⟨f, args, h1, Calls.mono h2 (fun e w' ⟨u, he, h⟩ => ⟨u, he, hk _ _ h⟩)⟩)
      · exact .inr (.inr ⟨w', h1, hk _ _ h2⟩)
    · rename_i hw
      rw [if_neg hw] at h
      exact hk _ _ h
theorem YieldsV.uOp {i : Nat} {o : Oper} {v : Value} {a : Act} {w : World} (hi : ops[i]? = some o) (hy : YieldsV P ops C o v a) (hC : C w) {K : Act → World → Prop} (h : K (a.put o.dst v) w) : uOp P ops i K a w := by
  unfold Fw.uOp
  simp only [hi]
  rcases hy with ⟨hw, hv⟩ | ⟨hw, rfl⟩
  · rw [if_pos hw]; exact .inl ⟨v, w, hv w hC, h⟩
  · rw [if_neg (by rw [hw]; simp)]; exact h
theorem uOp_put {j : Nat} {oi oj : Oper} {v : Value} (hj : ops[j]? = some oj) (hap : oi.apart ops oj = true)
    (hsi : ∀ cs b, oi.op ≠ .select cs b) (hsj : ∀ cs b, oj.op ≠ .select cs b) {K : Act → World → Prop} {a : Act} {w : World}
    (hy : YieldsV P ops C oi v a) (h : uOp P ops j K (a.put oi.dst v) w) :
    uOp P ops j (fun a' w' => YieldsV P ops C oi v a' ∧ K (a'.put oi.dst v) w') a w := by
  obtain ⟨h1, h2, h3⟩ := Oper.apart_spec hap
  have keep : ∀ (a : Act), YieldsV P ops C oi v a → ∀ u, YieldsV P ops C oi v (a.put oj.dst u) := fun a hy u => by
    unfold YieldsV at hy ⊢
    rw [execOp_put oi hsi a oj.dst u h3, wanted_put oi a oj.dst u h3]
    exact hy
  unfold uOp at *
  simp only [hj] at *
  rw [wanted_put oj a oi.dst v h1] at h
  split
  · rename_i hw
    rw [if_pos hw] at h
    rcases h with ⟨u, w', hu, hn⟩ | ⟨f, args, hu, hn⟩ | ⟨w', hu, hn⟩
    · rw [execOp_put oj hsj a oi.dst v h1] at hu
      exact .inl ⟨u, w', hu, keep a hy u, by rw [← Act.put_comm a v u h2]; exact hn⟩
    · rw [execOp_put oj hsj a oi.dst v h1] at hu
      exact .inr (.inl ⟨f, args, hu, Calls.mono hn (fun e w' ⟨u, he, h⟩ => ⟨u, he, keep a hy u, by rw [← Act.put_comm a v u h2]; exact h⟩)⟩)
    · rw [execOp_put oj hsj a oi.dst v h1] at hu
      exact .inr (.inr ⟨w', hu, keep a hy _, by rw [← Act.put_comm a v undef h2]; exact hn⟩)
  · rename_i hw
    rw [if_neg hw] at h
    exact ⟨keep a hy _, by rw [← Act.put_comm a v undef h2]; exact h⟩
/-- the first 'n', in any order; the class is kept. -/
def anyU (P : Program) (md : Region.Mode) (ops : Array Oper) (C : World → Prop) (n : Nat) (L : Array Bool → Act → World → Prop) : Nat → Array Bool → Act → World → Prop
  | 0, listed, a, w => L listed a w
  | f + 1, listed, a, w => Region.ready md ops listed ≠ [] ∧ ∀ i ∈ Region.ready md ops listed, i < n ∧ uOp P ops i (fun a' w' => C w' ∧ anyU P md ops C n L f (listed.setIfInBounds i true) a' w') a w
theorem any_of_u {n g : Nat} {L : Array Bool → Act → World → Prop} {Q' : Exit → Act → World → Prop} (hL : ∀ listed a w, L listed a w → wpAny P md ops Q' g listed a w) :
    ∀ (f : Nat) (listed : Array Bool) (a : Act) (w : World), anyU P md ops C n L f listed a w → wpAny P md ops Q' (f + g) listed a w
  | 0, listed, a, w, h => by rw [Nat.zero_add]; exact hL _ _ _ h
  | f + 1, listed, a, w, h => by
    rw [show f + 1 + g = (f + g) + 1 by omega]
    exact ⟨fun h0 => absurd h0 h.1, fun i hi => wpOp_of_uOp (uOp_mono (fun a' w' h' => any_of_u hL f _ a' w' h'.2) (h.2 i hi).2)⟩
theorem u_first {n i : Nat} {oi : Oper} {v : Value} {L : Array Bool → Act → World → Prop} (hi : ops[i]? = some oi) (hsel : ∀ (j : Nat) (o : Oper) cs b, ops[j]? = some o → o.op ≠ .select cs b)
    (hs : Region.sinkB md ops n = true) (hc : Region.chainB md ops n = true) (hn : n < ops.size) (hin : i < n)
    (hdone : ∀ listed a w, L listed a w → ∀ j ∈ Region.ready md ops listed, n ≤ j) :
    ∀ (f : Nat) (listed : Array Bool) (a : Act) (w : World), C w → HeadInv md ops n listed →
      (∀ j oj, ops[j]? = some oj → j ≠ i → listed.getD j true = false → (∀ e ∈ oj.after, Region.binds md e = true → e.on ≠ i) → oi.apart ops oj = true) →
      i ∈ Region.ready md ops listed → YieldsV P ops C oi v a →
      anyU P md ops C n L f (listed.setIfInBounds i true) (a.put oi.dst v) w → anyU P md ops C n L (f + 1) listed a w := by
  intro f
  induction f with
  | zero =>
    intro listed a w hC inv _ hr hy H
    have hun := (mem_ready.1 hr).1
    refine ⟨fun h => (by rw [h] at hr; cases hr), fun j hj => ?_⟩
    have hjn : j < n := by
      rcases Nat.lt_or_ge j n with h | h
      · exact h
      · exact absurd hj (tail_waits hs hc hn inv _ i rfl hin hun j h)
    refine ⟨hjn, ?_⟩
    by_cases hji : j = i
    · subst hji; exact hy.uOp hi hC ⟨hC, H⟩
    · have := hdone _ _ _ H j (ready_mono hj hji)
      omega
  | succ f ih =>
    intro listed a w hC inv hfree hr hy H
    have hun := (mem_ready.1 hr).1
    refine ⟨fun h => (by rw [h] at hr; cases hr), fun j hj => ?_⟩
    have hjn : j < n := by
      rcases Nat.lt_or_ge j n with h | h
      · exact h
      · exact absurd hj (tail_waits hs hc hn inv _ i rfl hin hun j h)
    refine ⟨hjn, ?_⟩
    by_cases hji : j = i
    · subst hji; exact hy.uOp hi hC ⟨hC, H⟩
    · have h1 := (H.2 j (ready_mono hj hji)).2
      obtain ⟨hjun, oj, hoj, hall⟩ := mem_ready.1 hj
      have hnot : ∀ e ∈ oj.after, Region.binds md e = true → e.on ≠ i := fun e he hb heq => by
        have h1 := hall e he hb
        rw [heq, getD_both hun] at h1
        cases h1
      have h2 := uOp_put hoj (hfree j oj hoj hji hjun hnot) (fun cs b => hsel i oi cs b hi) (fun cs b => hsel j oj cs b hoj) hy h1
      have hfree' : ∀ k ok, ops[k]? = some ok → k ≠ i → (listed.setIfInBounds j true).getD k true = false →
          (∀ e ∈ ok.after, Region.binds md e = true → e.on ≠ i) → oi.apart ops ok = true := fun k ok hk hki hun hno => by
        refine hfree k ok hk hki ?_ hno
        by_cases hjk : j = k
        · subst hjk; exact hjun
        · rw [getD_set_ne true hjk] at hun; exact hun
      refine uOp_mono (fun a' w' h3 => ⟨h3.2.1, ih (listed.setIfInBounds j true) a' w' h3.2.1 (inv.set hj hjn) hfree' (ready_mono hr (Ne.symm hji)) h3.1 ?_⟩) h2
      rw [Array.setIfInBounds_comm _ _ hji]
      exact h3.2.2

/-- the check of those that come first: each may, and none bears on it. -/
def lexQB (md : Region.Mode) (ops : Array Oper) (n : Nat) : List Nat → Array Bool → Bool
  | [], _ => true
  | k :: ks, listed => (Region.ready md ops listed).contains k && Region.free md ops listed k && decide (k < n) && lexQB md ops n ks (listed.setIfInBounds k true)
def listK : List Nat → Array Bool → Array Bool
  | [], l => l
  | k :: ks, l => listK ks (l.setIfInBounds k true)
theorem anyU_quiet {n g f : Nat} {Lq : Act → World → Prop} (hsel : Region.noSelect ops = true) (hs : Region.sinkB md ops n = true) (hc : Region.chainB md ops n = true) (hn : n < ops.size) :
    ∀ (ks : List Nat) (l : List Oper) (listed : Array Bool) (a : Act) (w : World), C w → ks.map (ops[·]?) = l.map some → HeadInv md ops n listed → lexQB md ops n ks listed = true →
    pureV P ops C (fun a' => anyU P md ops C n (fun listed' a' w' => Region.seqB md ops g n listed' = true ∧ Lq a' w') f (listK ks listed) a' w) l a →
    anyU P md ops C n (fun listed' a' w' => Region.seqB md ops g n listed' = true ∧ Lq a' w') (l.length + f) listed a w
  | [], [], listed, a, w, _, _, _, _, h => by rw [List.length_nil, Nat.zero_add]; exact h
  | k :: ks, o :: l, listed, a, w, hC, hl, inv, hB, h => by
    simp only [List.map_cons, List.cons.injEq] at hl
    obtain ⟨h0, hl'⟩ := hl
    simp only [lexQB, Bool.and_eq_true, decide_eq_true_eq] at hB
    obtain ⟨⟨⟨hr, hf⟩, hkn⟩, hB'⟩ := hB
    have hr' : k ∈ Region.ready md ops listed := by simpa using hr
    obtain ⟨v, hy, hK⟩ := h
    rw [show (o :: l).length + f = (l.length + f) + 1 by simp only [List.length_cons]; omega]
    exact u_first h0 (Region.noSelect_spec hsel) hs hc hn hkn (fun listed' a' w' hL => seqB_ready hL.1) (l.length + f) listed a w hC inv (Region.free_spec h0 hf) hr' hy
      (anyU_quiet hsel hs hc hn ks l _ _ w hC hl' (inv.set hr' hkn) hB' hK)
  | [], _ :: _, _, _, _, _, hl, _, _, _ => by simp at hl
  | _ :: _, [], _, _, _, _, hl, _, _, _ => by simp at hl
def forkOk (ops : Array Oper) (ks : List Nat) (n : Nat) : Bool :=
  Region.noSelect ops && decide (n < ops.size) && Region.sinkB .any ops n && Region.chainB .any ops n && lexQB .any ops n ks (Array.replicate ops.size false) && decide (ks.length ≤ n) && ks.all (fun k => Nat.blt k ops.size)
theorem wp_region_fork {id : Nat} {Q : Exit → Act → World → Prop} {a : Act} {w : World} {l : List Oper} (ks : List Nat) (n : Nat) (hm : P.follows .mixedOrders = true) (hB : forkOk l.toArray ks n = true)
    (hC : C { w with drawn := w.drawn + 1 })
    (h : pureV P l.toArray C (fun a' => anyU P .any l.toArray C n (fun listed' a' w' => Region.seqB .any l.toArray (l.length - n) n listed' = true ∧ wpList P l.toArray Q (l.drop n) a' w') (n - ks.length) (listK ks (Array.replicate l.length false)) a' { w with drawn := w.drawn + 1 }) (pickL l ks) a) :
    (Code.region id l.toArray true).wp P Q a w := by
  simp only [forkOk, Bool.and_eq_true, decide_eq_true_eq] at hB
  obtain ⟨⟨⟨⟨⟨⟨hsel, hn⟩, hs⟩, hc⟩, hlex⟩, hlen⟩, hks⟩ := hB
  have hn' : n < l.length := by simpa using hn
  have hdl : (l.drop n).length = l.length - n := by simp
  obtain ⟨k1, k2⟩ := pickL_map l ks (by simpa using hks)
  have inv0 : HeadInv .any l.toArray n (Array.replicate l.length false) :=
    ⟨by simp, fun j oj _ hl => (by rw [getD_replicate_false] at hl; cases hl), fun t _ ht => getD_in (by simpa using ht) (getD_replicate_false _ _)⟩
  have H := anyU_quiet (md := .any) (g := l.length - n) (f := n - ks.length) hsel hs hc hn ks (pickL l ks) _ a _ hC k1 inv0 (by simpa using hlex) h
  refine wp_region_any hm ?_
  have := any_of_u (Q' := Q) (g := l.length - n) (fun listed a' w' hL => by
    have := wpAny_of_seq (md := .any) (Q' := Q) (l.drop n) n listed a' w' (fun j => by simp [List.getElem?_drop]) (by rw [hdl]; exact hL.1) hL.2
    rwa [hdl] at this) _ _ _ _ H
  rw [k2, show ks.length + (n - ks.length) + (l.length - n) = l.length by omega] at this
  simpa using this
end
section
variable {P : Program} {N : Nat} {ds : List Deferred} {X : List Nat} {Q : Exit → Act → World → Prop} {l : Log} {w w' w0 : World} {os tail : List Oper} {ops : Array Oper} {E : Ent} {I : Imm} {G R H : List HItem} {o : Oper}
/-- what is still to come, in any order. -/
structure WA (P : Program) (N : Nat) (ds : List Deferred) (ops : Array Oper) (Q : Exit → Act → World → Prop) (X : List Nat) (w0 : World) (n f : Nat) (listed : Array Bool) (tail : List Oper) (l : Log) (w : World) : Prop where
  run : ∀ a, Fits N ds l a → anyU P .any ops (fun w' => Kept X w0 w') n (fun listed' a' w' => Region.seqB .any ops (ops.size - n) n listed' = true ∧ wpList P ops Q tail a' w') f listed a w
/-- one operation, now. -/
structure WU (P : Program) (N : Nat) (ds : List Deferred) (ops : Array Oper) (Q : Exit → Act → World → Prop) (X : List Nat) (w0 : World) (n f : Nat) (listed : Array Bool) (tail : List Oper) (o : Oper) (l : Log) (w : World) : Prop where
  run : ∀ a, Fits N ds l a → ∀ i, ops[i]? = some o → uOp P ops i (fun a' w' => Kept X w0 w' ∧ anyU P .any ops (fun w' => Kept X w0 w') n (fun listed' a' w' => Region.seqB .any ops (ops.size - n) n listed' = true ∧ wpList P ops Q tail a' w') f listed a' w') a w
theorem wc_fork_mem [Mixed P] {id : Nat} (hm : Mem E I (G ++ R) w) (ks : List Nat) (n : Nat) (hB : forkOk os.toArray ks n = true)
    (h : ∀ wd, Mem E I (G ++ R) wd → Mem ⟨wd, blks G, I⟩ I G wd → WV P N ds os.toArray (blks G) wd (fun a' => anyU P .any os.toArray (fun w' => Kept (blks G) wd w') n (fun listed' a' w' => Region.seqB .any os.toArray (os.toArray.size - n) n listed' = true ∧ wpList P os.toArray Q (os.drop n) a' w') (n - ks.length) (listK ks (Array.replicate os.length false)) a' wd) (pickL os ks) l) :
    WC P N ds (.region id os.toArray true) Q l w :=
  ⟨fun a ha => wp_region_fork (C := fun w' => Kept (blks G) { w with drawn := w.drawn + 1 } w') ks n Mixed.out hB (Kept.refl _ _) ((h _ (hm.kept0 (Kept.drew w)) (hm.kept0 (Kept.drew w)).sub).run a ha)⟩
theorem wv_nilA {n f : Nat} {listed : Array Bool} (h : WA P N ds ops Q X w n f listed tail l w) :
    WV P N ds ops X w (fun a' => anyU P .any ops (fun w' => Kept X w w') n (fun listed' a' w' => Region.seqB .any ops (ops.size - n) n listed' = true ∧ wpList P ops Q tail a' w') f listed a' w) [] l := ⟨fun a ha => h.run a ha⟩
theorem wa_nil {n : Nat} {listed : Array Bool} (hs : Region.seqB .any ops (ops.size - n) n listed = true) (h : WL P N ds ops Q tail l w) : WA P N ds ops Q X w0 n 0 listed tail l w := ⟨fun a ha => ⟨hs, h.run a ha⟩⟩
theorem wa_one {n f i : Nat} {listed : Array Bool} (hr : Region.ready .any ops listed = [i]) (hi : ops[i]? = some o) (hn : Nat.blt i n = true)
    (h : WU P N ds ops Q X w0 n f (listed.setIfInBounds i true) tail o l w) : WA P N ds ops Q X w0 n (f + 1) listed tail l w :=
  ⟨fun a ha => ⟨by rw [hr]; simp, fun j hj => by
    rw [hr] at hj
    obtain rfl : j = i := by simpa using hj
    exact ⟨by simpa [Nat.blt_eq] using hn, h.run a ha j hi⟩⟩⟩
theorem wa_two {n f i j : Nat} {o2 : Oper} {listed : Array Bool} (hr : Region.ready .any ops listed = [i, j]) (hi : ops[i]? = some o) (hj : ops[j]? = some o2) (hn : Nat.blt i n = true) (hn2 : Nat.blt j n = true)
    (h : WU P N ds ops Q X w0 n f (listed.setIfInBounds i true) tail o l w) (h2 : WU P N ds ops Q X w0 n f (listed.setIfInBounds j true) tail o2 l w) : WA P N ds ops Q X w0 n (f + 1) listed tail l w :=
  ⟨fun a ha => ⟨by rw [hr]; simp, fun k hk => by
    rw [hr] at hk
    rcases List.mem_cons.1 hk with rfl | hk
    · exact ⟨by simpa [Nat.blt_eq] using hn, h.run a ha _ hi⟩
    · obtain rfl : k = j := by simpa using hk
      exact ⟨by simpa [Nat.blt_eq] using hn2, h2.run a ha _ hj⟩⟩⟩
variable {d : Nat} {ty : TypeId} {pos : String} {af : Array Edge} {g : Option (Nat × Bool)} {t t' : TypeId} {x y z : Operand} {n f : Nat} {listed : Array Bool}
theorem wu_value {d : Nat} {v : Value} (hd : o.dst = some d) (hw : want ops l o = some true) (hN : Nat.blt d N = true) (hrun : ∀ a, Fits N ds l a → (execOp a.eval o).run P w = .ok (.value v) w') (hC : Kept X w0 w')
    (k : WA P N ds ops Q X w0 n f listed tail ((d, v) :: l) w') : WU P N ds ops Q X w0 n f listed tail o l w :=
  ⟨fun a ha i hi => by
    unfold uOp
    simp only [hi]
    rw [want_spec ha hw]
    exact .inl ⟨v, w', hrun a ha, hC, by rw [hd]; exact k.run _ (ha.put hN v)⟩⟩
theorem wu_skip (hd : o.dst = none) (hw : want ops l o = some true) (hrun : ∀ a, Fits N ds l a → (execOp a.eval o).run P w = .ok .skip w') (hC : Kept X w0 w')
    (k : WA P N ds ops Q X w0 n f listed tail l w') : WU P N ds ops Q X w0 n f listed tail o l w :=
  ⟨fun a ha i hi => by
    unfold uOp
    simp only [hi]
    rw [want_spec ha hw]
    exact .inr (.inr ⟨w', hrun a ha, hC, by rw [hd]; exact k.run _ ha⟩)⟩
theorem mu_allocS {pl : List (Nat × Nat)} {z : List Value} [hS : StructT P t pl z] {n' by_ : Nat} [Elem P t n' by_] {I0 : Imm} (hm : Mem ⟨w0, X, I0⟩ I H w) (hw : want ops l ⟨some d, .alloc t, ty, pos, af, g⟩ = some true) (hN : Nat.blt d N = true)
    (k : ∀ b w', Mem ⟨w0, X, I0⟩ I (.obj b (.cells z.toArray t (0, 0)) :: H) w' → WA P N ds ops Q X w0 n f listed tail ((d, .pointer (some ⟨b, 0, none⟩)) :: l) w') :
    WU P N ds ops Q X w0 n f listed tail ⟨some d, .alloc t, ty, pos, af, g⟩ l w := by
  obtain ⟨_, _, _, hz⟩ := hS.out
  cases hi : P.info? t with
  | none => simp [hi] at hz
  | some i =>
    simp only [hi, Option.bind_some] at hz
    have hk := Kept.alloc w (.cells z.toArray t (0, 0))
    have hm' := hm.add (x := .obj w.heap.size (.cells z.toArray t (0, 0))) hk (heap_alloc_new w _) (fun b hb => by simp only [HItem.blk, Option.some.injEq] at hb; omega)
    refine wu_value (w' := w.alloc (.cells z.toArray t (0, 0))) (v := .pointer (some ⟨w.heap.size, 0, none⟩)) rfl hw hN (fun a ha => ?_) hm'.kept (k _ _ hm')
    simp [execOp, Instr.alloc, newVar, newRow, newObj, zeroValue, typeInfo, hi, hz, Value.cells]; rfl
/-- a walk holds here. -/
structure WHold (p : Prop) : Prop where
  out : p
theorem wc_hold (id : Nat) {dr : Bool} (h : WHold (WC P N ds (.region id ops dr) Q l w)) : WC P N ds (.region id ops dr) Q l w := h.out
/-- such a region, cut at its end: the ways through it meet. -/
theorem wc_midF {α : Type} (id : Nat) (L : α → Log) (J : α → World → Prop)
    (h : WC P N ds (.region id os.toArray true) (Exit.then (fun a w => ∃ x, Fits N ds (L x) a ∧ J x w) Q) l w) (k : ∀ x w, J x w → At N ds Q .normal (L x) w) : WC P N ds (.region id os.toArray true) Q l w :=
  ⟨fun a ha => wp_mono (h.run a ha) (fun e a w q => by
    cases e <;> first | exact q | (obtain ⟨x, hx, hj⟩ := q; exact (k x w hj).run a hx))⟩
theorem iw_indexAddr {e : TypeId} {sz by_ : Nat} {KV : Act → Prop} [TySlice P t e] [Elem P e sz by_] {a : Option Addr} {m cp : Nat} {i : Int} {xs : List Value} (hw : want ops l ⟨some d, .indexAddr t x y, ty, pos, af, g⟩ = some true) (hN : Nat.blt d N = true)
    (hx : ev l x = some (.slice a m cp)) (hy : ev l y = some (.int .i64 i)) (hr : RowI I e sz (.slice a m cp) m xs) (h0 : 0 ≤ i) (h1 : i < m)
    (k : ∀ b off, PtrI I b off e ((xs.drop (i.toNat * sz)).take sz) → WV P N ds ops X w KV os ((d, .pointer (some ⟨b, off, none⟩)) :: l)) :
    WV P N ds ops X w KV (⟨some d, .indexAddr t x y, ty, pos, af, g⟩ :: os) l := by
  obtain ⟨b, off, rfl, hp⟩ := hr.at_ i.toNat (by omega)
  exact v_indexAddr hw hN hx hy h0 h1 (k b _ hp)
theorem mu_storeAll {i b n' by_ : Nat} [Elem P t n' by_] {c vs : List Value} {e : TypeId} {dst : Option Nat} {I0 : Imm} (hm : Mem ⟨w0, X, I0⟩ I H w) (hd : dst = none) (hw : want ops l ⟨dst, .store t x y, ty, pos, af, g⟩ = some true)
    (hx : ev l x = some (.pointer (some ⟨b, 0, none⟩))) (hy : ev l y = some (.agg vs.toArray)) (hb : H[i]? = some (.obj b (.cells c.toArray e (0, 0)))) (hn : vs.length = n') (ho : c.length = n')
    (h1 : vs.all (·.oneCell') = true)
    (k : ∀ w', Mem ⟨w0, X, I0⟩ I (H.set i (.obj b (.cells vs.toArray e (0, 0)))) w' → WA P N ds ops Q X w0 n f listed tail l w') :
    WU P N ds ops Q X w0 n f listed tail ⟨dst, .store t x y, ty, pos, af, g⟩ l w := by
  subst hd
  have hget := hm.get hb
  have h2 := run_storeVar (P := P) (t := t) (off := 0) (.agg vs.toArray) hget (by simpa [Value.cells] using hn) (by simp [ho]) (by simpa [Value.cells] using h1)
  generalize hc' : (c.toArray.toList.take 0 ++ (Value.agg vs.toArray).cells.toList ++ c.toArray.toList.drop (0 + n')).toArray = c' at h2
  have e0 : c' = vs.toArray := by
    rw [← hc', Nat.zero_add, ← ho]
    simp [Value.cells]
  rw [e0] at h2
  have hk : Kept [b] w (w.setRow b vs.toArray) := Kept.setRow hget _
  have hm' := hm.turn (h' := .obj b (.cells vs.toArray e (0, 0))) hb (by simpa [HItem.blk] using hk) (by
    show (w.setRow b vs.toArray).heap[b]? = _
    rw [setRow_heap w b c.toArray _ e (0, 0) hget]) (.inl rfl)
  refine wu_skip rfl hw (fun a ha => ?_) hm'.kept (k _ hm')
  simp only [execOp, Instr.storeAt, Instr.sureAddr, ha.ev hx, ha.ev hy, Sem.run_bind, Sem.run_pure, Result.andThen, h2]
end
end Go.Fw
end
section
namespace Go.Fw
open Go
section
variable {P : Program} {N : Nat} {ds : List Deferred} {Q : Exit → Act → World → Prop} {l : Log} {w : World} {ops : Array Oper} {os : List Oper}
variable {d : Nat} {ty : TypeId} {pos : String} {af : Array Edge} {g : Option (Nat × Bool)} {t : TypeId} {x y : Operand} {E : Ent} {I : Imm} {H : List HItem}
end
end Go.Fw
end
section
namespace Go.Fw
open Go
theorem RowI.take {I : Imm} {e sz n m cp : Nat} {a : Option Addr} {xs : List Value} (h : RowI I e sz (.slice a n cp) n xs) (hmn : m ≤ n) : RowI I e sz (.slice a m cp) m (xs.take (m * sz)) := by
  obtain ⟨h0, a', cap, h1, h2, h3⟩ := h
  obtain ⟨rfl, _, rfl⟩ := Value.slice.inj h1
  have hle : m * sz ≤ n * sz := Nat.mul_le_mul_right _ hmn
  refine ⟨by rw [List.length_take]; omega, a, cp, rfl, by omega, fun hm => ?_⟩
  obtain ⟨b, off, c, fr, e1, e2, e3⟩ := h3 (by omega)
  refine ⟨b, off, c, fr, e1, e2, fun j u hj => e3 j u ?_⟩
  rw [List.getElem?_take] at hj
  split at hj
  · exact hj
  · cases hj
section
variable {P : Program} {N : Nat} {ds : List Deferred} {Q : Exit → Act → World → Prop} {l : Log} {w : World} {ops : Array Oper} {os : List Oper}
variable {d : Nat} {ty : TypeId} {pos : String} {af : Array Edge} {g : Option (Nat × Bool)} {t : TypeId} {x y : Operand} {E : Ent} {I : Imm} {H : List HItem}
end
end Go.Fw
end
section
namespace Go.Fw
open Go
theorem RowI.drop {I : Imm} {e sz n m cp b off : Nat} {xs : List Value} (h : RowI I e sz (.slice (some ⟨b, off, none⟩) n cp) n xs) (hmn : m ≤ n) : RowI I e sz (.slice (some ⟨b, off + m * sz, none⟩) (n - m) (cp - m)) (n - m) (xs.drop (m * sz)) := by
  obtain ⟨h0, a', cap, h1, h2, h3⟩ := h
  obtain ⟨rfl, _, rfl⟩ := Value.slice.inj h1
  refine ⟨by rw [List.length_drop, h0, Nat.sub_mul], _, _, rfl, by omega, fun hm => ?_⟩
  obtain ⟨b', off', c, fr, e1, e2, e3⟩ := h3 (by omega)
  injection e1 with e1
  injection e1 with e4 e5 _
  subst e4; subst e5
  refine ⟨b, off + m * sz, c, fr, rfl, e2, fun j u hj => ?_⟩
  rw [List.getElem?_drop] at hj
  rw [Nat.add_assoc]; exact e3 _ _ hj
theorem RowI.addr {I : Imm} {e sz n cp : Nat} {a : Option Addr} {xs : List Value} (h : RowI I e sz (.slice a n cp) n xs) (hn : 0 < n) : ∃ b off, a = some ⟨b, off, none⟩ := by
  obtain ⟨h0, a', cap, h1, h2, h3⟩ := h
  obtain ⟨rfl, _, rfl⟩ := Value.slice.inj h1
  obtain ⟨b, off, c, fr, e1, _⟩ := h3 hn
  exact ⟨b, off, e1⟩
section
variable {P : Program} {N : Nat} {ds : List Deferred} {Q : Exit → Act → World → Prop} {l : Log} {w : World} {ops : Array Oper} {os : List Oper}
variable {d : Nat} {ty : TypeId} {pos : String} {af : Array Edge} {g : Option (Nat × Bool)} {t t' : TypeId} {x y z : Operand} {E : Ent} {I : Imm} {H : List HItem} {K : Act → World → Prop}
theorem iq_sliceFT {e : TypeId} {sz by_ : Nat} [TySlice P t e] [Elem P e sz by_] {n p q cp b off : Nat} {xs : List Value} (hr : RowI I e sz (.slice (some ⟨b, off, none⟩) n cp) n xs)
    (hw : want ops l ⟨some d, .slice t x (some y) (some z) none, ty, pos, af, g⟩ = some true) (hN : Nat.blt d N = true)
    (hx : ev l x = some (.slice (some ⟨b, off, none⟩) n cp)) (hy : ev l y = some (.int .i64 (p : Int))) (hz : ev l z = some (.int .i64 (q : Int))) (hpq : p ≤ q) (hqn : q ≤ n)
    (k : ∀ o', RowI I e sz (.slice (some ⟨b, o', none⟩) (q - p) (cp - p)) (q - p) ((xs.drop (p * sz)).take ((q - p) * sz)) → WQ P N ds ops w K os ((d, .slice (some ⟨b, o', none⟩) (q - p) (cp - p)) :: l)) :
    WQ P N ds ops w K (⟨some d, .slice t x (some y) (some z) none, ty, pos, af, g⟩ :: os) l := by
  have h2 : n ≤ cp := by
    obtain ⟨_, a', cap, h1, h2, _⟩ := hr
    obtain ⟨_, _, rfl⟩ := Value.slice.inj h1
    exact h2
  have hr2 : RowI I e sz (.slice (some ⟨b, if cp = p then off else off + p * sz, none⟩) (q - p) (cp - p)) (q - p) ((xs.drop (p * sz)).take ((q - p) * sz)) := by
    split
    · rename_i hc
      obtain rfl : q = p := by omega
      rw [Nat.sub_self, Nat.zero_mul, List.take_zero]
      exact ⟨by simp, _, _, rfl, Nat.zero_le _, fun h => by omega⟩
    · exact (hr.drop (by omega)).take (by omega)
  refine wq_value (v := .slice (some ⟨b, if cp = p then off else off + p * sz, none⟩) (q - p) (cp - p)) rfl hw hN (fun w' hkq c hc => ?_) (k _ hr2)
  obtain ⟨inf, zz, hinf, _, hs, _, _, _⟩ := Elem.out (P := P) (e := e)
  have h6 := run_underlying (P := P) (w := w') (TySlice.out (P := P) (t := t))
  have h7 : p ≤ cp := by omega
  have h8 : q ≤ cp := by omega
  simp [execOp, Instr.sliceAt, Instr.slice, Instr.sliceBounds, Instr.sliceBound, hc.ev hx, hc.ev hy, hc.ev hz, h6, asIntOf, h7, h8, hpq, sizeOf, typeInfo, hinf, hs, Addr.add]
  split
  · rfl
  · split
    · rename_i h9
      have : p = 0 ∨ sz = 0 := Nat.mul_eq_zero.1 h9
      rcases this with h | h <;> simp [h]
    · rfl
theorem iq_bytesStr {e : TypeId} [TySlice P t e] [TyInt P e .u8] [TyStr P t'] {b off n cp : Nat} {s : List UInt8} (hm : Mem E I H w)
    (hw : want ops l ⟨some d, .convert t t' x, ty, pos, af, g⟩ = some true) (hN : Nat.blt d N = true)
    (hx : ev l x = some (.slice (some ⟨b, off, none⟩) n cp)) (hr : RowI I e 1 (.slice (some ⟨b, off, none⟩) n cp) n (s.map byteV)) (hl : s.length = n)
    (k : WQ P N ds ops w K os ((d, str s) :: l)) : WQ P N ds ops w K (⟨some d, .convert t t' x, ty, pos, af, g⟩ :: os) l :=
  wq_value rfl hw hN (fun w' hkq a ha => by
    have h1 := run_underlying (P := P) (w := w') (TySlice.out (P := P) (t := t))
    have h2 := run_underlying (P := P) (w := w') (TyStr.out (P := P) (t := t'))
    have h3 := run_underlying (P := P) (w := w') (TyInt.out (P := P) (t := e))
    have h4 := run_loadCells_list (P := P) w' ⟨b, off, none⟩ (s.map byteV) (fun j z hj => by
      obtain ⟨h0, a', cap, q1, q2, q3⟩ := hr
      obtain ⟨rfl, _, rfl⟩ := Value.slice.inj q1
      have hlt := (List.getElem?_eq_some_iff.1 hj).1
      rw [List.length_map] at hlt
      obtain ⟨b', off', c, fr, e1, e2, e3⟩ := q3 (by omega)
      injection e1 with e1
      injection e1 with e4 e5 _
      subst e4; subst e5
      rw [Addr.add_lit]
      exact cell_of (hkq.get0 (hm.inv _ _ e2)) (e3 _ _ hj))
    have h5 := run_bytesToString (P := P) w' ⟨b, off, none⟩ n cp (s.map (fun c => (c.toNat : Int))) (by
      rw [← hl]
      have e1 : (s.map (fun c => (c.toNat : Int))).map (Value.int .u8) = s.map byteV := by simp [Function.comp_def]
      rw [e1, ← h4]; simp)
    have h6 : ∀ (u : List UInt8) (r : List UInt8), (u.map (fun c => (c.toNat : Int))).foldl (fun (r : ByteArray) n => r.push (UInt8.ofNat n.toNat)) ⟨r.toArray⟩ = ⟨(r ++ u).toArray⟩ := by
      intro u
      induction u with
      | nil => intro r; simp
      | cons a u ih =>
        intro r
        have := ih (r ++ [a])
        simp only [List.map_cons, List.foldl_cons, List.append_assoc, List.singleton_append] at this ⊢
        rw [← this]
        congr 1
        apply ByteArray.ext
        simp [ByteArray.push]
    have h7 := h6 s []
    simp only [List.nil_append] at h7
    have h8 : (ByteArray.empty) = ⟨([] : List UInt8).toArray⟩ := rfl
    rw [h8, h7] at h5
    simp only [execOp, ha.ev hx, run_convert_bytes_string (P := P) w' t t' e _ _ _ (TySlice.out (P := P) (t := t)) (TyInt.out (P := P) (t := e)) (TyStr.out (P := P) (t := t')), Sem.run_bind, h5]
    simp) k
end
end Go.Fw
end
section
namespace Go.Fw
open Go
section
variable {P : Program} {N : Nat} {ds : List Deferred} {Q : Exit → Act → World → Prop} {l : Log} {w : World} {ops : Array Oper} {os : List Oper}
variable {d : Nat} {ty : TypeId} {pos : String} {af : Array Edge} {g : Option (Nat × Bool)} {t t' : TypeId} {x y : Operand}
theorem op_if_held {te : TypeId} {pe : Value} {c : Value} (hw : want ops l ⟨some d, .binOp .neq t x (.const c) t', ty, pos, af, g⟩ = some true) (hN : Nat.blt d N = true)
    (hx : ev l x = some (.iface te pe)) (hc : c = .nilIface) (ht : P.underlying t = some (.interface (P.methodsAt t))) (k : WL P N ds ops Q os ((d, .bool true) :: l) w) :
    WL P N ds ops Q (⟨some d, .binOp .neq t x (.const c) t', ty, pos, af, g⟩ :: os) l w :=
  wl_value rfl hw hN (fun a ha => by
    subst hc
    have h := run_neq_held_nil (P := P) w t te pe ht
    have e2 : a.eval (.const .nilIface) = .nilIface := rfl
    simp [execOp, ha.ev hx, e2, eqGuard, h]) k
theorem op_if_none {c : Value} (hw : want ops l ⟨some d, .binOp .neq t x (.const c) t', ty, pos, af, g⟩ = some true) (hN : Nat.blt d N = true)
    (hx : ev l x = some .nilIface) (hc : c = .nilIface) (ht : P.underlying t = some (.interface (P.methodsAt t))) (k : WL P N ds ops Q os ((d, .bool false) :: l) w) :
    WL P N ds ops Q (⟨some d, .binOp .neq t x (.const c) t', ty, pos, af, g⟩ :: os) l w :=
  wl_value rfl hw hN (fun a ha => by
    subst hc
    have h := run_equal_nil_nil (P := P) w t ht
    have e2 : a.eval (.const .nilIface) = .nilIface := rfl
    simp [execOp, ha.ev hx, e2, eqGuard, binOp, h]) k
end
end Go.Fw
end
