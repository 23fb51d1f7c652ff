/- Own work: texts FwFork, SpecCnt, SpecAll, SpecRuns, SpecChange, SpecNames, one behind the other. -/
import Derived.Test.YthmdffgiockcbaaDoorIf18
section
namespace Go.Fw
open Go
section
variable {P : Program} {ops : Array Oper} {md : Region.Mode} {C : World → Prop}
/-- operation 'i' yields a value, or nothing. -/
def uOp (P : Program) (ops : Array Oper) (i : Nat) (K : Act → World → Prop) (a : Act) (w : World) : Prop :=
  match ops[i]? with
  | none => K a w
  | some o => if Region.wanted o (yielded ops a.tmps) then (∃ u w', (execOp a.eval o).run P w = .ok (.value u) w' ∧ K (a.put o.dst u) w') ∨
      (∃ f args, (execOp a.eval o).run P w = .ok (.enter f args) w ∧ Calls P f args w (fun e w' => ∃ u, e = .returned u ∧ K (a.put o.dst u) w')) ∨
      (∃ w', (execOp a.eval o).run P w = .ok .skip w' ∧ K (a.put o.dst undef) w') else K (a.put o.dst undef) w
theorem wpOp_of_uOp {Q : Exit → Act → World → Prop} {i : Nat} {K : Act → World → Prop} {a : Act} {w : World} (h : uOp P ops i K a w) : wpOp P ops Q i K a w := by
  unfold uOp at h
  unfold wpOp
  cases ho : ops[i]? with
  | none => simpa [ho] using h
  | some o =>
    simp only [ho] at h ⊢
    split
    · rename_i hw
      rw [if_pos hw] at h
      left
      rcases h with ⟨u, w', h1, h2⟩ | ⟨f, args, h1, h2⟩ | ⟨w', h1, h2⟩
      · unfold Oper.wp
        rw [h1, Oper.upon_value]
        exact h2
      · unfold Oper.wp
        rw [h1, Oper.upon_enter]
        exact Calls.mono h2 (fun e w' ⟨u, he, hk⟩ => by subst he; exact hk)
      · unfold Oper.wp
        rw [h1, Oper.upon_skip]
        exact h2
    · rename_i hw
      rw [if_neg hw] at h
      exact h
theorem uOp_mono {i : Nat} {K K' : Act → World → Prop} {a : Act} {w : World} (hk : ∀ a w, K a w → K' a w) (h : uOp P ops i K a w) : uOp P ops i K' a w := by
  unfold uOp at h ⊢
  cases ho : ops[i]? with
  | none => simp only [ho] at h ⊢; exact hk _ _ h
  | some o =>
    simp only [ho] at h ⊢
    split
    · rename_i hw
      rw [if_pos hw] at h
      rcases h with ⟨u, w', h1, h2⟩ | ⟨f, args, h1, h2⟩ | ⟨w', h1, h2⟩
      · exact .inl ⟨u, w', h1, hk _ _ h2⟩
      · exact .inr (.inl ⟨f, args, h1, Calls.mono h2 (fun e w' ⟨u, he, h⟩ => ⟨u, he, hk _ _ h⟩)⟩)
      · exact .inr (.inr ⟨w', h1, hk _ _ h2⟩)
    · rename_i hw
      rw [if_neg hw] at h
      exact hk _ _ h
theorem YieldsV.uOp {i : Nat} {o : Oper} {v : Value} {a : Act} {w : World} (hi : ops[i]? = some o) (hy : YieldsV P ops C o v a) (hC : C w) {K : Act → World → Prop} (h : K (a.put o.dst v) w) : uOp P ops i K a w := by
  unfold Fw.uOp
  simp only [hi]
  rcases hy with ⟨hw, hv⟩ | ⟨hw, rfl⟩
  · rw [if_pos hw]; exact .inl ⟨v, w, hv w hC, h⟩
  · rw [if_neg (by rw [hw]; simp)]; exact h
theorem uOp_put {j : Nat} {oi oj : Oper} {v : Value} (hj : ops[j]? = some oj) (hap : oi.apart ops oj = true)
    (hsi : ∀ cs b, oi.op ≠ .select cs b) (hsj : ∀ cs b, oj.op ≠ .select cs b) {K : Act → World → Prop} {a : Act} {w : World}
    (hy : YieldsV P ops C oi v a) (h : uOp P ops j K (a.put oi.dst v) w) :
    uOp P ops j (fun a' w' => YieldsV P ops C oi v a' ∧ K (a'.put oi.dst v) w') a w := by
  obtain ⟨h1, h2, h3⟩ := Oper.apart_spec hap
  have keep : ∀ (a : Act), YieldsV P ops C oi v a → ∀ u, YieldsV P ops C oi v (a.put oj.dst u) := fun a hy u => by
    unfold YieldsV at hy ⊢
    rw [execOp_put oi hsi a oj.dst u h3, wanted_put oi a oj.dst u h3]
    exact hy
  unfold uOp at *
  simp only [hj] at *
  rw [wanted_put oj a oi.dst v h1] at h
  split
  · rename_i hw
    rw [if_pos hw] at h
    rcases h with ⟨u, w', hu, hn⟩ | ⟨f, args, hu, hn⟩ | ⟨w', hu, hn⟩
    · rw [execOp_put oj hsj a oi.dst v h1] at hu
      exact .inl ⟨u, w', hu, keep a hy u, by rw [← Act.put_comm a v u h2]; exact hn⟩
    · rw [execOp_put oj hsj a oi.dst v h1] at hu
      exact .inr (.inl ⟨f, args, hu, Calls.mono hn (fun e w' ⟨u, he, h⟩ => ⟨u, he, keep a hy u, by rw [← Act.put_comm a v u h2]; exact h⟩)⟩)
    · rw [execOp_put oj hsj a oi.dst v h1] at hu
      exact .inr (.inr ⟨w', hu, keep a hy _, by rw [← Act.put_comm a v undef h2]; exact hn⟩)
  · rename_i hw
    rw [if_neg hw] at h
    exact ⟨keep a hy _, by rw [← Act.put_comm a v undef h2]; exact h⟩
/-- the first 'n', in any order; the class is kept. -/
def anyU (P : Program) (md : Region.Mode) (ops : Array Oper) (C : World → Prop) (n : Nat) (L : Array Bool → Act → World → Prop) : Nat → Array Bool → Act → World → Prop
  | 0, listed, a, w => L listed a w
  | f + 1, listed, a, w => Region.ready md ops listed ≠ [] ∧ ∀ i ∈ Region.ready md ops listed, i < n ∧ uOp P ops i (fun a' w' => C w' ∧ anyU P md ops C n L f (listed.setIfInBounds i true) a' w') a w
theorem any_of_u {n g : Nat} {L : Array Bool → Act → World → Prop} {Q' : Exit → Act → World → Prop} (hL : ∀ listed a w, L listed a w → wpAny P md ops Q' g listed a w) :
    ∀ (f : Nat) (listed : Array Bool) (a : Act) (w : World), anyU P md ops C n L f listed a w → wpAny P md ops Q' (f + g) listed a w
  | 0, listed, a, w, h => by rw [Nat.zero_add]; exact hL _ _ _ h
  | f + 1, listed, a, w, h => by
    rw [show f + 1 + g = (f + g) + 1 by omega]
    exact ⟨fun h0 => absurd h0 h.1, fun i hi => wpOp_of_uOp (uOp_mono (fun a' w' h' => any_of_u hL f _ a' w' h'.2) (h.2 i hi).2)⟩
theorem u_first {n i : Nat} {oi : Oper} {v : Value} {L : Array Bool → Act → World → Prop} (hi : ops[i]? = some oi) (hsel : ∀ (j : Nat) (o : Oper) cs b, ops[j]? = some o → o.op ≠ .select cs b)
    (hs : Region.sinkB md ops n = true) (hc : Region.chainB md ops n = true) (hn : n < ops.size) (hin : i < n)
    (hdone : ∀ listed a w, L listed a w → ∀ j ∈ Region.ready md ops listed, n ≤ j) :
    ∀ (f : Nat) (listed : Array Bool) (a : Act) (w : World), C w → HeadInv md ops n listed →
      (∀ j oj, ops[j]? = some oj → j ≠ i → listed.getD j true = false → (∀ e ∈ oj.after, Region.binds md e = true → e.on ≠ i) → oi.apart ops oj = true) →
      i ∈ Region.ready md ops listed → YieldsV P ops C oi v a →
      anyU P md ops C n L f (listed.setIfInBounds i true) (a.put oi.dst v) w → anyU P md ops C n L (f + 1) listed a w := by
  intro f
  induction f with
  | zero =>
    intro listed a w hC inv _ hr hy H
    have hun := (mem_ready.1 hr).1
    refine ⟨fun h => (by rw [h] at hr; cases hr), fun j hj => ?_⟩
    have hjn : j < n := by
      rcases Nat.lt_or_ge j n with h | h
      · exact h
      · exact absurd hj (tail_waits hs hc hn inv _ i rfl hin hun j h)
    refine ⟨hjn, ?_⟩
    by_cases hji : j = i
    · subst hji; exact hy.uOp hi hC ⟨hC, H⟩
    · have := hdone _ _ _ H j (ready_mono hj hji)
      omega
  | succ f ih =>
    intro listed a w hC inv hfree hr hy H
    have hun := (mem_ready.1 hr).1
    refine ⟨fun h => (by rw [h] at hr; cases hr), fun j hj => ?_⟩
    have hjn : j < n := by
      rcases Nat.lt_or_ge j n with h | h
      · exact h
      · exact absurd hj (tail_waits hs hc hn inv _ i rfl hin hun j h)
    refine ⟨hjn, ?_⟩
    by_cases hji : j = i
    · subst hji; exact hy.uOp hi hC ⟨hC, H⟩
    · have h1 := (H.2 j (ready_mono hj hji)).2
      obtain ⟨hjun, oj, hoj, hall⟩ := mem_ready.1 hj
      have hnot : ∀ e ∈ oj.after, Region.binds md e = true → e.on ≠ i := fun e he hb heq => by
        have h1 := hall e he hb
        rw [heq, getD_both hun] at h1
        cases h1
      have h2 := uOp_put hoj (hfree j oj hoj hji hjun hnot) (fun cs b => hsel i oi cs b hi) (fun cs b => hsel j oj cs b hoj) hy h1
      have hfree' : ∀ k ok, ops[k]? = some ok → k ≠ i → (listed.setIfInBounds j true).getD k true = false →
          (∀ e ∈ ok.after, Region.binds md e = true → e.on ≠ i) → oi.apart ops ok = true := fun k ok hk hki hun hno => by
        refine hfree k ok hk hki ?_ hno
        by_cases hjk : j = k
        · subst hjk; exact hjun
        · rw [getD_set_ne true hjk] at hun; exact hun
      refine uOp_mono (fun a' w' h3 => ⟨h3.2.1, ih (listed.setIfInBounds j true) a' w' h3.2.1 (inv.set hj hjn) hfree' (ready_mono hr (Ne.symm hji)) h3.1 ?_⟩) h2
      rw [Array.setIfInBounds_comm _ _ hji]
      exact h3.2.2

/-- the check of those that come first: each may, and none bears on it. -/
def lexQB (md : Region.Mode) (ops : Array Oper) (n : Nat) : List Nat → Array Bool → Bool
  | [], _ => true
  | k :: ks, listed => (Region.ready md ops listed).contains k && Region.free md ops listed k && decide (k < n) && lexQB md ops n ks (listed.setIfInBounds k true)
def listK : List Nat → Array Bool → Array Bool
  | [], l => l
  | k :: ks, l => listK ks (l.setIfInBounds k true)
theorem anyU_quiet {n g f : Nat} {Lq : Act → World → Prop} (hsel : Region.noSelect ops = true) (hs : Region.sinkB md ops n = true) (hc : Region.chainB md ops n = true) (hn : n < ops.size) :
    ∀ (ks : List Nat) (l : List Oper) (listed : Array Bool) (a : Act) (w : World), C w → ks.map (ops[·]?) = l.map some → HeadInv md ops n listed → lexQB md ops n ks listed = true →
    pureV P ops C (fun a' => anyU P md ops C n (fun listed' a' w' => Region.seqB md ops g n listed' = true ∧ Lq a' w') f (listK ks listed) a' w) l a →
    anyU P md ops C n (fun listed' a' w' => Region.seqB md ops g n listed' = true ∧ Lq a' w') (l.length + f) listed a w
  | [], [], listed, a, w, _, _, _, _, h => by rw [List.length_nil, Nat.zero_add]; exact h
  | k :: ks, o :: l, listed, a, w, hC, hl, inv, hB, h => by
    simp only [List.map_cons, List.cons.injEq] at hl
    obtain ⟨h0, hl'⟩ := hl
    simp only [lexQB, Bool.and_eq_true, decide_eq_true_eq] at hB
    obtain ⟨⟨⟨hr, hf⟩, hkn⟩, hB'⟩ := hB
    have hr' : k ∈ Region.ready md ops listed := by simpa using hr
    obtain ⟨v, hy, hK⟩ := h
    rw [show (o :: l).length + f = (l.length + f) + 1 by simp only [List.length_cons]; omega]
    exact u_first h0 (Region.noSelect_spec hsel) hs hc hn hkn (fun listed' a' w' hL => seqB_ready hL.1) (l.length + f) listed a w hC inv (Region.free_spec h0 hf) hr' hy
      (anyU_quiet hsel hs hc hn ks l _ _ w hC hl' (inv.set hr' hkn) hB' hK)
  | [], _ :: _, _, _, _, _, hl, _, _, _ => by simp at hl
  | _ :: _, [], _, _, _, _, hl, _, _, _ => by simp at hl
def forkOk (ops : Array Oper) (ks : List Nat) (n : Nat) : Bool :=
  Region.noSelect ops && decide (n < ops.size) && Region.sinkB .any ops n && Region.chainB .any ops n && lexQB .any ops n ks (Array.replicate ops.size false) && decide (ks.length ≤ n) && ks.all (fun k => Nat.blt k ops.size)
theorem wp_region_fork {id : Nat} {Q : Exit → Act → World → Prop} {a : Act} {w : World} {l : List Oper} (ks : List Nat) (n : Nat) (hm : P.follows .mixedOrders = true) (hB : forkOk l.toArray ks n = true)
    (hC : C { w with drawn := w.drawn + 1 })
    (h : pureV P l.toArray C (fun a' => anyU P .any l.toArray C n (fun listed' a' w' => Region.seqB .any l.toArray (l.length - n) n listed' = true ∧ wpList P l.toArray Q (l.drop n) a' w') (n - ks.length) (listK ks (Array.replicate l.length false)) a' { w with drawn := w.drawn + 1 }) (pickL l ks) a) :
    (Code.region id l.toArray true).wp P Q a w := by
  simp only [forkOk, Bool.and_eq_true, decide_eq_true_eq] at hB
  obtain ⟨⟨⟨⟨⟨⟨hsel, hn⟩, hs⟩, hc⟩, hlex⟩, hlen⟩, hks⟩ := hB
  have hn' : n < l.length := by simpa using hn
  have hdl : (l.drop n).length = l.length - n := by simp
  obtain ⟨k1, k2⟩ := pickL_map l ks (by simpa using hks)
  have inv0 : HeadInv .any l.toArray n (Array.replicate l.length false) :=
    ⟨by simp, fun j oj _ hl => (by rw [getD_replicate_false] at hl; cases hl), fun t _ ht => getD_in (by simpa using ht) (getD_replicate_false _ _)⟩
  have H := anyU_quiet (md := .any) (g := l.length - n) (f := n - ks.length) hsel hs hc hn ks (pickL l ks) _ a _ hC k1 inv0 (by simpa using hlex) h
  refine wp_region_any hm ?_
  have := any_of_u (Q' := Q) (g := l.length - n) (fun listed a' w' hL => by
    have := wpAny_of_seq (md := .any) (Q' := Q) (l.drop n) n listed a' w' (fun j => by simp [List.getElem?_drop]) (by rw [hdl]; exact hL.1) hL.2
    rwa [hdl] at this) _ _ _ _ H
  rw [k2, show ks.length + (n - ks.length) + (l.length - n) = l.length by omega] at this
  simpa using this
end
section
variable {P : Program} {N : Nat} {ds : List Deferred} {X : List Nat} {Q : Exit → Act → World → Prop} {l : Log} {w w' w0 : World} {os tail : List Oper} {ops : Array Oper} {E : Ent} {I : Imm} {G R H : List HItem} {o : Oper}
/-- what is still to come, in any order. -/
structure WA (P : Program) (N : Nat) (ds : List Deferred) (ops : Array Oper) (Q : Exit → Act → World → Prop) (X : List Nat) (w0 : World) (n f : Nat) (listed : Array Bool) (tail : List Oper) (l : Log) (w : World) : Prop where
  run : ∀ a, Fits N ds l a → anyU P .any ops (fun w' => Kept X w0 w') n (fun listed' a' w' => Region.seqB .any ops (ops.size - n) n listed' = true ∧ wpList P ops Q tail a' w') f listed a w
/-- one operation, now. -/
structure WU (P : Program) (N : Nat) (ds : List Deferred) (ops : Array Oper) (Q : Exit → Act → World → Prop) (X : List Nat) (w0 : World) (n f : Nat) (listed : Array Bool) (tail : List Oper) (o : Oper) (l : Log) (w : World) : Prop where
  run : ∀ a, Fits N ds l a → ∀ i, ops[i]? = some o → uOp P ops i (fun a' w' => Kept X w0 w' ∧ anyU P .any ops (fun w' => Kept X w0 w') n (fun listed' a' w' => Region.seqB .any ops (ops.size - n) n listed' = true ∧ wpList P ops Q tail a' w') f listed a' w') a w
theorem wc_fork_mem [Mixed P] {id : Nat} (hm : Mem E I (G ++ R) w) (ks : List Nat) (n : Nat) (hB : forkOk os.toArray ks n = true := by kernel_rfl)
    (h : ∀ wd, Mem E I (G ++ R) wd → Mem ⟨wd, blks G, I⟩ I G wd → WV P N ds os.toArray (blks G) wd (fun a' => anyU P .any os.toArray (fun w' => Kept (blks G) wd w') n (fun listed' a' w' => Region.seqB .any os.toArray (os.toArray.size - n) n listed' = true ∧ wpList P os.toArray Q (os.drop n) a' w') (n - ks.length) (listK ks (Array.replicate os.length false)) a' wd) (pickL os ks) l) :
    WC P N ds (.region id os.toArray true) Q l w :=
  ⟨fun a ha => wp_region_fork (C := fun w' => Kept (blks G) { w with drawn := w.drawn + 1 } w') ks n Mixed.out hB (Kept.refl _ _) ((h _ (hm.kept0 (Kept.drew w)) (hm.kept0 (Kept.drew w)).sub).run a ha)⟩
theorem wv_nilA {n f : Nat} {listed : Array Bool} (h : WA P N ds ops Q X w n f listed tail l w) :
    WV P N ds ops X w (fun a' => anyU P .any ops (fun w' => Kept X w w') n (fun listed' a' w' => Region.seqB .any ops (ops.size - n) n listed' = true ∧ wpList P ops Q tail a' w') f listed a' w) [] l := ⟨fun a ha => h.run a ha⟩
theorem wa_nil {n : Nat} {listed : Array Bool} (hs : Region.seqB .any ops (ops.size - n) n listed = true) (h : WL P N ds ops Q tail l w) : WA P N ds ops Q X w0 n 0 listed tail l w := ⟨fun a ha => ⟨hs, h.run a ha⟩⟩
theorem wa_one {n f i : Nat} {listed : Array Bool} (hr : Region.ready .any ops listed = [i]) (hi : ops[i]? = some o := by rfl) (hn : Nat.blt i n = true := by rfl)
    (h : WU P N ds ops Q X w0 n f (listed.setIfInBounds i true) tail o l w) : WA P N ds ops Q X w0 n (f + 1) listed tail l w :=
  ⟨fun a ha => ⟨by rw [hr]; simp, fun j hj => by
    rw [hr] at hj
    obtain rfl : j = i := by simpa using hj
    exact ⟨by simpa [Nat.blt_eq] using hn, h.run a ha j hi⟩⟩⟩
variable {d : Nat} {ty : TypeId} {pos : String} {af : Array Edge} {g : Option (Nat × Bool)} {t t' : TypeId} {x y z : Operand} {n f : Nat} {listed : Array Bool}
theorem wu_value {d : Nat} {v : Value} (hd : o.dst = some d) (hw : want ops l o = some true) (hN : Nat.blt d N = true) (hrun : ∀ a, Fits N ds l a → (execOp a.eval o).run P w = .ok (.value v) w') (hC : Kept X w0 w')
    (k : WA P N ds ops Q X w0 n f listed tail ((d, v) :: l) w') : WU P N ds ops Q X w0 n f listed tail o l w :=
  ⟨fun a ha i hi => by
    unfold uOp
    simp only [hi]
    rw [want_spec ha hw]
    exact .inl ⟨v, w', hrun a ha, hC, by rw [hd]; exact k.run _ (ha.put hN v)⟩⟩
theorem wu_skip (hd : o.dst = none) (hw : want ops l o = some true) (hrun : ∀ a, Fits N ds l a → (execOp a.eval o).run P w = .ok .skip w') (hC : Kept X w0 w')
    (k : WA P N ds ops Q X w0 n f listed tail l w') : WU P N ds ops Q X w0 n f listed tail o l w :=
  ⟨fun a ha i hi => by
    unfold uOp
    simp only [hi]
    rw [want_spec ha hw]
    exact .inr (.inr ⟨w', hrun a ha, hC, by rw [hd]; exact k.run _ ha⟩)⟩
/-- a walk holds here. -/
structure WHold (p : Prop) : Prop where
  out : p
theorem wc_hold (id : Nat) {dr : Bool} (h : WHold (WC P N ds (.region id ops dr) Q l w)) : WC P N ds (.region id ops dr) Q l w := h.out
theorem iw_indexAddr {e : TypeId} {sz by_ : Nat} {KV : Act → Prop} [TySlice P t e] [Elem P e sz by_] {a : Option Addr} {m cp : Nat} {i : Int} {xs : List Value} (hw : want ops l ⟨some d, .indexAddr t x y, ty, pos, af, g⟩ = some true := by rfl) (hN : Nat.blt d N = true := by rfl)
    (hx : ev l x = some (.slice a m cp) := by rfl) (hy : ev l y = some (.int .i64 i) := by rfl) (hr : RowI I e sz (.slice a m cp) m xs) (h0 : 0 ≤ i := by omega) (h1 : i < m := by omega)
    (k : ∀ b off, PtrI I b off e ((xs.drop (i.toNat * sz)).take sz) → WV P N ds ops X w KV os ((d, .pointer (some ⟨b, off, none⟩)) :: l)) :
    WV P N ds ops X w KV (⟨some d, .indexAddr t x y, ty, pos, af, g⟩ :: os) l := by
  obtain ⟨b, off, rfl, hp⟩ := hr.at_ i.toNat (by omega)
  exact v_indexAddr hw hN hx hy h0 h1 (k b _ hp)
end
theorem wc_cut_regH {P : Program} {N : Nat} {ds : List Deferred} {Q : Exit → Act → World → Prop} {l : Log} {w : World} (id : Nat) {ops : Array Oper} {dr : Bool} {x y : Code} {α : Type} (L : α → Log) (J : α → World → Prop)
    (h : WHold (WC P N ds (.seq (.region id ops dr) x) (Exit.then (fun a w => ∃ x, Fits N ds (L x) a ∧ J x w) Q) l w))
    (k : ∀ x w, J x w → WC P N ds y Q (L x) w) : WC P N ds (.seq (.seq (.region id ops dr) x) y) Q l w := wc_cut_reg id L J h.out k
end Go.Fw
end
section
namespace Go.Sp
mutual
def Ex.cnt : Ex → Nat
  | .mk _ _ _ args _ _ => exsCnt args + 1
def exsCnt : List Ex → Nat
  | [] => 0
  | e :: es => e.cnt + exsCnt es
 end
mutual
def Stm.cnt : Stm → Nat
  | .mk _ _ _ _ _ e thn els _ _ => e.cnt + stmsCnt thn + stmsCnt els + 1
def stmsCnt : List Stm → Nat
  | [] => 0
  | x :: xs => x.cnt + stmsCnt xs
 end
theorem exsCnt_app : ∀ (l r : List Ex), exsCnt (l ++ r) = exsCnt l + exsCnt r
  | [], r => by rw [exsCnt]; simp
  | e :: l, r => by rw [List.cons_append, exsCnt, exsCnt, exsCnt_app l r]; omega
theorem stmsCnt_app : ∀ (l r : List Stm), stmsCnt (l ++ r) = stmsCnt l + stmsCnt r
  | [], r => by rw [stmsCnt]; simp
  | e :: l, r => by rw [List.cons_append, stmsCnt, stmsCnt, stmsCnt_app l r]; omega
theorem exsCnt_one (e : Ex) : exsCnt [e] = e.cnt := by rw [exsCnt, exsCnt]; omega
theorem stmsCnt_one (e : Stm) : stmsCnt [e] = e.cnt := by rw [stmsCnt, stmsCnt]; omega
theorem leaf_cnt (k n f t : Nat) (nm : List UInt8) : (Ex.mk k nm n [] f t).cnt = 1 := by rw [Ex.cnt, exsCnt]
theorem need_le (T : Src) (s : St) (w : List UInt8) : s.i ≤ (s.need T w).2.i := (goes_need T s w).le
theorem cnt_expr (T : Src) : ∀ f, (∀ d s, (atom T f d s).1.cnt ≤ 2 * ((atom T f d s).2.i - s.i) + 1) ∧ (∀ d l s, exsCnt (argL T f d l s).1 ≤ exsCnt l + 2 * ((argL T f d l s).2.i - s.i) + 1) ∧
    (∀ d m s, (expr T f d m s).1.cnt ≤ 2 * ((expr T f d m s).2.i - s.i) + 1) ∧ (∀ d m e s, (opL T f d m e s).1.cnt ≤ e.cnt + 2 * ((opL T f d m e s).2.i - s.i))
  | 0 => ⟨fun _ _ => by rw [atom]; show (Ex.mk 0 [] 0 [] 0 0).cnt ≤ _; rw [leaf_cnt]; omega, fun _ _ _ => by rw [argL]; dsimp only; omega,
      fun _ _ _ => by rw [expr]; show (Ex.mk 0 [] 0 [] 0 0).cnt ≤ _; rw [leaf_cnt]; omega, fun _ _ _ _ => by rw [opL]; dsimp only; omega⟩
  | f + 1 => by
    obtain ⟨hA, hL, hE, hO⟩ := cnt_expr T f
    obtain ⟨gA, gL, gE, gO⟩ := goes_expr T f
    refine ⟨fun d s => ?_, fun d l s => ?_, fun d m s => ?_, fun d m e s => ?_⟩
    · rw [atom]
      dsimp only
      split
      · rw [none_]; dsimp only; rw [leaf_cnt]; omega
      · split
        · rw [none_]; dsimp only; rw [leaf_cnt]; omega
        · split
          · split
            · dsimp only; rw [leaf_cnt]; omega
            · dsimp only; rw [leaf_cnt]; omega
          · split
            · have h1 := hE (d + 1) 1 s.next
              have h2 := (gE (d + 1) 1 s.next).le
              have h3 := need_le T (expr T f (d + 1) 1 s.next).2 [41]
              rw [next_i] at h1 h2
              dsimp only
              omega
            · split
              · rw [none_]; dsimp only; rw [leaf_cnt]; omega
              · split
                · dsimp only; rw [leaf_cnt]; omega
                · have h1 := hL (d + 1) [] s.next.next
                  have h2 := (gL (d + 1) [] s.next.next).le
                  have h3 := need_le T (argL T f (d + 1) [] s.next.next).2 [41]
                  rw [next_i, next_i] at h1 h2
                  rw [exsCnt] at h1
                  dsimp only
                  rw [Ex.cnt]
                  omega
    · rw [argL]
      split
      · dsimp only; omega
      · split
        · dsimp only; omega
        · have h1 := hE d 1 s
          have h2 := (gE d 1 s).le
          try dsimp only
          split
          · have h3 := hL d (l ++ [(expr T f d 1 s).1]) (expr T f d 1 s).2.next
            have h4 := (gL d (l ++ [(expr T f d 1 s).1]) (expr T f d 1 s).2.next).le
            rw [next_i] at h3 h4
            rw [exsCnt_app, exsCnt_one] at h3
            omega
          · dsimp only
            rw [exsCnt_app, exsCnt_one]
            omega
    · rw [expr]
      try dsimp only
      have h1 := hA d s
      have h2 := (gA d s).le
      have h3 := hO d m (atom T f d s).1 (atom T f d s).2
      have h4 := (gO d m (atom T f d s).1 (atom T f d s).2).le
      omega
    · rw [opL]
      try dsimp only
      split
      · dsimp only; omega
      · have h1 := hE d (tight (T.tok s.i).text + 1) s.next
        have h2 := (gE d (tight (T.tok s.i).text + 1) s.next).le
        rw [next_i] at h1 h2
        generalize expr T f d (tight (T.tok s.i).text + 1) s.next = r at h1 h2 ⊢
        have h3 := hO d m (.mk 3 (T.tok s.i).text 0 [e, r.1] e.fr (max r.1.to e.to)) r.2
        have h4 := (gO d m (.mk 3 (T.tok s.i).text 0 [e, r.1] e.fr (max r.1.to e.to)) r.2).le
        rw [Ex.cnt, exsCnt, exsCnt_one] at h3
        omega
theorem cnt_block (T : Src) : ∀ f, (∀ d s, stmsCnt (block T f d s).1 ≤ 8 * ((block T f d s).2.i - s.i)) ∧ (∀ d l s, stmsCnt (stmL T f d l s).1 ≤ stmsCnt l + 8 * ((stmL T f d l s).2.i - s.i)) ∧
    (∀ d s, (stm T f d s).1.cnt ≤ 8 * max ((stm T f d s).2.i - s.i) 1)
  | 0 => ⟨fun _ _ => by rw [block]; dsimp only; rw [stmsCnt]; omega, fun _ _ _ => by rw [stmL]; dsimp only; omega,
      fun _ s => by rw [stm]; show (Stm.mk 0 [] 0 0 false (.mk 0 [] 0 [] 0 0) [] [] 0 0).cnt ≤ _; rw [Stm.cnt, leaf_cnt, stmsCnt]; omega⟩
  | f + 1 => by
    obtain ⟨hB, hL, hS⟩ := cnt_block T f
    obtain ⟨gB, gL, gS⟩ := goes_block T f
    have hE := (cnt_expr T f).2.2.1
    have gE := (goes_expr T f).2.2.1
    refine ⟨fun d s => ?_, fun d l s => ?_, fun d s => ?_⟩
    · rw [block]
      split
      · dsimp only; rw [stmsCnt]; omega
      · split
        · dsimp only; rw [stmsCnt]; omega
        · have h1 := hL (d + 1) [] s.next
          have h2 := (gL (d + 1) [] s.next).le
          have h3 := need_le T (stmL T f (d + 1) [] s.next).2 [125]
          rw [next_i] at h1 h2
          rw [stmsCnt] at h1
          try dsimp only
          omega
    · rw [stmL]
      split
      · dsimp only; omega
      · split
        · dsimp only; omega
        · have h1 := hS d s
          have h2 := (gS d s).le
          try dsimp only
          split
          · rename_i he
            have h3 := hL d (l ++ [(stm T f d s).1]) (stm T f d s).2.next
            have h4 := (gL d (l ++ [(stm T f d s).1]) (stm T f d s).2.next).le
            rw [next_i] at h3 h4
            rw [stmsCnt_app, stmsCnt_one] at h3
            omega
          · rename_i he
            have h3 := hL d (l ++ [(stm T f d s).1]) (stm T f d s).2
            have h4 := (gL d (l ++ [(stm T f d s).1]) (stm T f d s).2).le
            rw [stmsCnt_app, stmsCnt_one] at h3
            omega
    · rw [stm]
      dsimp only
      split
      · have h1 := (goes_named T s.next).le
        rw [next_i] at h1
        generalize s.next.named T = r at h1 ⊢
        generalize hr1 : (if (!T.is r.2.i [58]) = true then (0, r.2) else lab T r.2.next) = r1
        have h2 : r.2.i ≤ r1.2.i := by
          rw [← hr1]
          split
          · exact Nat.le_refl _
          · have := (goes_lab T r.2.next).le
            rw [next_i] at this
            omega
        have h3 := need_le T r1.2 [61]
        have h4 := hE d 1 (r1.2.need T [61]).2
        have h5 := (gE d 1 (r1.2.need T [61]).2).le
        have h6 := need_le T (expr T f d 1 (r1.2.need T [61]).2).2 [59]
        try dsimp only
        rw [Stm.cnt, stmsCnt]
        omega
      · split
        · have h1 := hE d 1 s.next
          have h2 := (gE d 1 s.next).le
          rw [next_i] at h1 h2
          generalize expr T f d 1 s.next = r at h1 h2 ⊢
          have h3 := hB d r.2
          have h4 := (gB d r.2).le
          generalize block T f d r.2 = r1 at h3 h4 ⊢
          split
          · have h5 := hB d r1.2.next
            have h6 := (gB d r1.2.next).le
            rw [next_i] at h5 h6
            dsimp only
            try dsimp only
            rw [Stm.cnt]
            omega
          · dsimp only
            try dsimp only
            rw [Stm.cnt, stmsCnt]
            omega
        · split
          · have h1 := hE d 1 s.next
            have h2 := (gE d 1 s.next).le
            rw [next_i] at h1 h2
            generalize expr T f d 1 s.next = r at h1 h2 ⊢
            have h3 := hB d r.2
            have h4 := (gB d r.2).le
            try dsimp only
            rw [Stm.cnt, stmsCnt]
            omega
          · split
            · have h1 := (goes_named T s.next).le
              rw [next_i] at h1
              generalize s.next.named T = r at h1 ⊢
              have h4 := hE d 1 r.2
              have h5 := (gE d 1 r.2).le
              have h6 := need_le T (expr T f d 1 r.2).2 [59]
              try dsimp only
              rw [Stm.cnt, stmsCnt]
              omega
            · split
              · have h4 := hE d 1 s.next
                have h5 := (gE d 1 s.next).le
                have h6 := need_le T (expr T f d 1 s.next).2 [59]
                rw [next_i] at h4 h5
                try dsimp only
                rw [Stm.cnt, stmsCnt]
                omega
              · split
                · split
                  · have h4 := hE d 1 s.next.next
                    have h5 := (gE d 1 s.next.next).le
                    have h6 := need_le T (expr T f d 1 s.next.next).2 [59]
                    rw [next_i, next_i] at h4 h5
                    try dsimp only
                    rw [Stm.cnt, stmsCnt]
                    omega
                  · have h4 := hE d 1 s
                    have h5 := (gE d 1 s).le
                    have h6 := need_le T (expr T f d 1 s).2 [59]
                    try dsimp only
                    rw [Stm.cnt, stmsCnt]
                    omega
                · rw [Stm.cnt, stmsCnt]
                  show (Ex.mk 0 [] 0 [] 0 0).cnt + 0 + 0 + 1 ≤ _
                  rw [leaf_cnt]
                  omega
theorem need_top {T : Src} {s : St} (w : List UInt8) (h : s.i ≤ T.l.length) : (s.need T w).2.i ≤ T.l.length := (goes_need T s w).top h
theorem item_cnt (src : List UInt8) (at_ : Int) : stmsCnt (item src at_).body ≤ 8 * src.length := by
  have htl : (tokens src).length ≤ src.length := toks_len src
  rw [item]
  generalize hT : (⟨tokens src, src.length⟩ : Src) = T
  have hTl : T.l.length ≤ src.length := by rw [← hT]; exact htl
  dsimp only
  split
  · rename_i hfn
    have h0 := is_lt hfn
    dsimp only [fnItm]
    have h1 := (goes_named T ⟨1, []⟩).top (show 1 ≤ _ by omega)
    generalize (⟨1, []⟩ : St).named T = r at h1 ⊢
    have h2 := need_top [40] h1
    generalize (r.2.need T [40]).2 = s1 at h2 ⊢
    have h3 := ((parL_few T 6 [] s1 (by simp)).2 h2).2.1
    generalize parL T 6 [] s1 = r2 at h3 ⊢
    have h4 := need_top [41] h3
    generalize (r2.2.need T [41]).2 = s3 at h4 ⊢
    have h5 := need_top [58] h4
    generalize (s3.need T [58]).2 = s4 at h5 ⊢
    have h6 := (goes_lab T s4).top h5
    generalize lab T s4 = r5 at h6 ⊢
    generalize hr6 : (if T.is r5.2.i [115, 101, 110, 100, 115] = true then sndL T 6 [] r5.2.next else ([], r5.2)) = r6
    have h7 : r6.2.i ≤ T.l.length := by
      rw [← hr6]
      split
      · rename_i hs
        have := is_lt hs
        exact ((sndL_few T 6 [] r5.2.next (by simp)).2 (by rw [next_i]; omega)).2.1
      · exact h6
    have h8 := (cnt_block T (fuel T)).1 0 r6.2
    have h9 := ((goes_block T (fuel T)).1 0 r6.2).top h7
    omega
  · split
    · dsimp only [chItm]
      rw [stmsCnt]; omega
    · dsimp only
      rw [stmsCnt]; omega
end Go.Sp
end
section
namespace Go.Sp
abbrev PE := Nat → List UInt8 → Nat → Nat → Nat → Nat → Prop
abbrev PS := Nat → List UInt8 → Nat → Nat → Bool → Nat → Nat → Prop
mutual
def Ex.all (p : PE) : Ex → Prop
  | .mk k nm n args f t => p k nm n args.length f t ∧ exsAll p args
def exsAll (p : PE) : List Ex → Prop
  | [] => True
  | e :: es => e.all p ∧ exsAll p es
 end
mutual
def Stm.all (p : PE) (q : PS) : Stm → Prop
  | .mk k nm a lb o e thn els f t => q k nm a lb o f t ∧ e.all p ∧ stmsAll p q thn ∧ stmsAll p q els
def stmsAll (p : PE) (q : PS) : List Stm → Prop
  | [] => True
  | x :: xs => x.all p q ∧ stmsAll p q xs
 end
theorem exsAll_app {p : PE} : ∀ {l r : List Ex}, exsAll p l → exsAll p r → exsAll p (l ++ r)
  | [], r, _, h => h
  | e :: l, r, h, g => by
    rw [exsAll] at h
    rw [List.cons_append, exsAll]
    exact ⟨h.1, exsAll_app h.2 g⟩
theorem exsAll_one {p : PE} {e : Ex} (h : e.all p) : exsAll p [e] := by rw [exsAll, exsAll]; exact ⟨h, trivial⟩
theorem exsAll_nil {p : PE} : exsAll p [] := by rw [exsAll]; trivial
theorem stmsAll_nil {p : PE} {q : PS} : stmsAll p q [] := by rw [stmsAll]; trivial
theorem stmsAll_app {p : PE} {q : PS} : ∀ {l r : List Stm}, stmsAll p q l → stmsAll p q r → stmsAll p q (l ++ r)
  | [], r, _, h => h
  | e :: l, r, h, g => by
    rw [stmsAll] at h
    rw [List.cons_append, stmsAll]
    exact ⟨h.1, stmsAll_app h.2 g⟩
theorem stmsAll_one {p : PE} {q : PS} {e : Stm} (h : e.all p q) : stmsAll p q [e] := by rw [stmsAll, stmsAll]; exact ⟨h, trivial⟩
theorem stmsAll_get {p : PE} {q : PS} : ∀ {l : List Stm} {i : Nat} {e : Stm}, stmsAll p q l → l[i]? = some e → e.all p q
  | [], _, _, _, h => by simp at h
  | a :: l, 0, e, h, hg => by
    rw [stmsAll] at h
    simp only [List.getElem?_cons_zero, Option.some.injEq] at hg
    subst hg; exact h.1
  | a :: l, i + 1, e, h, hg => by
    rw [stmsAll] at h
    rw [List.getElem?_cons_succ] at hg
    exact stmsAll_get h.2 hg
theorem all_leaf {p : PE} {k n f t : Nat} {nm : List UInt8} (h : p k nm n 0 f t) : (Ex.mk k nm n [] f t).all p := by rw [Ex.all]; exact ⟨h, exsAll_nil⟩
theorem Ex.all_node {p : PE} {e : Ex} (h : e.all p) : p e.kind e.name e.n e.args.length e.fr e.to ∧ exsAll p e.args := by
  cases e; rw [Ex.all] at h; exact h
theorem Stm.all_node {p : PE} {q : PS} {e : Stm} (h : e.all p q) : q e.kind e.name e.at_ e.label e.opn e.fr e.to ∧ e.e.all p ∧ stmsAll p q e.thn ∧ stmsAll p q e.els := by
  cases e; rw [Stm.all] at h; exact h
/-- what is asked of expressions that are read. -/
structure AtE (T : Src) (p : PE) : Prop where
  zero : p 0 [] 0 0 0 0
  bad : ∀ i, p 5 [] 0 0 (T.tok i).pos (T.tok i).pos
  num : ∀ i n, n ≤ 1000000000 → (T.tok i).kind = 2 → p 1 [] n 0 (T.tok i).pos ((T.tok i).pos + (T.tok i).text.length)
  var : ∀ i, name (T.tok i).text = true → p 2 (T.tok i).text 0 0 (T.tok i).pos ((T.tok i).pos + (T.tok i).text.length)
  call : ∀ i j m, name (T.tok i).text = true → m ≤ 5 → p 4 (T.tok i).text 0 m (T.tok i).pos (T.endOf j)
  op : ∀ i k1 n1 v1 m1 f1 t1 k2 n2 v2 m2 f2 t2, tight (T.tok i).text ≠ 0 → p k1 n1 v1 m1 f1 t1 → p k2 n2 v2 m2 f2 t2 → p 3 (T.tok i).text 0 2 f1 (max t2 t1)
theorem all_expr {T : Src} {p : PE} (h : AtE T p) : ∀ f, (∀ d s, (atom T f d s).1.all p) ∧ (∀ d l s, l.length ≤ 5 → exsAll p l → (argL T f d l s).1.length ≤ 5 ∧ exsAll p (argL T f d l s).1) ∧
    (∀ d m s, (expr T f d m s).1.all p) ∧ (∀ d m e s, e.all p → (opL T f d m e s).1.all p)
  | 0 => ⟨fun _ _ => by rw [atom]; exact all_leaf h.zero, fun _ _ _ h1 h2 => by rw [argL]; exact ⟨h1, h2⟩, fun _ _ _ => by rw [expr]; exact all_leaf h.zero, fun _ _ _ _ h1 => by rw [opL]; exact h1⟩
  | f + 1 => by
    obtain ⟨hA, hL, hE, hO⟩ := all_expr h f
    refine ⟨fun d s => ?_, fun d l s h1 h2 => ?_, fun d m s => ?_, fun d m e s h1 => ?_⟩
    · rw [atom]
      dsimp only
      split
      · exact all_leaf (h.bad _)
      · split
        · exact all_leaf (h.bad _)
        · split
          · rename_i hk
            split
            · exact all_leaf (h.num _ 0 (by omega) hk)
            · exact all_leaf (h.num _ _ (by omega) hk)
          · split
            · exact hE _ _ _
            · split
              · exact all_leaf (h.bad _)
              · rename_i hn
                have hn' : name (T.tok s.i).text = true := by simpa using hn
                split
                · exact all_leaf (h.var _ hn')
                · obtain ⟨h1, h2⟩ := hL (d + 1) [] s.next.next (by simp) exsAll_nil
                  dsimp only
                  rw [Ex.all]
                  exact ⟨h.call _ _ _ hn' h1, h2⟩
    · rw [argL]
      split
      · exact ⟨h1, h2⟩
      · split
        · exact ⟨h1, h2⟩
        · have h3 := hE d 1 s
          have h4 : (l ++ [(expr T f d 1 s).1]).length ≤ 5 := by simp; omega
          have h5 := exsAll_app h2 (exsAll_one h3)
          dsimp only
          split
          · exact hL _ _ _ h4 h5
          · exact ⟨h4, h5⟩
    · rw [expr]
      try dsimp only
      exact hO _ _ _ _ (hA d s)
    · rw [opL]
      try dsimp only
      split
      · exact h1
      · rename_i ht
        refine hO _ _ _ _ ?_
        have h3 := hE d (tight (T.tok s.i).text + 1) s.next
        generalize (expr T f d (tight (T.tok s.i).text + 1) s.next).1 = r at h3 ⊢
        cases e with
        | mk k1 n1 v1 a1 f1 t1 =>
        cases r with
        | mk k2 n2 v2 a2 f2 t2 =>
        have g1 := h1
        have g3 := h3
        rw [Ex.all] at g1 g3
        rw [Ex.all]
        exact ⟨h.op _ _ _ _ _ _ _ _ _ _ _ _ _ (by omega) g1.1 g3.1, exsAll_app (exsAll_one h1) (exsAll_one h3)⟩
/-- what is asked of statements that are read. -/
structure AtS (T : Src) (q : PS) : Prop where
  zero : q 0 [] 0 0 false 0 0
  let_ : ∀ i (s : St) lb o j, lb ≤ 255 → q 1 (s.named T).1 (T.tok s.i).pos lb o (T.tok i).pos (max (T.endOf j) (T.tok i).pos)
  set : ∀ i j, name (T.tok i).text = true → q 2 (T.tok i).text (T.tok i).pos 0 false (T.tok i).pos (max (T.endOf j) (T.tok i).pos)
  plain : ∀ k i j, (k = 3 ∨ k = 4 ∨ k = 6 ∨ k = 7 ∨ k = 8) → q k [] 0 0 false (T.tok i).pos (max (T.endOf j) (T.tok i).pos)
  send : ∀ i (s : St) j, q 5 (s.named T).1 (T.tok s.i).pos 0 false (T.tok i).pos (max (T.endOf j) (T.tok i).pos)
theorem tag_lt (a : Nat) (ha : a < 256) (q : Nat) (hq : q < 8) (h : bit a q = false) : a + 2 ^ q < 256 := by
  have key : ∀ a < 256, ∀ q < 8, bit a q = false → a + 2 ^ q < 256 := by decide +kernel
  exact key a ha q hq h
theorem labL_lt (T : Src) : ∀ (f n : Nat) (s : St), n < 256 → (labL T f n s).1 < 256
  | 0, n, s, h => h
  | f + 1, n, s, h => by
    rw [labL]
    split
    · exact h
    · dsimp only
      split
      · exact h
      · rename_i h2
        generalize hqd : ((T.tok s.i).text.getD 0 0).toNat - 97 = q
        have hq : q < 8 := by
          simp only [tagB, Bool.not_eq_true, Bool.not_eq_false', Bool.and_eq_true, decide_eq_true_eq] at h2
          omega
        cases hb : bit n q with
        | true =>
          simp only [if_true]
          split
          · exact labL_lt T f _ _ h
          · split
            · exact labL_lt T f _ _ h
            · exact h
        | false =>
          have hn := tag_lt n h q hq hb
          simp only [Bool.false_eq_true, if_false]
          split
          · exact labL_lt T f _ _ hn
          · split
            · exact labL_lt T f _ _ hn
            · exact hn
theorem lab_lt (T : Src) (s : St) : (lab T s).1 < 256 := by
  rw [lab]
  split
  · exact labL_lt T _ _ _ (by decide)
  · dsimp only; omega
theorem all_block {T : Src} {p : PE} {q : PS} (h : AtE T p) (g : AtS T q) : ∀ f, (∀ d s, stmsAll p q (block T f d s).1) ∧ (∀ d l s, stmsAll p q l → stmsAll p q (stmL T f d l s).1) ∧ (∀ d s, (stm T f d s).1.all p q)
  | 0 => ⟨fun _ _ => by rw [block]; exact stmsAll_nil, fun _ _ _ h1 => by rw [stmL]; exact h1, fun _ s => by
      rw [stm]
      show (Stm.mk 0 [] 0 0 false (.mk 0 [] 0 [] 0 0) [] [] 0 0).all p q
      rw [Stm.all]; exact ⟨g.zero, all_leaf h.zero, stmsAll_nil, stmsAll_nil⟩⟩
  | f + 1 => by
    obtain ⟨hB, hL, hS⟩ := all_block h g f
    have hE := (all_expr h f).2.2.1
    refine ⟨fun d s => ?_, fun d l s h1 => ?_, fun d s => ?_⟩
    · rw [block]
      split
      · exact stmsAll_nil
      · split
        · exact stmsAll_nil
        · dsimp only
          exact hL _ _ _ stmsAll_nil
    · rw [stmL]
      split
      · exact h1
      · split
        · exact h1
        · dsimp only
          exact hL _ _ _ (stmsAll_app h1 (stmsAll_one (hS d s)))
    · rw [stm]
      dsimp only
      split
      · rw [Stm.all]
        refine ⟨g.let_ s.i s.next _ _ _ ?_, hE _ _ _, stmsAll_nil, stmsAll_nil⟩
        split
        · dsimp only; omega
        · exact Nat.le_of_lt_succ (lab_lt T _)
      · split
        · split
          · dsimp only; rw [Stm.all]; exact ⟨g.plain _ _ _ (.inl rfl), hE _ _ _, hB _ _, hB _ _⟩
          · dsimp only; rw [Stm.all]; exact ⟨g.plain _ _ _ (.inl rfl), hE _ _ _, hB _ _, stmsAll_nil⟩
        · split
          · rw [Stm.all]; exact ⟨g.plain _ _ _ (.inr (.inl rfl)), hE _ _ _, hB _ _, stmsAll_nil⟩
          · split
            · rw [Stm.all]; exact ⟨g.send s.i s.next _, hE _ _ _, stmsAll_nil, stmsAll_nil⟩
            · split
              · rw [Stm.all]; exact ⟨g.plain _ _ _ (.inr (.inr (.inl rfl))), hE _ _ _, stmsAll_nil, stmsAll_nil⟩
              · split
                · rename_i hn
                  split
                  · rw [Stm.all]; exact ⟨g.set _ _ hn, hE _ _ _, stmsAll_nil, stmsAll_nil⟩
                  · rw [Stm.all]; exact ⟨g.plain _ _ _ (.inr (.inr (.inr (.inl rfl)))), hE _ _ _, stmsAll_nil, stmsAll_nil⟩
                · rw [Stm.all]
                  refine ⟨g.plain _ _ _ (.inr (.inr (.inr (.inr rfl)))), ?_, stmsAll_nil, stmsAll_nil⟩
                  exact all_leaf h.zero
/-- parameters, and names, that are read. -/
theorem all_parL {T : Src} {r : Par → Prop} (h : ∀ (s : St) lb, lb ≤ 255 → r ⟨(s.named T).1, lb, (T.tok s.i).pos⟩) : ∀ (f : Nat) (l : List Par) (s : St), (∀ x ∈ l, r x) → ∀ x ∈ (parL T f l s).1, r x
  | 0, l, s, h1 => by rw [parL]; exact h1
  | f + 1, l, s, h1 => by
    rw [parL]
    split
    · exact h1
    · split
      · exact h1
      · dsimp only
        split
        · exact h1
        · have h2 : ∀ lb, lb ≤ 255 → ∀ x ∈ l ++ [⟨(s.named T).1, lb, (T.tok s.i).pos⟩], r x := fun lb hl x hx => by
            rcases List.mem_append.1 hx with hx | hx
            · exact h1 x hx
            · obtain rfl := List.mem_singleton.1 hx
              exact h s lb hl
          have h3 := fun s => Nat.le_of_lt_succ (lab_lt T s)
          split
          · exact all_parL h f _ _ (h2 _ (h3 _))
          · exact h2 _ (h3 _)
theorem all_sndL {T : Src} {r : Rf → Prop} (h : ∀ (s : St), r ⟨(s.named T).1, (T.tok s.i).pos⟩) : ∀ (f : Nat) (l : List Rf) (s : St), (∀ x ∈ l, r x) → ∀ x ∈ (sndL T f l s).1, r x
  | 0, l, s, h1 => by rw [sndL]; exact h1
  | f + 1, l, s, h1 => by
    rw [sndL]
    split
    · exact h1
    · dsimp only
      have h2 : ∀ x ∈ l ++ [⟨(s.named T).1, (T.tok s.i).pos⟩], r x := fun x hx => by
        rcases List.mem_append.1 hx with hx | hx
        · exact h1 x hx
        · obtain rfl := List.mem_singleton.1 hx
          exact h s
      split
      · exact all_sndL h f _ _ h2
      · exact h2
/-- what is asked of an item that is read. -/
structure ItAll (T : Src) (p : PE) (q : PS) (r : Par → Prop) (t : Rf → Prop) (it : Itm) : Prop where
  body : stmsAll p q it.body
  params : ∀ x ∈ it.params, r x
  sends : ∀ x ∈ it.sends, t x
  few : it.params.length ≤ 5 ∧ it.sends.length ≤ 5 ∧ it.body.length ≤ 40
  label : it.label ≤ 255
  kind : 1 ≤ it.kind ∧ it.kind ≤ 3
  mark : (it.name = [] ∧ ((∃ i, it.mark = (T.tok i).pos) ∨ it.mark = 0)) ∨ ∃ s : St, it.name = (s.named T).1 ∧ it.mark = (T.tok s.i).pos
  bad : it.kind = 3 → it.name = [] ∧ it.label = 0 ∧ it.params = [] ∧ it.sends = [] ∧ it.body = []
  chan : it.kind = 1 → it.params = [] ∧ it.sends = [] ∧ it.body = []
theorem item_all {src : List UInt8} {p : PE} {q : PS} {r : Par → Prop} {t : Rf → Prop} (at_ : Int) (h : AtE ⟨tokens src, src.length⟩ p) (g : AtS ⟨tokens src, src.length⟩ q)
    (hr : ∀ (s : St) lb, lb ≤ 255 → r ⟨(s.named ⟨tokens src, src.length⟩).1, lb, ((⟨tokens src, src.length⟩ : Src).tok s.i).pos⟩)
    (ht : ∀ (s : St), t ⟨(s.named ⟨tokens src, src.length⟩).1, ((⟨tokens src, src.length⟩ : Src).tok s.i).pos⟩) : ItAll ⟨tokens src, src.length⟩ p q r t (item src at_) := by
  rw [item]
  generalize (⟨tokens src, src.length⟩ : Src) = T at h g hr ht ⊢
  dsimp only
  split
  · dsimp only [fnItm]
    have h6 : ∀ (c : Bool) (y z : St), ∀ x ∈ (if c = true then sndL T 6 [] y else ([], z)).1, t x := fun c y z => by
      split
      · exact all_sndL ht _ _ _ (by simp)
      · simp
    have l6 : ∀ (c : Bool) (y z : St), (if c = true then sndL T 6 [] y else ([], z)).1.length ≤ 5 := fun c y z => by
      split
      · exact (sndL_few T 6 [] _ (by simp)).1
      · simp
    exact ⟨(all_block h g _).1 _ _, all_parL hr _ _ _ (by simp), h6 _ _ _, ⟨(parL_few T 6 [] _ (by simp)).1, l6 _ _ _, ((small_block T _).1 _ _).1⟩, Nat.le_of_lt_succ (lab_lt T _), ⟨by simp, by simp⟩, .inr ⟨⟨1, []⟩, rfl, rfl⟩, fun h => (by simp at h), fun h => (by simp at h)⟩
  · split
    · dsimp only [chItm]
      exact ⟨stmsAll_nil, by simp, by simp, ⟨by simp, by simp, by simp⟩, Nat.le_of_lt_succ (lab_lt T _), ⟨by simp, by simp⟩, .inr ⟨⟨1, []⟩, rfl, rfl⟩, fun h => (by simp at h), fun _ => ⟨rfl, rfl, rfl⟩⟩
    · dsimp only
      exact ⟨stmsAll_nil, by simp, by simp, ⟨by simp, by simp, by simp⟩, by simp, ⟨by simp, by simp⟩, .inl ⟨rfl, .inr rfl⟩, fun _ => ⟨rfl, rfl, rfl, rfl, rfl⟩, fun h => (by simp at h)⟩
def labS : PS := fun _ _ _ l _ _ _ => l < 256
def anyP : PE := fun _ _ _ _ _ _ => True
end Go.Sp
end
section
namespace Go.Sp
inductive Runs (T : Src) : St → St → Prop where
  | refl (s : St) : Runs T s s
  | bad {s r : St} (e : Nat) : Runs T s r → Runs T s (r.bad T e)
  | next {s r : St} : Runs T s r → Runs T s r.next
theorem Runs.trans {T : Src} {s r q : St} (h : Runs T s r) (g : Runs T r q) : Runs T s q := by
  induction g with
  | refl => exact h
  | bad e _ ih => exact .bad e ih
  | next _ ih => exact .next ih
theorem Runs.on {T : Src} {s r : St} (h : Runs T s r) : s.i ≤ r.i := by
  induction h with
  | refl => exact Nat.le_refl _
  | bad e _ ih => exact ih
  | next _ ih => exact Nat.le_succ_of_le ih
end Go.Sp
end
section
namespace Go.Sp
/-- what each item of a file is like. -/
structure ItIn (s : List UInt8) (k : Nat) (it : Itm) : Prop where
  at0 : 0 ≤ it.at_
  size : 1 ≤ it.size
  top : it.at_ + it.size ≤ s.length
  ends : it.at_ + it.size = (match (fileItems s)[k + 1]? with | some j => j.at_ | none => (s.length : Int))
  diags : ∀ d ∈ it.diags, d.fr ≤ d.to ∧ d.to ≤ it.size
  small : it.small
  len : s.length ≤ 4000
end Go.Sp
end
section
namespace Go.Sp
def itIs (k : Int) (n : List UInt8) (it : Itm) : Bool := decide ((it.kind : Int) = k) && (decide (it.name = n) && decide (n ≠ []))
/-- the first item of a kind and a name. -/
def findIt (its : List Itm) (k : Int) (n : List UInt8) : Option Nat := its.findIdx? (itIs k n)
/-- a local: its name, where it is made. -/
structure Lc where
  name : List UInt8
  at_ : Nat
/-- a use of a name. -/
structure Us where
  fr : Int
  to : Int
  df : Int
  deriving DecidableEq
structure NW where
  ds : List Dg
  us : List Us
def NW.tell (s : NW) (a e : Nat) (n : List UInt8) : NW := { s with ds := s.ds ++ [⟨a, a + n.length, e, n⟩] }
/-- the local that was made last. -/
def findLc : List Lc → List UInt8 → Option Lc
  | [], _ => none
  | l :: sc, n => match findLc sc n with
    | some x => some x
    | none => if l.name = n then some l else none
def zeroIt : Itm := ⟨0, [], 0, [], [], [], 0, 0, 0, []⟩
def itNo (its : List Itm) (j : Nat) : Itm := its.getD j zeroIt
theorem take_succ_get {α : Type} {l : List α} {k : Nat} {x : α} (h : l[k]? = some x) : l.take (k + 1) = l.take k ++ [x] := by rw [List.take_add_one, h]; rfl
theorem findLc_snoc (n : List UInt8) (x : Lc) : ∀ (l : List Lc), findLc (l ++ [x]) n = if x.name = n then some x else findLc l n
  | [] => by simp [findLc]
  | a :: l => by
    rw [List.cons_append, findLc, findLc_snoc n x l, findLc]
    split <;> rename_i h
    · split at h
      · rename_i h2; rw [if_pos h2]; exact h.symm
      · rename_i h2; rw [if_neg h2, h]
    · split at h
      · cases h
      · rename_i h2; rw [if_neg h2, h]
theorem findLc_mem {n : List UInt8} {x : Lc} : ∀ {l : List Lc}, findLc l n = some x → x ∈ l ∧ x.name = n
  | [], h => by cases h
  | a :: l, h => by
    rw [findLc] at h
    split at h
    · rename_i y hy
      obtain rfl := Option.some.inj h
      have := findLc_mem hy
      exact ⟨List.mem_cons_of_mem _ this.1, this.2⟩
    · split at h
      · rename_i hn
        obtain rfl := Option.some.inj h
        exact ⟨List.mem_cons_self, hn⟩
      · cases h
/-! how much is told -/
def NW.n (s : NW) : Nat := s.ds.length + s.us.length
theorem Ex.cnt_eq (e : Ex) : e.cnt = exsCnt e.args + 1 := by cases e; rw [Ex.cnt]; rfl
theorem exsCnt_take_le {l : List Ex} {k : Nat} {y : Ex} (h : l[k]? = some y) : exsCnt (l.take k) + y.cnt ≤ exsCnt l := by
  have e : l = l.take (k + 1) ++ l.drop (k + 1) := (List.take_append_drop _ _).symm
  have h2 := congrArg exsCnt e
  rw [exsCnt_app, take_succ_get h, exsCnt_app, exsCnt_one] at h2
  omega
theorem Stm.cnt_eq (x : Stm) : x.cnt = x.e.cnt + stmsCnt x.thn + stmsCnt x.els + 1 := by cases x; rw [Stm.cnt]; rfl
theorem stmsCnt_take_le {l : List Stm} {k : Nat} {y : Stm} (h : l[k]? = some y) : stmsCnt (l.take k) + y.cnt ≤ stmsCnt l := by
  have e : l = l.take (k + 1) ++ l.drop (k + 1) := (List.take_append_drop _ _).symm
  have h2 := congrArg stmsCnt e
  rw [stmsCnt_app, take_succ_get h, stmsCnt_app, stmsCnt_one] at h2
  omega
theorem stmsAll_take {p : PE} {q : PS} : ∀ {l : List Stm} (k : Nat), stmsAll p q l → stmsAll p q (l.take k)
  | [], k, h => by rw [List.take_nil]; exact h
  | x :: l, 0, h => by rw [List.take_zero]; exact stmsAll_nil
  | x :: l, k + 1, h => by
    rw [stmsAll] at h
    rw [List.take_succ_cons, stmsAll]
    exact ⟨h.1, stmsAll_take k h.2⟩
end Go.Sp
end
