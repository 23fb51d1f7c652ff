/- Own work: texts FwMix, FwRow, FwTyM, SpecSmall, PpO, one behind the other. -/
import Derived.Test.YthmdffgiockcbaaDoorIf16
section
namespace Go.Fw
open Go
section
variable {P : Program} {ops : Array Oper} {md : Region.Mode} {C : World → Prop}
/-- step by step: quiet ones ('true'), and those in turn. -/
def mixF (P : Program) (ops : Array Oper) (C : World → Prop) (K : Act → World → Prop) : List (Bool × Oper) → Act → World → Prop
  | [], a, w => K a w
  | (true, o) :: r, a, w => ∃ v, YieldsV P ops C o v a ∧ mixF P ops C K r (a.put o.dst v) w
  | (false, o) :: r, a, w => if Region.wanted o (yielded ops a.tmps) then (∃ u w', (execOp a.eval o).run P w = .ok (.value u) w' ∧ C w' ∧ mixF P ops C K r (a.put o.dst u) w') ∨
      (∃ f args, (execOp a.eval o).run P w = .ok (.enter f args) w ∧ Calls P f args w (fun e w' => ∃ u, e = .returned u ∧ C w' ∧ mixF P ops C K r (a.put o.dst u) w')) else C w ∧ mixF P ops C K r (a.put o.dst undef) w
def mixB (md : Region.Mode) (ops : Array Oper) (g n : Nat) : List (Bool × Nat) → Array Bool → Bool
  | [], listed => Region.seqB md ops g n listed
  | (true, k) :: r, listed => (Region.ready md ops listed).contains k && Region.free md ops listed k && decide (k < n) && mixB md ops g n r (listed.setIfInBounds k true)
  | (false, k) :: r, listed => decide (Region.ready md ops listed = [k]) && decide (k < n) && mixB md ops g n r (listed.setIfInBounds k true)
theorem anyV_mix {n g : Nat} {Lq : Act → World → Prop} (hsel : Region.noSelect ops = true) (hs : Region.sinkB md ops n = true) (hc : Region.chainB md ops n = true) (hn : n < ops.size) :
    ∀ (st : List (Bool × Nat)) (l : List (Bool × Oper)) (listed : Array Bool) (a : Act) (w : World), C w → st.map (fun p => (p.1, ops[p.2]?)) = l.map (fun p => (p.1, some p.2)) → HeadInv md ops n listed →
    mixB md ops g n st listed = true → mixF P ops C Lq l a w →
    anyV P md ops C n (fun listed' a' w' => Region.seqB md ops g n listed' = true ∧ Lq a' w') l.length listed a w
  | [], [], listed, a, w, _, _, _, hB, h => ⟨by simpa [mixB] using hB, h⟩
  | (true, k) :: st, (b, o) :: l, listed, a, w, hC, hl, inv, hB, h => by
    simp only [List.map_cons, List.cons.injEq, Prod.mk.injEq] at hl
    obtain ⟨⟨hb, h0⟩, hl'⟩ := hl
    subst hb
    simp only [mixB, Bool.and_eq_true, decide_eq_true_eq] at hB
    obtain ⟨⟨⟨hr, hf⟩, hkn⟩, hB'⟩ := hB
    have hr' : k ∈ Region.ready md ops listed := by simpa using hr
    obtain ⟨v, hy, hK⟩ := h
    exact v_first h0 (Region.noSelect_spec hsel) hs hc hn hkn (fun listed' a' w' hL => seqB_ready hL.1) l.length listed a w hC inv (Region.free_spec h0 hf) hr' hy
      (anyV_mix hsel hs hc hn st l _ _ w hC hl' (inv.set hr' hkn) hB' hK)
  | (false, k) :: st, (b, o) :: l, listed, a, w, hC, hl, inv, hB, h => by
    simp only [List.map_cons, List.cons.injEq, Prod.mk.injEq] at hl
    obtain ⟨⟨hb, h0⟩, hl'⟩ := hl
    subst hb
    simp only [mixB, Bool.and_eq_true, decide_eq_true_eq] at hB
    obtain ⟨⟨hB1, hkn⟩, hB2⟩ := hB
    have hr' : k ∈ Region.ready md ops listed := by rw [hB1]; simp
    refine ⟨fun h1 => (by rw [hB1] at h1; cases h1), fun i hi => ?_⟩
    rw [hB1] at hi
    have hik : i = k := by simpa using hi
    subst hik
    refine ⟨hkn, ?_⟩
    have next : ∀ a' w', C w' → mixF P ops C Lq l a' w' → anyV P md ops C n (fun listed' a' w' => Region.seqB md ops g n listed' = true ∧ Lq a' w') l.length (listed.setIfInBounds i true) a' w' := fun a' w' hC' h' =>
      anyV_mix hsel hs hc hn st l _ a' w' hC' hl' (inv.set hr' hkn) hB2 h'
    unfold vOp
    simp only [h0]
    unfold mixF at h
    split
    · rename_i hw
      rw [if_pos hw] at h
      rcases h with ⟨u, w', h1, h2, h3⟩ | ⟨f, args, h1, h2⟩
      · exact .inl ⟨u, w', h1, h2, next _ _ h2 h3⟩
      · exact .inr ⟨f, args, h1, Calls.mono h2 (fun e w' ⟨u, he, hc, h⟩ => ⟨u, he, hc, next _ _ hc h⟩)⟩
    · rename_i hw
      rw [if_neg hw] at h
      exact ⟨h.1, next _ _ h.1 h.2⟩
  | [], _ :: _, _, _, _, _, hl, _, _, _ => by simp at hl
  | _ :: _, [], _, _, _, _, hl, _, _, _ => by simp at hl
/-- the same, in groups. -/
def mixV (P : Program) (ops : Array Oper) (C : World → Prop) (K : Act → World → Prop) : List (List Oper × List Oper) → Act → World → Prop
  | [], a, w => K a w
  | (q, t) :: r, a, w => pureV P ops C (fun a' => seqV P ops C (fun a'' w'' => mixV P ops C K r a'' w'') t a' w) q a
def flatG {α : Type} : List (List α × List α) → List (Bool × α)
  | [] => []
  | (q, t) :: r => q.map (fun x => (true, x)) ++ (t.map (fun x => (false, x)) ++ flatG r)
theorem seq_flat {K : Act → World → Prop} {r : List (Bool × Oper)} : ∀ (t : List Oper) (a : Act) (w : World), seqV P ops C (fun a' w' => mixF P ops C K r a' w') t a w → mixF P ops C K (t.map (fun x => (false, x)) ++ r) a w
  | [], a, w, h => h
  | o :: t, a, w, h => by
    unfold seqV at h
    rw [List.map_cons, List.cons_append]
    unfold mixF
    split
    · rename_i hw
      rw [if_pos hw] at h
      rcases h with ⟨u, w', h1, h2, h3⟩ | ⟨f, args, h1, h2⟩
      · exact .inl ⟨u, w', h1, h2, seq_flat t _ _ h3⟩
      · exact .inr ⟨f, args, h1, Calls.mono h2 (fun e w' ⟨u, he, hc, h⟩ => ⟨u, he, hc, seq_flat t _ _ h⟩)⟩
    · rename_i hw
      rw [if_neg hw] at h
      exact ⟨h.1, seq_flat t _ _ h.2⟩
theorem pure_flat {K : Act → World → Prop} {r : List (Bool × Oper)} {w : World} : ∀ (q : List Oper) (a : Act), pureV P ops C (fun a' => mixF P ops C K r a' w) q a → mixF P ops C K (q.map (fun x => (true, x)) ++ r) a w
  | [], a, h => h
  | o :: q, a, h => by
    obtain ⟨v, h1, h2⟩ := h
    exact ⟨v, h1, pure_flat q _ h2⟩
theorem seqV_mono {K K' : Act → World → Prop} (hk : ∀ a w, K a w → K' a w) : ∀ (t : List Oper) (a : Act) (w : World), seqV P ops C K t a w → seqV P ops C K' t a w
  | [], a, w, h => hk _ _ h
  | o :: t, a, w, h => by
    unfold seqV at h ⊢
    split
    · rename_i hw
      rw [if_pos hw] at h
      rcases h with ⟨u, w', h1, h2, h3⟩ | ⟨f, args, h1, h2⟩
      · exact .inl ⟨u, w', h1, h2, seqV_mono hk t _ _ h3⟩
      · exact .inr ⟨f, args, h1, Calls.mono h2 (fun e w' ⟨u, he, hc, h⟩ => ⟨u, he, hc, seqV_mono hk t _ _ h⟩)⟩
    · rename_i hw
      rw [if_neg hw] at h
      exact ⟨h.1, seqV_mono hk t _ _ h.2⟩
theorem pureV_mono {K K' : Act → Prop} (hk : ∀ a, K a → K' a) : ∀ (q : List Oper) (a : Act), pureV P ops C K q a → pureV P ops C K' q a
  | [], a, h => hk _ h
  | o :: q, a, h => by
    obtain ⟨v, h1, h2⟩ := h
    exact ⟨v, h1, pureV_mono hk q _ h2⟩
theorem mix_flat {K : Act → World → Prop} : ∀ (gs : List (List Oper × List Oper)) (a : Act) (w : World), mixV P ops C K gs a w → mixF P ops C K (flatG gs) a w
  | [], _, _, h => h
  | (q, t) :: r, a, w, h => pure_flat q a (pureV_mono (fun a' h' => seq_flat t a' w (seqV_mono (fun a'' w'' h'' => mix_flat r a'' w'' h'') t a' w h')) q a h)
def pickG (os : List Oper) : List (List Nat × List Nat) → List (List Oper × List Oper)
  | [] => []
  | (ks, js) :: r => (pickL os ks, pickL os js) :: pickG os r
def allG (n : Nat) : List (List Nat × List Nat) → Bool
  | [] => true
  | (ks, js) :: r => ks.all (fun k => Nat.blt k n) && (js.all (fun k => Nat.blt k n) && allG n r)
theorem pickG_map (os : List Oper) : ∀ (gs : List (List Nat × List Nat)), allG os.length gs = true → (flatG gs).map (fun p => (p.1, os.toArray[p.2]?)) = (flatG (pickG os gs)).map (fun p => (p.1, some p.2)) ∧ (flatG (pickG os gs)).length = (flatG gs).length
  | [], _ => ⟨rfl, rfl⟩
  | (ks, js) :: r, h => by
    simp only [allG, Bool.and_eq_true] at h
    obtain ⟨k1, k2⟩ := pickL_map os ks h.1
    obtain ⟨j1, j2⟩ := pickL_map os js h.2.1
    obtain ⟨r1, r2⟩ := pickG_map os r h.2.2
    constructor
    · simp only [pickG, flatG, List.map_append, List.map_map]
      rw [r1]
      have e : ∀ (b : Bool) (ks : List Nat) (l : List Oper), ks.map (os.toArray[·]?) = l.map some → ks.map ((fun p : Bool × Nat => (p.1, os.toArray[p.2]?)) ∘ fun x => (b, x)) = l.map ((fun p : Bool × Oper => (p.1, some p.2)) ∘ fun x => (b, x)) := fun b ks l hl => by
        have := congrArg (List.map (fun z => (b, z))) hl
        simpa [List.map_map, Function.comp_def] using this
      rw [e true ks _ k1, e false js _ j1]
    · simp only [pickG, flatG, List.length_append, List.length_map]
      rw [k2, j2, r2]
/-- the check. -/
def mixOk (ops : Array Oper) (gs : List (List Nat × List Nat)) (n : Nat) : Bool :=
  Region.noSelect ops && decide (n < ops.size) && Region.sinkB .any ops n && Region.chainB .any ops n && mixB .any ops (ops.size - n) n (flatG gs) (Array.replicate ops.size false) && decide ((flatG gs).length = n) && allG ops.size gs
theorem wp_region_mix {id : Nat} {Q : Exit → Act → World → Prop} {a : Act} {w : World} {l : List Oper} (gs : List (List Nat × List Nat)) (n : Nat) (hm : P.follows .mixedOrders = true) (hB : mixOk l.toArray gs n = true)
    (hC : C { w with drawn := w.drawn + 1 })
    (h : mixV P l.toArray C (fun a' w' => wpList P l.toArray Q (l.drop n) a' w') (pickG l gs) a { w with drawn := w.drawn + 1 }) : (Code.region id l.toArray true).wp P Q a w := by
  simp only [mixOk, Bool.and_eq_true, decide_eq_true_eq] at hB
  obtain ⟨⟨⟨⟨⟨⟨hsel, hn⟩, hs⟩, hc⟩, hlex⟩, hlen⟩, hall⟩ := hB
  have hn' : n < l.length := by simpa using hn
  have hdl : (l.drop n).length = l.toArray.size - n := by simp
  obtain ⟨k1, k2⟩ := pickG_map l gs (by simpa using hall)
  have inv0 : HeadInv .any l.toArray n (Array.replicate l.toArray.size false) :=
    ⟨by simp, fun j oj _ hl => (by rw [getD_replicate_false] at hl; cases hl), fun t _ ht => getD_in (by simpa using ht) (getD_replicate_false _ _)⟩
  have H := anyV_mix (md := .any) (g := l.toArray.size - n) hsel hs hc hn (flatG gs) (flatG (pickG l gs)) _ a _ hC k1 inv0 hlex (mix_flat _ _ _ h)
  refine wp_region_any hm ?_
  have := any_of_v (Q' := Q) (g := l.toArray.size - n) (fun listed a' w' hL => by
    have := wpAny_of_seq (md := .any) (Q' := Q) (l.drop n) n listed a' w' (fun j => by simp [List.getElem?_drop]) (by rw [hdl]; exact hL.1) hL.2
    rwa [hdl] at this) _ _ _ _ H
  rw [k2, hlen, show n + (l.toArray.size - n) = l.toArray.size by omega] at this
  exact this
end
section
variable {P : Program} {N : Nat} {ds : List Deferred} {X : List Nat} {Q : Exit → Act → World → Prop} {l : Log} {w w0 : World} {os tail : List Oper} {ops : Array Oper} {E : Ent} {I : Imm} {G R : List HItem}
/-- groups that are still to come. -/
structure WX (P : Program) (N : Nat) (ds : List Deferred) (ops : Array Oper) (Q : Exit → Act → World → Prop) (X : List Nat) (w0 : World) (gs : List (List Oper × List Oper)) (tail : List Oper) (l : Log) (w : World) : Prop where
  run : ∀ a, Fits N ds l a → mixV P ops (fun w' => Kept X w0 w') (fun a' w' => wpList P ops Q tail a' w') gs a w
theorem wc_mix_mem [Mixed P] {id : Nat} (hm : Mem E I (G ++ R) w) (gs : List (List Nat × List Nat)) (n : Nat) (hB : mixOk os.toArray gs n = true := by kernel_rfl)
    (h : ∀ wd, Mem E I (G ++ R) wd → Mem ⟨wd, blks G, I⟩ I G wd → WX P N ds os.toArray Q (blks G) wd (pickG os gs) (os.drop n) l wd) :
    WC P N ds (.region id os.toArray true) Q l w :=
  ⟨fun a ha => wp_region_mix (C := fun w' => Kept (blks G) { w with drawn := w.drawn + 1 } w') gs n Mixed.out hB (Kept.refl _ _) ((h _ (hm.kept0 (Kept.drew w)) (hm.kept0 (Kept.drew w)).sub).run a ha)⟩
theorem wx_nil (h : WL P N ds ops Q tail l w) : WX P N ds ops Q X w0 [] tail l w := ⟨fun a ha => h.run a ha⟩
theorem wx_cons {q t : List Oper} {r : List (List Oper × List Oper)} (h : WV P N ds ops X w0 (fun a' => seqV P ops (fun w' => Kept X w0 w') (fun a'' w'' => mixV P ops (fun w' => Kept X w0 w') (fun a' w' => wpList P ops Q tail a' w') r a'' w'') t a' w) q l) :
    WX P N ds ops Q X w0 ((q, t) :: r) tail l w := ⟨fun a ha => h.run a ha⟩
theorem wv_nilX {t : List Oper} {r : List (List Oper × List Oper)} (h : WS P N ds ops (fun _ a w => mixV P ops (fun w' => Kept X w0 w') (fun a' w' => wpList P ops Q tail a' w') r a w) X w0 t [] l w) :
    WV P N ds ops X w0 (fun a' => seqV P ops (fun w' => Kept X w0 w') (fun a'' w'' => mixV P ops (fun w' => Kept X w0 w') (fun a' w' => wpList P ops Q tail a' w') r a'' w'') t a' w) [] l := ⟨fun a ha => by
  refine seqV_mono (fun a' w' h' => ?_) t a w (h.run a ha)
  simpa [wpList] using h'⟩
theorem at_X {r : List (List Oper × List Oper)} (h : WX P N ds ops Q X w0 r tail l w) : At N ds (fun _ a w => mixV P ops (fun w' => Kept X w0 w') (fun a' w' => wpList P ops Q tail a' w') r a w) .normal l w := ⟨fun a ha => h.run a ha⟩
end
end Go.Fw
end
section
namespace Go.Fw
open Go
section
variable {P : Program} {N : Nat} {ds : List Deferred} {Q : Exit → Act → World → Prop} {K : Act → World → Prop} {l l' : Log} {w w' : World} {ops : Array Oper} {os : List Oper}
variable {d : Nat} {ty : TypeId} {pos : String} {af : Array Edge} {g : Option (Nat × Bool)} {t t' : TypeId} {x y z : Operand}
variable {E : Ent} {I I' : Imm} {H H' R : List HItem}
theorem op_eql_nilslice {e : TypeId} [TySlice P t e] {a : Option Addr} {n c : Nat} {k0 : Value} (hw : want ops l ⟨some d, .binOp .eql t x (.const k0) t', ty, pos, af, g⟩ = some true := by rfl) (hN : Nat.blt d N = true := by rfl)
    (hx : ev l x = some (.slice a n c) := by rfl) (hk : k0 = .slice none 0 0 := by rfl) (k : WL P N ds ops Q os ((d, .bool a.isNone) :: l) w) :
    WL P N ds ops Q (⟨some d, .binOp .eql t x (.const k0) t', ty, pos, af, g⟩ :: os) l w :=
  wl_value rfl hw hN (fun c' hc => by
    subst hk
    have h1 := run_underlying (P := P) (w := w) (TySlice.out (P := P) (t := t))
    have e2 : c'.eval (.const (.slice none 0 0)) = .slice none 0 0 := rfl
    have h2 : (Op.equal t (.slice a n c) (.slice none 0 0)).run P w = .ok a.isNone w := by
      show (Op.equalIn (9999 + 1) t (.slice a n c) (.slice none 0 0)).run P w = _
      rw [Op.equalIn]
      cases a <;> simp [h1]
    simp [execOp, hc.ev hx, e2, eqGuard, binOp, h2]) k
theorem m_buildRow {e : TypeId} {sz by_ n : Nat} [TySlice P t e] [Elem P e sz by_] {ps : List (Nat × Operand)} {vs : List (Nat × Value)} {xs : List Value} (hm : Mem E I H w)
    (hw : want ops l ⟨some d, .buildSlice t n ps.toArray, ty, pos, af, g⟩ = some true := by rfl) (hN : Nat.blt d N = true := by rfl) (hx : evp l ps = some vs := by rfl)
    (hi : vs.map (·.1) = List.range' 0 n := by rfl) (hs : vs.all (fun p => Nat.beq p.2.cells.toList.length sz) = true := by rfl) (hn : Nat.ble (n * sz) 16777216 = true := by rfl) (hn2 : Nat.ble n 16777216 = true := by rfl) (hxs : vs.flatMap (·.2.cells.toList) = xs := by rfl) (hl : xs.length = n * sz := by rfl)
    (k : ∀ b w', Mem E I (.row (.slice (some ⟨b, 0, none⟩) n n) e sz n xs :: H) w' → WL P N ds ops Q os ((d, .slice (some ⟨b, 0, none⟩) n n) :: l) w') :
    WL P N ds ops Q (⟨some d, .buildSlice t n ps.toArray, ty, pos, af, g⟩ :: os) l w := by
  subst hxs
  refine op_buildSlice hw hN hx hi hs (Nat.le_of_ble_eq_true hn) (fun b w' hb hh hk => k b w' (hm.add hk ⟨hl, .inr ⟨b, n, _, rfl, Nat.zero_le _, hh, Nat.le_refl _, ?_, by simpa using hl, ?_⟩⟩ (fun b' hb' => ?_)))
  · have := Nat.le_of_ble_eq_true hn2
    unfold maxLen; omega
  · rw [← hl]; exact List.take_length
  · simp only [HItem.blk, Value.ownBlock, Option.some.injEq] at hb'; omega
/-- 'append(s, u...)' of a slice that turns no more. -/
theorem m_appendR {e : TypeId} {sz by_ : Nat} [TySlice P t e] [Elem P e sz by_] {i : Nat} {v : Value} {n m cp : Nat} {ad : Addr} {xs us : List Value} (hm : Mem E I H w)
    (hw : want ops l ⟨some d, .call ⟨.builtin .append, #[x, y], #[t, t]⟩, ty, pos, af, g⟩ = some true := by rfl) (hN : Nat.blt d N = true := by rfl)
    (hx : ev l x = some v := by rfl) (hy : ev l y = some (.slice (some ad) m cp) := by rfl) (hi : H[i]? = some (.row v e sz n xs) := by first | exact gt0 | exact gt1 | exact gt2 | exact gt3 | exact gt4 | exact gt5 | exact gt6) (hr : RowI I e sz (.slice (some ad) m cp) m us) (h1 : us.all (·.oneCell') = true)
    (hlen : (n + m) * by_ ≤ 140737488355328 := by omega) (h63 : n + m ≤ 9223372036854775807 := by omega)
    (k : ∀ a cp' w', Mem E I (H.set i (.row (.slice a (n + m) cp') e sz (n + m) (xs ++ us))) w' → WL P N ds ops Q os ((d, .slice a (n + m) cp') :: l) w') :
    WL P N ds ops Q (⟨some d, .call ⟨.builtin .append, #[x, y], #[t, t]⟩, ty, pos, af, g⟩ :: os) l w := by
  have hown := hm.getRow hi
  have hus := hr.len
  have hcell : ∀ j u, us[j]? = some u → w.cell? (ad.add j) = some u := fun j u hj => by
    obtain ⟨_, a', cap', e1, e2, e3⟩ := hr
    injection e1 with e1 _ _
    have hm0 : 0 < m := by
      rcases Nat.eq_zero_or_pos m with h0 | h0
      · rw [h0, Nat.zero_mul] at hus
        have := List.eq_nil_of_length_eq_zero hus
        subst this
        simp at hj
      · exact h0
    obtain ⟨b, off, c, fr, f1, f2, f3⟩ := e3 hm0
    rw [f1] at e1
    injection e1 with e1
    subst e1
    rw [Addr.add_lit]
    exact cell_of (hm.inv _ _ f2) (f3 j u hj)
  obtain ⟨v', w', hrun, ho, hk, hb⟩ := run_append (P := P) (t := t) hown ad m cp us hus hcell (fun r hr => List.all_eq_true.1 h1 r hr) h63 hlen (Nat.zero_le _) ty
  have hm' := hm.turn (h' := .row v' e sz (n + m) (xs ++ us)) hi hk ho (hb.imp_right fun ⟨g, h1, h2⟩ => ⟨g, h1, h2⟩)
  have hlt : i < H.length := (List.getElem?_eq_some_iff.1 hi).1
  obtain ⟨a, cp', rfl⟩ := own_val (hm'.getRow (i := i) (by rw [List.getElem?_set]; simp [hlt]; exact ⟨rfl, rfl, rfl, rfl, rfl⟩))
  refine wl_value (w' := w') (v := .slice a (n + m) cp') rfl hw hN (fun a ha => ?_) (k a cp' w' hm')
  simp [execOp, resolve, invoke, builtin, ha.ev hx, ha.ev hy, hrun]
theorem mw_loadN {G : List HItem} {KV : Act → Prop} {n : Nat} [TyAgg P t n] {i b off : Nat} {c : List Value} {e : TypeId} {fr : Nat × Nat} {vs : List Value} (hR : Mem E I (G ++ R) w) (hw : want ops l ⟨some d, .load t x, ty, pos, af, g⟩ = some true := by rfl) (hN : Nat.blt d N = true := by rfl)
    (hx : ev l x = some (.pointer (some ⟨b, off, none⟩)) := by rfl) (hb : R[i]? = some (.obj b (.cells c.toArray e fr)) := by first | exact gt0 | exact gt1 | exact gt2 | exact gt3 | exact gt4 | exact gt5 | exact gt6) (hc : (c.drop off).take n = vs := by rfl) (hl : vs.length = n := by rfl)
    (k : WV P N ds ops (blks G) w KV os ((d, .agg vs.toArray) :: l)) : WV P N ds ops (blks G) w KV (⟨some d, .load t x, ty, pos, af, g⟩ :: os) l :=
  v_loadN hw hN hx (hR.right.get hb) (hR.notG hb rfl) hl (fun j v hv => by
    rw [← hc, List.getElem?_take] at hv
    split at hv
    · rw [List.getElem?_drop] at hv; simpa using hv
    · cases hv) k
end
end Go.Fw
end
section
namespace Go.Proofs.YthmdffgiockcbaaDoor
open Go Go.Fw
instance : TyMap Tryd.prog 50 3 3 := ⟨by kernel_rfl⟩
instance : TyMap Tryd.prog 61 66 4 := ⟨by kernel_rfl⟩
instance : TyMap Tryd.prog 67 9 34 := ⟨by kernel_rfl⟩
end Go.Proofs.YthmdffgiockcbaaDoor
end
section
namespace Go.Sp
mutual
def Ex.small : Ex → Prop
  | .mk _ _ _ args _ _ => args.length ≤ 64 ∧ exsSmall args
def exsSmall : List Ex → Prop
  | [] => True
  | e :: es => e.small ∧ exsSmall es
 end
mutual
def Stm.small : Stm → Prop
  | .mk _ _ _ _ _ e thn els _ _ => e.small ∧ thn.length ≤ 64 ∧ stmsSmall thn ∧ els.length ≤ 64 ∧ stmsSmall els
def stmsSmall : List Stm → Prop
  | [] => True
  | e :: es => e.small ∧ stmsSmall es
 end
theorem exsSmall_snoc : ∀ {l : List Ex} {e : Ex}, exsSmall l → e.small → exsSmall (l ++ [e])
  | [], e, _, h => by rw [List.nil_append, exsSmall, exsSmall]; exact ⟨h, trivial⟩
  | a :: l, e, h, he => by
    rw [exsSmall] at h
    rw [List.cons_append, exsSmall]
    exact ⟨h.1, exsSmall_snoc h.2 he⟩
theorem stmsSmall_snoc : ∀ {l : List Stm} {e : Stm}, stmsSmall l → e.small → stmsSmall (l ++ [e])
  | [], e, _, h => by rw [List.nil_append, stmsSmall, stmsSmall]; exact ⟨h, trivial⟩
  | a :: l, e, h, he => by
    rw [stmsSmall] at h
    rw [List.cons_append, stmsSmall]
    exact ⟨h.1, stmsSmall_snoc h.2 he⟩
theorem exsSmall_get : ∀ {l : List Ex} {i : Nat} {e : Ex}, exsSmall l → l[i]? = some e → e.small
  | [], _, _, _, h => by simp at h
  | a :: l, 0, e, h, he => by
    rw [exsSmall] at h
    simp only [List.getElem?_cons_zero, Option.some.injEq] at he
    exact he ▸ h.1
  | a :: l, i + 1, e, h, he => by
    rw [exsSmall] at h
    exact exsSmall_get h.2 (by simpa using he)
theorem stmsSmall_get : ∀ {l : List Stm} {i : Nat} {e : Stm}, stmsSmall l → l[i]? = some e → e.small
  | [], _, _, _, h => by simp at h
  | a :: l, 0, e, h, he => by
    rw [stmsSmall] at h
    simp only [List.getElem?_cons_zero, Option.some.injEq] at he
    exact he ▸ h.1
  | a :: l, i + 1, e, h, he => by
    rw [stmsSmall] at h
    exact stmsSmall_get h.2 (by simpa using he)
theorem leaf_small (k n f t : Nat) (nm : List UInt8) : (Ex.mk k nm n [] f t).small := by rw [Ex.small, exsSmall]; exact ⟨by simp, trivial⟩
theorem small_expr (T : Src) : ∀ f, (∀ d s, (atom T f d s).1.small) ∧ (∀ d l s, l.length ≤ 5 → exsSmall l → (argL T f d l s).1.length ≤ 5 ∧ exsSmall (argL T f d l s).1) ∧ (∀ d m s, (expr T f d m s).1.small) ∧ (∀ d m e s, Ex.small e → (opL T f d m e s).1.small)
  | 0 => ⟨fun _ _ => by rw [atom]; exact leaf_small _ _ _ _ _, fun _ _ _ h1 h2 => by rw [argL]; exact ⟨h1, h2⟩, fun _ _ _ => by rw [expr]; exact leaf_small _ _ _ _ _, fun _ _ _ _ h => by rw [opL]; exact h⟩
  | f + 1 => by
    obtain ⟨hA, hL, hE, hO⟩ := small_expr T f
    refine ⟨fun d s => ?_, fun d l s h1 h2 => ?_, fun d m s => ?_, fun d m e s h => ?_⟩
    · rw [atom]
      dsimp only
      split
      · exact leaf_small _ _ _ _ _
      · split
        · exact leaf_small _ _ _ _ _
        · split
          · split <;> exact leaf_small _ _ _ _ _
          · split
            · exact hE _ _ _
            · split
              · exact leaf_small _ _ _ _ _
              · split
                · exact leaf_small _ _ _ _ _
                · have := hL (d + 1) [] s.next.next (by simp) (by rw [exsSmall]; trivial)
                  rw [Ex.small]
                  exact ⟨by omega, this.2⟩
    · rw [argL]
      split
      · exact ⟨h1, h2⟩
      · split
        · exact ⟨h1, h2⟩
        · rename_i h5
          have hs := exsSmall_snoc h2 (hE d 1 s)
          have hl : (l ++ [(expr T f d 1 s).1]).length ≤ 5 := by simp; omega
          try dsimp only
          split
          · exact hL _ _ _ hl hs
          · exact ⟨hl, hs⟩
    · rw [expr]
      try dsimp only
      exact hO _ _ _ _ (hA _ _)
    · rw [opL]
      try dsimp only
      split
      · exact h
      · refine hO _ _ _ _ ?_
        rw [Ex.small, exsSmall, exsSmall, exsSmall]
        exact ⟨by simp, h, hE _ _ _, trivial⟩
theorem stmsSmall_nil : stmsSmall [] := by rw [stmsSmall]; trivial
theorem simple_small (k a lb f t : Nat) (o : Bool) (nm : List UInt8) (e : Ex) (h : e.small) : (Stm.mk k nm a lb o e [] [] f t).small := by
  rw [Stm.small]; exact ⟨h, by simp, stmsSmall_nil, by simp, stmsSmall_nil⟩
theorem small_block (T : Src) : ∀ f, (∀ d s, (block T f d s).1.length ≤ 40 ∧ stmsSmall (block T f d s).1) ∧ (∀ d l s, l.length ≤ 40 → stmsSmall l → (stmL T f d l s).1.length ≤ 40 ∧ stmsSmall (stmL T f d l s).1) ∧ (∀ d s, (stm T f d s).1.small)
  | 0 => ⟨fun _ _ => by rw [block]; exact ⟨by simp, stmsSmall_nil⟩, fun _ _ _ h1 h2 => by rw [stmL]; exact ⟨h1, h2⟩, fun _ s => by rw [stm]; exact simple_small _ _ _ _ _ _ _ _ (leaf_small _ _ _ _ _)⟩
  | f + 1 => by
    obtain ⟨hB, hL, hS⟩ := small_block T f
    have hE := (small_expr T f).2.2.1
    refine ⟨fun d s => ?_, fun d l s h1 h2 => ?_, fun d s => ?_⟩
    · rw [block]
      split
      · exact ⟨by simp, stmsSmall_nil⟩
      · split
        · exact ⟨by simp, stmsSmall_nil⟩
        · dsimp only
          exact hL _ _ _ (by simp) stmsSmall_nil
    · rw [stmL]
      split
      · exact ⟨h1, h2⟩
      · split
        · exact ⟨h1, h2⟩
        · dsimp only
          exact hL _ _ _ (by simp; omega) (stmsSmall_snoc h2 (hS d s))
    · rw [stm]
      dsimp only
      have two : ∀ (k a lb f t : Nat) (o : Bool) (nm : List UInt8) (e : Ex) (b c : List Stm), e.small → b.length ≤ 40 ∧ stmsSmall b → c.length ≤ 40 ∧ stmsSmall c → (Stm.mk k nm a lb o e b c f t).small := fun k a lb f t o nm e b c h1 h2 h3 => by
        rw [Stm.small]; exact ⟨h1, by omega, h2.2, by omega, h3.2⟩
      have nil2 : ([] : List Stm).length ≤ 40 ∧ stmsSmall [] := ⟨by simp, stmsSmall_nil⟩
      repeat' split
      all_goals first
        | exact simple_small _ _ _ _ _ _ _ _ (hE _ _ _)
        | exact two _ _ _ _ _ _ _ _ _ _ (hE _ _ _) (hB _ _) (hB _ _)
        | exact two _ _ _ _ _ _ _ _ _ _ (hE _ _ _) (hB _ _) nil2
        | exact simple_small _ _ _ _ _ _ _ _ (leaf_small _ _ _ _ _)
theorem parL_few (T : Src) : ∀ (f : Nat) (l : List Par) (s : St), l.length ≤ 5 → (parL T f l s).1.length ≤ 5 ∧ (s.i ≤ T.l.length → s.i ≤ (parL T f l s).2.i ∧ (parL T f l s).2.i ≤ T.l.length ∧ (parL T f l s).2.ds.length ≤ s.ds.length + 2 * ((parL T f l s).2.i - s.i) + 3 * f)
  | 0, l, s, h => by rw [parL]; exact ⟨h, fun hi => ⟨Nat.le_refl _, hi, by dsimp only; omega⟩⟩
  | f + 1, l, s, h => by
    rw [parL]
    split
    · exact ⟨h, fun hi => ⟨Nat.le_refl _, hi, by dsimp only; omega⟩⟩
    · split
      · exact ⟨h, fun hi => ⟨Nat.le_refl _, hi, by simp [St.bad]; omega⟩⟩
      · dsimp only
        have g1 := goes_named T s
        have g2 := goes_need T (s.named T).2 [58]
        have g3 := goes_lab T ((s.named T).2.need T [58]).2
        have a1 := g1.le; have a2 := g1.top; have a3 := g1.ds
        have b1 := g2.le; have b2 := g2.top; have b3 := g2.ds
        have c1 := g3.le; have c2 := g3.top; have c3 := g3.ds
        split
        · exact ⟨h, fun hi => ⟨by dsimp only; omega, b2 (a2 hi), by dsimp only; omega⟩⟩
        · split
          · rename_i h5
            have h6 := is_lt h5
            have ih := parL_few T f (l ++ [⟨(s.named T).1, (lab T ((s.named T).2.need T [58]).2).1, (T.tok s.i).pos⟩]) (lab T ((s.named T).2.need T [58]).2).2.next (by simp; omega)
            refine ⟨ih.1, fun hi => ?_⟩
            have e1 : (lab T ((s.named T).2.need T [58]).2).2.next.i = (lab T ((s.named T).2.need T [58]).2).2.i + 1 := rfl
            have e2 : (lab T ((s.named T).2.need T [58]).2).2.next.ds.length = (lab T ((s.named T).2.need T [58]).2).2.ds.length := rfl
            obtain ⟨i1, i2, i3⟩ := ih.2 (by omega)
            exact ⟨by omega, i2, by omega⟩
          · exact ⟨by simp; omega, fun hi => ⟨by dsimp only; omega, c2 (b2 (a2 hi)), by dsimp only; omega⟩⟩
theorem sndL_few (T : Src) : ∀ (f : Nat) (l : List Rf) (s : St), l.length ≤ 5 → (sndL T f l s).1.length ≤ 5 ∧ (s.i ≤ T.l.length → s.i ≤ (sndL T f l s).2.i ∧ (sndL T f l s).2.i ≤ T.l.length ∧ (sndL T f l s).2.ds.length ≤ s.ds.length + 2 * ((sndL T f l s).2.i - s.i) + 3 * f)
  | 0, l, s, h => by rw [sndL]; exact ⟨h, fun hi => ⟨Nat.le_refl _, hi, by dsimp only; omega⟩⟩
  | f + 1, l, s, h => by
    rw [sndL]
    split
    · exact ⟨h, fun hi => ⟨Nat.le_refl _, hi, by simp [St.bad]; omega⟩⟩
    · dsimp only
      have g1 := goes_named T s
      have a1 := g1.le; have a2 := g1.top; have a3 := g1.ds
      split
      · rename_i h5
        have h6 := is_lt h5
        have ih := sndL_few T f (l ++ [⟨(s.named T).1, (T.tok s.i).pos⟩]) (s.named T).2.next (by simp; omega)
        refine ⟨ih.1, fun hi => ?_⟩
        have e1 : (s.named T).2.next.i = (s.named T).2.i + 1 := rfl
        have e2 : (s.named T).2.next.ds.length = (s.named T).2.ds.length := rfl
        obtain ⟨i1, i2, i3⟩ := ih.2 (by omega)
        exact ⟨by omega, i2, by omega⟩
      · exact ⟨by simp; omega, fun hi => ⟨by dsimp only; omega, a2 hi, by dsimp only; omega⟩⟩
structure Itm.small (it : Itm) : Prop where
  params : it.params.length ≤ 5
  sends : it.sends.length ≤ 5
  body : it.body.length ≤ 40
  stms : stmsSmall it.body
  diags : it.diags.length ≤ 40000000
theorem fnItm_small (T : Src) (at_ : Int) (size : Nat) (s : St) (hT : T.l.length ≤ 1048576) (hi : s.i ≤ T.l.length) (hd : s.ds = []) :
    (fnItm T at_ size s).1.params.length ≤ 5 ∧ (fnItm T at_ size s).1.sends.length ≤ 5 ∧ (fnItm T at_ size s).1.body.length ≤ 40 ∧ stmsSmall (fnItm T at_ size s).1.body ∧ (fnItm T at_ size s).2.ds.length ≤ 39000000 := by
  rw [fnItm]
  dsimp only
  have g1 := goes_named T s
  generalize s.named T = r at g1 ⊢
  have g2 := goes_need T r.2 [40]
  generalize r.2.need T [40] = s1 at g2 ⊢
  have p := parL_few T 6 [] s1.2 (by simp)
  generalize parL T 6 [] s1.2 = r2 at p ⊢
  have g3 := goes_need T r2.2 [41]
  generalize r2.2.need T [41] = s3 at g3 ⊢
  have g4 := goes_need T s3.2 [58]
  generalize s3.2.need T [58] = s4 at g4 ⊢
  have g5 := goes_lab T s4.2
  generalize lab T s4.2 = r5 at g5 ⊢
  have hd0 : s.ds.length = 0 := by rw [hd]; rfl
  have a2 := g1.top hi; have a3 := g1.ds; have a1 := g1.le
  have b2 := g2.top a2; have b3 := g2.ds; have b1 := g2.le
  obtain ⟨p1, p2⟩ := p
  obtain ⟨p3, p4, p5⟩ := p2 b2
  have c2 := g3.top p4; have c3 := g3.ds; have c1 := g3.le
  have d2 := g4.top c2; have d3 := g4.ds; have d1 := g4.le
  have e2 := g5.top d2; have e3 := g5.ds; have e1 := g5.le
  have q : ∀ r6 : List Rf × St, r6 = (if T.is r5.2.i [115, 101, 110, 100, 115] = true then sndL T 6 [] r5.2.next else ([], r5.2)) → r6.1.length ≤ 5 ∧ r6.2.i ≤ T.l.length ∧ r6.2.ds.length ≤ r5.2.ds.length + 2 * (T.l.length) + 18 := fun r6 h => by
    by_cases hs : T.is r5.2.i [115, 101, 110, 100, 115] = true
    · rw [if_pos hs] at h
      have hlt := is_lt hs
      have q := sndL_few T 6 [] r5.2.next (by simp)
      have f1 : r5.2.next.i = r5.2.i + 1 := rfl
      have f2 : r5.2.next.ds.length = r5.2.ds.length := rfl
      obtain ⟨q3, q4, q5⟩ := q.2 (by omega)
      rw [h]
      exact ⟨q.1, q4, by omega⟩
    · rw [if_neg hs] at h
      rw [h]
      exact ⟨by simp, e2, by dsimp only; omega⟩
  obtain ⟨r6, h6⟩ : ∃ r6, r6 = (if T.is r5.2.i [115, 101, 110, 100, 115] = true then sndL T 6 [] r5.2.next else ([], r5.2)) := ⟨_, rfl⟩
  obtain ⟨q1, q2, q3⟩ := q r6 h6
  rw [← h6]
  have hb := (small_block T (fuel T)).1 0 r6.2
  have gb := (goes_block T (fuel T)).1 0 r6.2
  have h1 := gb.ds
  have h2 := gb.top q2
  exact ⟨p1, q1, hb.1, hb.2, by omega⟩
theorem itemQ_small (T : Src) (at_ : Int) (size : Nat) (hT : T.l.length ≤ 1048576) :
    (itemQ T at_ size).1.params.length ≤ 5 ∧ (itemQ T at_ size).1.sends.length ≤ 5 ∧ (itemQ T at_ size).1.body.length ≤ 40 ∧ stmsSmall (itemQ T at_ size).1.body ∧ (itemQ T at_ size).2.ds.length ≤ 39000000 := by
  rw [itemQ]
  split
  · rename_i h
    exact fnItm_small T at_ size ⟨1, []⟩ hT (is_lt h) rfl
  · split
    · rename_i h
      have hlt := is_lt h
      rw [chItm]
      dsimp only
      have g1 := goes_named T ⟨1, []⟩
      generalize (⟨1, []⟩ : St).named T = r at g1 ⊢
      have g2 := goes_need T r.2 [58]
      generalize r.2.need T [58] = s1 at g2 ⊢
      have g3 := goes_lab T s1.2
      generalize lab T s1.2 = r2 at g3 ⊢
      have g4 := goes_need T r2.2 [59]
      generalize r2.2.need T [59] = s3 at g4 ⊢
      have a2 := g1.top hlt; have a3 := g1.ds; have a1 := g1.le
      have b2 := g2.top a2; have b3 := g2.ds; have b1 := g2.le
      have c2 := g3.top b2; have c3 := g3.ds; have c1 := g3.le
      have d2 := g4.top c2; have d3 := g4.ds; have d1 := g4.le
      dsimp only [List.length_nil] at a1 a3
      exact ⟨by simp, by simp, by simp, stmsSmall_nil, by omega⟩
    · exact ⟨by simp, by simp, by simp, stmsSmall_nil, by simp [St.bad]⟩
theorem item_small (src : List UInt8) (at_ : Int) (h : src.length ≤ 1048576) : (item src at_).small := by
  have hl := toks_len src
  rw [item_eq]
  have hT : (Src.mk (tokens src) src.length).l.length ≤ 1048576 := by dsimp only; omega
  generalize Src.mk (tokens src) src.length = T at hT ⊢
  obtain ⟨h1, h2, h3, h4, h5⟩ := itemQ_small T at_ src.length hT
  rw [itemT]
  refine ⟨h1, h2, h3, h4, ?_⟩
  dsimp only
  split
  · simp [St.bad]; omega
  · omega
theorem item_at (src : List UInt8) (at_ : Int) : (item src at_).at_ = at_ := by
  rw [item_eq]
  show (itemQ _ at_ _).1.at_ = at_
  rw [itemQ]
  split
  · rfl
  · split <;> rfl
theorem small_args {e : Ex} (h : e.small) : e.args.length ≤ 64 ∧ exsSmall e.args := by
  cases e with
  | mk k n m a f t => rw [Ex.small] at h; exact h
theorem size_args {e a : Ex} (h : a ∈ e.args) : SizeOf.sizeOf a < SizeOf.sizeOf e := by
  cases e with
  | mk k n m l f t =>
    have h' : a ∈ l := h
    have := List.sizeOf_lt_of_mem h'
    simp only [Ex.mk.sizeOf_spec]
    omega
theorem small_parts {s : Stm} (h : s.small) : s.e.small ∧ s.thn.length ≤ 64 ∧ stmsSmall s.thn ∧ s.els.length ≤ 64 ∧ stmsSmall s.els := by
  cases s with
  | mk k n a l o e t x f u => rw [Stm.small] at h; exact h
theorem size_thn {s : Stm} : SizeOf.sizeOf s.thn < SizeOf.sizeOf s ∧ SizeOf.sizeOf s.els < SizeOf.sizeOf s := by
  cases s with
  | mk k n a l o e t x f u =>
    simp only [Stm.mk.sizeOf_spec, Stm.thn, Stm.els]
    omega
theorem sizeL_mem {l : List Stm} {s : Stm} (h : s ∈ l) : SizeOf.sizeOf s < SizeOf.sizeOf l := List.sizeOf_lt_of_mem h
end Go.Sp
end
section
namespace Go.Proofs.YthmdffgiockcbaaDoor
open Go.Fw
theorem _root_.Go.Fw.RowI.none {I : Imm} {ty : TypeId} {sz n cp : Nat} {us : List Value} (h : RowI I ty sz (.slice none n cp) n us) : n = 0 := by
  obtain ⟨_, a, cap, e1, _, e3⟩ := h
  rcases Nat.eq_zero_or_pos n with h0 | h0
  · exact h0
  · obtain ⟨b, off, c, fr, f1, _⟩ := e3 h0
    injection e1 with e1
    rw [f1] at e1; cases e1
/-- a slice like one that was there. -/
abbrev ToRow (ty : TypeId) (sz n : Nat) (us : List Value) : Value → Imm → List HItem → Prop := fun v I' H' => H' = [] ∧ ∃ a cp, v = .slice a n cp ∧ RowI I' ty sz (.slice a n cp) n us
set_option maxHeartbeats 2000000 in
theorem p_cloneP (I : Imm) (a : Option Addr) (n cp : Nat) (us : List Value) (hr : RowI I 55 3 (.slice a n cp) n us) (h1 : us.all (·.oneCell') = true) (hn : n ≤ 1099511627776) :
    CalM Tryd.prog 18 #[.slice a n cp] I [] (ToRow 55 3 n us) := by
  refine CalM.of fun w E hm => enter (N := 8) Tryd.func18 rfl [(0, .slice a n cp)] args1 rfl ?_
  cases a with
  | none =>
    have h0 : n = 0 := hr.none
    subst h0
    have hu : us = [] := List.eq_nil_of_length_eq_zero (by have := hr.len; simpa using this)
    subst hu
    repeat' (first
    | (refine op_eql_nilslice (k:=?_))
    | refine op_move (k:=?_)
    | refine op_assign (k:=?_)
    | refine wl_nil ?_
    | refine at_then_normal ?_
    | refine at_then_ret ?_
    | refine wc_seq ?_
    | refine wc_region ?_
    | refine wc_ret ?_
    | refine at_ret1 (h:=?_)
    | refine wc_cond_true (ht:=?_))
    exact ⟨I, [], ⟨rfl, none, 0, rfl, rowI_nil _ _ _ _ _⟩, hm⟩
  | some ad =>
    repeat' (first
    | (refine op_eql_nilslice (k:=?_))
    | (refine m_buildRow hm (k:=?_); clear hm; intro bb _ hm)
    | (refine m_appendR hm (hr:=hr) (h1:=h1) (k:=?_); clear hm; intro a2 cp2 _ hm; try simp only [setn] at hm)
    | refine op_move (k:=?_)
    | refine op_assign (k:=?_)
    | refine wl_nil ?_
    | refine at_then_normal ?_
    | refine wc_seq ?_
    | refine wc_region ?_
    | refine wc_skip ?_
    | refine wc_ret ?_
    | refine at_ret1 (h:=?_)
    | refine wc_cond_false (hf:=?_))
    simp only [Nat.zero_add] at hm ⊢
    obtain ⟨I3, hle3, hm3, hrow3⟩ := (hm.front 0 rfl).freeze
    exact ⟨I3, [], ⟨rfl, a2, cp2, rfl, hrow3⟩, hm3.left (H := [])⟩
set_option maxHeartbeats 2000000 in
theorem p_cloneR (I : Imm) (a : Option Addr) (n cp : Nat) (us : List Value) (hr : RowI I 75 2 (.slice a n cp) n us) (h1 : us.all (·.oneCell') = true) (hn : n ≤ 1099511627776) :
    CalM Tryd.prog 19 #[.slice a n cp] I [] (ToRow 75 2 n us) := by
  refine CalM.of fun w E hm => enter (N := 8) Tryd.func19 rfl [(0, .slice a n cp)] args1 rfl ?_
  cases a with
  | none =>
    have h0 : n = 0 := hr.none
    subst h0
    have hu : us = [] := List.eq_nil_of_length_eq_zero (by have := hr.len; simpa using this)
    subst hu
    repeat' (first
    | (refine op_eql_nilslice (k:=?_))
    | refine op_move (k:=?_)
    | refine op_assign (k:=?_)
    | refine wl_nil ?_
    | refine at_then_normal ?_
    | refine at_then_ret ?_
    | refine wc_seq ?_
    | refine wc_region ?_
    | refine wc_ret ?_
    | refine at_ret1 (h:=?_)
    | refine wc_cond_true (ht:=?_))
    exact ⟨I, [], ⟨rfl, none, 0, rfl, rowI_nil _ _ _ _ _⟩, hm⟩
  | some ad =>
    repeat' (first
    | (refine op_eql_nilslice (k:=?_))
    | (refine m_buildRow hm (k:=?_); clear hm; intro bb _ hm)
    | (refine m_appendR hm (hr:=hr) (h1:=h1) (k:=?_); clear hm; intro a2 cp2 _ hm; try simp only [setn] at hm)
    | refine op_move (k:=?_)
    | refine op_assign (k:=?_)
    | refine wl_nil ?_
    | refine at_then_normal ?_
    | refine wc_seq ?_
    | refine wc_region ?_
    | refine wc_skip ?_
    | refine wc_ret ?_
    | refine at_ret1 (h:=?_)
    | refine wc_cond_false (hf:=?_))
    simp only [Nat.zero_add] at hm ⊢
    obtain ⟨I3, hle3, hm3, hrow3⟩ := (hm.front 0 rfl).freeze
    exact ⟨I3, [], ⟨rfl, a2, cp2, rfl, hrow3⟩, hm3.left (H := [])⟩
set_option maxHeartbeats 2000000 in
theorem p_cloneD (I : Imm) (a : Option Addr) (n cp : Nat) (us : List Value) (hr : RowI I 65 4 (.slice a n cp) n us) (h1 : us.all (·.oneCell') = true) (hn : n ≤ 1099511627776) :
    CalM Tryd.prog 20 #[.slice a n cp] I [] (ToRow 65 4 n us) := by
  refine CalM.of fun w E hm => enter (N := 8) Tryd.func20 rfl [(0, .slice a n cp)] args1 rfl ?_
  cases a with
  | none =>
    have h0 : n = 0 := hr.none
    subst h0
    have hu : us = [] := List.eq_nil_of_length_eq_zero (by have := hr.len; simpa using this)
    subst hu
    repeat' (first
    | (refine op_eql_nilslice (k:=?_))
    | refine op_move (k:=?_)
    | refine op_assign (k:=?_)
    | refine wl_nil ?_
    | refine at_then_normal ?_
    | refine at_then_ret ?_
    | refine wc_seq ?_
    | refine wc_region ?_
    | refine wc_ret ?_
    | refine at_ret1 (h:=?_)
    | refine wc_cond_true (ht:=?_))
    exact ⟨I, [], ⟨rfl, none, 0, rfl, rowI_nil _ _ _ _ _⟩, hm⟩
  | some ad =>
    repeat' (first
    | (refine op_eql_nilslice (k:=?_))
    | (refine m_buildRow hm (k:=?_); clear hm; intro bb _ hm)
    | (refine m_appendR hm (hr:=hr) (h1:=h1) (k:=?_); clear hm; intro a2 cp2 _ hm; try simp only [setn] at hm)
    | refine op_move (k:=?_)
    | refine op_assign (k:=?_)
    | refine wl_nil ?_
    | refine at_then_normal ?_
    | refine wc_seq ?_
    | refine wc_region ?_
    | refine wc_skip ?_
    | refine wc_ret ?_
    | refine at_ret1 (h:=?_)
    | refine wc_cond_false (hf:=?_))
    simp only [Nat.zero_add] at hm ⊢
    obtain ⟨I3, hle3, hm3, hrow3⟩ := (hm.front 0 rfl).freeze
    exact ⟨I3, [], ⟨rfl, a2, cp2, rfl, hrow3⟩, hm3.left (H := [])⟩
theorem pars_one (l : List Sp.Par) : (l.flatMap encPar).all (·.oneCell') = true := by
  induction l with
  | nil => rfl
  | cons p l ih => rw [List.flatMap_cons, List.all_append, ih]; rfl
theorem rfs_one (l : List Sp.Rf) : (l.flatMap encRf).all (·.oneCell') = true := by
  induction l with
  | nil => rfl
  | cons p l ih => rw [List.flatMap_cons, List.all_append, ih]; rfl
theorem dgs_one (l : List Sp.Dg) : (l.flatMap encDg).all (·.oneCell') = true := by
  induction l with
  | nil => rfl
  | cons p l ih => rw [List.flatMap_cons, List.all_append, ih]; rfl
end Go.Proofs.YthmdffgiockcbaaDoor
end
