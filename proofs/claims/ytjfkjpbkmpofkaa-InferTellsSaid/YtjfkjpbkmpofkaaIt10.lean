/- Own work: texts FwS3, FwMix, FwRow, one behind the other. -/
import Derived.Test.YtjfkjpbkmpofkaaIt9
section
namespace Go.Fw
open Go
def pickL (os : List Oper) : List Nat → List Oper
  | [] => []
  | k :: ks => match os[k]? with
    | some o => o :: pickL os ks
    | none => pickL os ks
section
variable {P : Program} {ops : Array Oper} {md : Region.Mode} {C : World → Prop}
def seqLB (md : Region.Mode) (ops : Array Oper) (g n : Nat) : List Nat → Array Bool → Bool
  | [], listed => Region.seqB md ops g n listed
  | k :: ks, listed => decide (Region.ready md ops listed = [k]) && decide (k < n) && seqLB md ops g n ks (listed.setIfInBounds k true)
def lexLB (md : Region.Mode) (ops : Array Oper) (g n : Nat) (js : List Nat) : List Nat → Array Bool → Bool
  | [], listed => seqLB md ops g n js listed
  | k :: ks, listed => (Region.ready md ops listed).contains k && Region.free md ops listed k && decide (k < n) && lexLB md ops g n js ks (listed.setIfInBounds k true)
theorem anyV_seqL {n g : Nat} {Lq : Act → World → Prop} : ∀ (js : List Nat) (l : List Oper) (listed : Array Bool) (a : Act) (w : World), js.map (ops[·]?) = l.map some →
    seqLB md ops g n js listed = true → seqV P ops C Lq l a w →
    anyV P md ops C n (fun listed' a' w' => Region.seqB md ops g n listed' = true ∧ Lq a' w') l.length listed a w
  | [], [], listed, a, w, _, hB, h => ⟨by simpa [seqLB] using hB, h⟩
  | k :: js, o :: l, listed, a, w, hl, hB, h => by
    simp only [List.map_cons, List.cons.injEq] at hl
    obtain ⟨h0, hl'⟩ := hl
    simp only [seqLB, Bool.and_eq_true, decide_eq_true_eq] at hB
    obtain ⟨⟨hB1, hkn⟩, hB2⟩ := hB
    refine ⟨fun h1 => (by rw [hB1] at h1; cases h1), fun i hi => ?_⟩
    rw [hB1] at hi
    have hik : i = k := by simpa using hi
    subst hik
    refine ⟨hkn, ?_⟩
    have next : ∀ a' w', seqV P ops C Lq l a' w' → anyV P md ops C n (fun listed' a' w' => Region.seqB md ops g n listed' = true ∧ Lq a' w') l.length (listed.setIfInBounds i true) a' w' := fun a' w' h' =>
      anyV_seqL js l _ a' w' hl' hB2 h'
    unfold vOp
    simp only [h0]
    unfold seqV at h
    split
    · rename_i hw
      rw [if_pos hw] at h
      rcases h with ⟨u, w', h1, h2, h3⟩ | ⟨f, args, h1, h2⟩
      · exact .inl ⟨u, w', h1, h2, next _ _ h3⟩
      · exact .inr ⟨f, args, h1, Calls.mono h2 (fun e w' ⟨u, he, hc, h⟩ => ⟨u, he, hc, next _ _ h⟩)⟩
    · rename_i hw
      rw [if_neg hw] at h
      exact ⟨h.1, next _ _ h.2⟩
  | [], _ :: _, _, _, _, hl, _, _ => by simp at hl
  | _ :: _, [], _, _, _, hl, _, _ => by simp at hl
theorem anyV_lexL {n g : Nat} {Lq : Act → World → Prop} {js : List Nat} {lt : List Oper} (hsel : Region.noSelect ops = true) (hs : Region.sinkB md ops n = true) (hc : Region.chainB md ops n = true) (hn : n < ops.size)
    (hlt : js.map (ops[·]?) = lt.map some) :
    ∀ (ks : List Nat) (l : List Oper) (listed : Array Bool) (a : Act) (w : World), C w → ks.map (ops[·]?) = l.map some → HeadInv md ops n listed →
    lexLB md ops g n js ks listed = true → pureV P ops C (fun a' => seqV P ops C Lq lt a' w) l a →
    anyV P md ops C n (fun listed' a' w' => Region.seqB md ops g n listed' = true ∧ Lq a' w') (l.length + lt.length) listed a w
  | [], [], listed, a, w, _, _, _, hB, h => by
    rw [List.length_nil, Nat.zero_add]
    exact anyV_seqL js lt listed a w hlt (by simpa [lexLB] using hB) h
  | k :: ks, o :: l, listed, a, w, hC, hl, inv, hB, h => by
    simp only [List.map_cons, List.cons.injEq] at hl
    obtain ⟨h0, hl'⟩ := hl
    simp only [lexLB, Bool.and_eq_true, decide_eq_true_eq] at hB
    obtain ⟨⟨⟨hr, hf⟩, hkn⟩, hB'⟩ := hB
    have hr' : k ∈ Region.ready md ops listed := by simpa using hr
    obtain ⟨v, hy, hK⟩ := h
    rw [show (o :: l).length + lt.length = (l.length + lt.length) + 1 by simp only [List.length_cons]; omega]
    exact v_first h0 (Region.noSelect_spec hsel) hs hc hn hkn (fun listed' a' w' hL => seqB_ready hL.1) (l.length + lt.length) listed a w hC inv (Region.free_spec h0 hf) hr' hy
      (anyV_lexL hsel hs hc hn hlt ks l _ _ w hC hl' (inv.set hr' hkn) hB' hK)
  | [], _ :: _, _, _, _, _, hl, _, _, _ => by simp at hl
  | _ :: _, [], _, _, _, _, hl, _, _, _ => by simp at hl
theorem pickL_map (os : List Oper) : ∀ (ks : List Nat), ks.all (fun k => Nat.blt k os.length) = true → ks.map (os.toArray[·]?) = (pickL os ks).map some ∧ (pickL os ks).length = ks.length
  | [], _ => ⟨rfl, rfl⟩
  | k :: ks, h => by
    rw [List.all_cons, Bool.and_eq_true] at h
    have hk : k < os.length := by simpa [Nat.blt_eq] using h.1
    obtain ⟨h1, h2⟩ := pickL_map os ks h.2
    have e : os[k]? = some os[k] := List.getElem?_eq_getElem hk
    rw [pickL, e]
    exact ⟨by simp only [List.map_cons]; rw [h1]; simp [e], by simp [h2]⟩
/-- the check: 'ks' are quiet, 'js' come in turn; these are the first 'n'. -/
def semiLB (ops : Array Oper) (ks js : List Nat) (n : Nat) : Bool :=
  Region.noSelect ops && decide (n < ops.size) && Region.sinkB .any ops n && Region.chainB .any ops n && lexLB .any ops (ops.size - n) n js ks (Array.replicate ops.size false) && decide (ks.length + js.length = n) &&
    ks.all (fun k => Nat.blt k ops.size) && js.all (fun k => Nat.blt k ops.size)
theorem wp_region_semiL {id : Nat} {Q : Exit → Act → World → Prop} {a : Act} {w : World} {l : List Oper} (ks js : List Nat) (n : Nat) (hm : P.follows .mixedOrders = true) (hB : semiLB l.toArray ks js n = true)
    (hC : C { w with drawn := w.drawn + 1 })
    (h : pureV P l.toArray C (fun a' => seqV P l.toArray C (fun a' w' => wpList P l.toArray Q (l.drop n) a' w') (pickL l js) a' { w with drawn := w.drawn + 1 }) (pickL l ks) a) : (Code.region id l.toArray true).wp P Q a w := by
  simp only [semiLB, Bool.and_eq_true, decide_eq_true_eq] at hB
  obtain ⟨⟨⟨⟨⟨⟨⟨hsel, hn⟩, hs⟩, hc⟩, hlex⟩, hlen⟩, hks⟩, hjs⟩ := hB
  have hn' : n < l.length := by simpa using hn
  have hdl : (l.drop n).length = l.toArray.size - n := by simp
  obtain ⟨k1, k2⟩ := pickL_map l ks (by simpa using hks)
  obtain ⟨j1, j2⟩ := pickL_map l js (by simpa using hjs)
  have inv0 : HeadInv .any l.toArray n (Array.replicate l.toArray.size false) :=
    ⟨by simp, fun j oj _ hl => (by rw [getD_replicate_false] at hl; cases hl), fun t _ ht => getD_in (by simpa using ht) (getD_replicate_false _ _)⟩
  have H := anyV_lexL (md := .any) (g := l.toArray.size - n) (lt := pickL l js) hsel hs hc hn j1 ks (pickL l ks) _ a _ hC k1 inv0 hlex h
  refine wp_region_any hm ?_
  have := any_of_v (Q' := Q) (g := l.toArray.size - n) (fun listed a' w' hL => by
    have := wpAny_of_seq (md := .any) (Q' := Q) (l.drop n) n listed a' w' (fun j => by simp [List.getElem?_drop]) (by rw [hdl]; exact hL.1) hL.2
    rwa [hdl] at this) _ _ _ _ H
  rw [k2, j2, hlen, show n + (l.toArray.size - n) = l.toArray.size by omega] at this
  exact this
end
section
variable {P : Program} {N : Nat} {ds : List Deferred} {X : List Nat} {Q : Exit → Act → World → Prop} {l : Log} {w : World} {os : List Oper} {E : Ent} {I : Imm} {G R : List HItem}
theorem wc_semiL [Mixed P] {id : Nat} (ks js : List Nat) (n : Nat) (X : List Nat) (hB : semiLB os.toArray ks js n = true)
    (h : ∀ wd, Kept [] w wd → WV P N ds os.toArray X wd (fun a' => seqV P os.toArray (fun w' => Kept X wd w') (fun a' w' => wpList P os.toArray Q (os.drop n) a' w') (pickL os js) a' wd) (pickL os ks) l) :
    WC P N ds (.region id os.toArray true) Q l w :=
  ⟨fun a ha => wp_region_semiL (C := fun w' => Kept X { w with drawn := w.drawn + 1 } w') ks js n Mixed.out hB (Kept.refl _ _) ((h _ (Kept.drew w)).run a ha)⟩
theorem wc_semi_memL [Mixed P] {id : Nat} (hm : Mem E I (G ++ R) w) (ks js : List Nat) (n : Nat) (hB : semiLB os.toArray ks js n = true := by kernel_rfl)
    (h : ∀ wd, Mem E I (G ++ R) wd → Mem ⟨wd, blks G, I⟩ I G wd → WV P N ds os.toArray (blks G) wd (fun a' => seqV P os.toArray (fun w' => Kept (blks G) wd w') (fun a' w' => wpList P os.toArray Q (os.drop n) a' w') (pickL os js) a' wd) (pickL os ks) l) :
    WC P N ds (.region id os.toArray true) Q l w :=
  wc_semiL ks js n (blks G) hB (fun wd hk => h wd (hm.kept0 hk) (hm.kept0 hk).sub)
variable {d : Nat} {ty : TypeId} {pos : String} {af : Array Edge} {g : Option (Nat × Bool)} {t t' : TypeId} {x y z : Operand} {ops : Array Oper} {os' tail : List Oper} {w0 : World} {I1 : Imm} {G1 H : List HItem}
/-- a call in turn that reads what lies beside. -/
theorem mt_readR {f : FuncId} [Own P f] {xs : List Operand} {tys : Array TypeId} {vs : List Value} {v : Value} (hR : Mem E I (G ++ R) w0) (hm : Mem ⟨w0, blks G, I⟩ I1 G1 w)
    (hw : want ops l ⟨some d, .call ⟨.value (.func f), xs.toArray, tys⟩, ty, pos, af, g⟩ = some true := by rfl) (hN : Nat.blt d N = true := by rfl)
    (hx : evs l xs = some vs := by rfl) (hs : ∀ h ∈ H, h ∈ R := by first | exact sub_nil | exact sub1_0 | exact sub1_1 | exact sub1_2 | exact sub1_3 | exact sub2_0 | exact sub2_1 | exact sub2_2 | exact sub2_3 | exact sub2_4) (hc : CalR P f vs.toArray I1 H v)
    (k : ∀ w', Mem ⟨w0, blks G, I⟩ I1 G1 w' → WS P N ds ops Q (blks G) w0 os' tail ((d, v) :: l) w') :
    WS P N ds ops Q (blks G) w0 (⟨some d, .call ⟨.value (.func f), xs.toArray, tys⟩, ty, pos, af, g⟩ :: os') tail l w :=
  ws_enter rfl hw hN (fun a ha => by
    have := ha.evs hx
    simp [execOp, resolve, invoke, Act.eval, Deferred.ofValue, this, run_callFunc]) (hc.run w hm.inv (fun h hh => (by
      have hr := hs h hh
      obtain ⟨i, hi⟩ := List.mem_iff_getElem?.1 hr
      exact (hR.right.ok h hr).kept hm.kept (fun b hb => hR.notG hi hb)))) (fun u w' ⟨h1, h2⟩ => by subst h1; exact ⟨(hm.kept0 h2).kept, k w' (hm.kept0 h2)⟩)
/-- a struct, built in turn. -/
theorem mt_struct {places : List (Nat × Nat)} {zero : List Value} [StructT P t places zero] {ps : List (Nat × Operand)} {vs : List (Nat × Value)} {r : List Value} {X : List Nat} {I0 : Imm} (hm : Mem ⟨w0, X, I0⟩ I1 G1 w)
    (hw : want ops l ⟨some d, .build t ps.toArray, ty, pos, af, g⟩ = some true := by rfl) (hN : Nat.blt d N = true := by rfl)
    (hx : evp l ps = some vs := by rfl) (hr : bld places zero vs = some r := by rfl) (k : WS P N ds ops Q X w0 os' tail ((d, .agg r.toArray) :: l) w) :
    WS P N ds ops Q X w0 (⟨some d, .build t ps.toArray, ty, pos, af, g⟩ :: os') tail l w :=
  ws_value rfl hw hN (fun a ha => by
    have e1 := ha.evp hx
    obtain ⟨fs, h1, h2, h3⟩ := StructT.out (P := P) (t := t)
    have h4 := run_underlying (P := P) (w := w) h1
    have h5 := run_places (P := P) w _ _ h2
    have h6 := fill_bld places vs zero r hr
    simp only [bind_pure_comp] at h5
    simp only [List.getElem?_toArray] at h6
    cases hi : P.info? t with
    | none => simp [hi] at h3
    | some i =>
      simp only [hi, Option.bind_some] at h3
      simp [execOp, Instr.build, e1, zeroValue, typeInfo, hi, h3, h4, Array.mapM_eq_mapM_toList, h5, Value.cells, h6]) hm.kept k
theorem iw_loadN {n : Nat} {KV : Act → Prop} [TyAgg P t n] {b off tc : Nat} {cs : List Value} (hR : Mem E I (G ++ R) w) (hw : want ops l ⟨some d, .load t x, ty, pos, af, g⟩ = some true := by rfl) (hN : Nat.blt d N = true := by rfl)
    (hx : ev l x = some (.pointer (some ⟨b, off, none⟩)) := by rfl) (hp : PtrI I b off tc cs := by assumption) (hc : cs.length = n := by rfl)
    (k : WV P N ds ops (blks G) w KV os ((d, .agg cs.toArray) :: l)) : WV P N ds ops (blks G) w KV (⟨some d, .load t x, ty, pos, af, g⟩ :: os) l := by
  obtain ⟨c, fr, h1, h2⟩ := hp
  exact v_loadN hw hN hx (hR.inv _ _ h1) (hR.notGI h1) hc h2 k
/-- a struct variable, made in turn. -/
theorem mt_allocS {pl : List (Nat × Nat)} {z : List Value} [hS : StructT P t pl z] {n by_ : Nat} [Elem P t n by_] {X : List Nat} {I0 : Imm} (hm : Mem ⟨w0, X, I0⟩ I H w) (hw : want ops l ⟨some d, .alloc t, ty, pos, af, g⟩ = some true := by rfl) (hN : Nat.blt d N = true := by rfl)
    (k : ∀ b w', Mem ⟨w0, X, I0⟩ I (.obj b (.cells z.toArray t (0, 0)) :: H) w' → WS P N ds ops Q X w0 os' tail ((d, .pointer (some ⟨b, 0, none⟩)) :: l) w') :
    WS P N ds ops Q X w0 (⟨some d, .alloc t, ty, pos, af, g⟩ :: os') tail l w := by
  obtain ⟨_, _, _, hz⟩ := hS.out
  cases hi : P.info? t with
  | none => simp [hi] at hz
  | some i =>
    simp only [hi, Option.bind_some] at hz
    have hk := Kept.alloc w (.cells z.toArray t (0, 0))
    have hm' := hm.add (x := .obj w.heap.size (.cells z.toArray t (0, 0))) hk (heap_alloc_new w _) (fun b hb => by simp only [HItem.blk, Option.some.injEq] at hb; omega)
    refine ws_value (w' := w.alloc (.cells z.toArray t (0, 0))) (v := .pointer (some ⟨w.heap.size, 0, none⟩)) rfl hw hN (fun a ha => ?_) hm'.kept (k _ _ hm')
    simp [execOp, Instr.alloc, newVar, newRow, newObj, zeroValue, typeInfo, hi, hz, Value.cells]; rfl
end
end Go.Fw
end
section
namespace Go.Fw
open Go
section
variable {P : Program} {ops : Array Oper} {md : Region.Mode} {C : World → Prop}
/-- step by step: quiet ones ('true'), and those in turn. -/
def mixF (P : Program) (ops : Array Oper) (C : World → Prop) (K : Act → World → Prop) : List (Bool × Oper) → Act → World → Prop
  | [], a, w => K a w
  | (true, o) :: r, a, w => ∃ v, YieldsV P ops C o v a ∧ mixF P ops C K r (a.put o.dst v) w
  | (false, o) :: r, a, w => if Region.wanted o (yielded ops a.tmps) then (∃ u w', (execOp a.eval o).run P w = .ok (.value u) w' ∧ C w' ∧ mixF P ops C K r (a.put o.dst u) w') ∨
      (∃ f args, (execOp a.eval o).run P w = .ok (.enter f args) w ∧ Calls P f args w (fun e w' => ∃ u, e = .returned u ∧ C w' ∧ mixF P ops C K r (a.put o.dst u) w')) else C w ∧ mixF P ops C K r (a.put o.dst undef) w
def mixB (md : Region.Mode) (ops : Array Oper) (g n : Nat) : List (Bool × Nat) → Array Bool → Bool
  | [], listed => Region.seqB md ops g n listed
  | (true, k) :: r, listed => (Region.ready md ops listed).contains k && Region.free md ops listed k && decide (k < n) && mixB md ops g n r (listed.setIfInBounds k true)
  | (false, k) :: r, listed => decide (Region.ready md ops listed = [k]) && decide (k < n) && mixB md ops g n r (listed.setIfInBounds k true)
theorem anyV_mix {n g : Nat} {Lq : Act → World → Prop} (hsel : Region.noSelect ops = true) (hs : Region.sinkB md ops n = true) (hc : Region.chainB md ops n = true) (hn : n < ops.size) :
    ∀ (st : List (Bool × Nat)) (l : List (Bool × Oper)) (listed : Array Bool) (a : Act) (w : World), C w → st.map (fun p => (p.1, ops[p.2]?)) = l.map (fun p => (p.1, some p.2)) → HeadInv md ops n listed →
    mixB md ops g n st listed = true → mixF P ops C Lq l a w →
    anyV P md ops C n (fun listed' a' w' => Region.seqB md ops g n listed' = true ∧ Lq a' w') l.length listed a w
  | [], [], listed, a, w, _, _, _, hB, h => ⟨by simpa [mixB] using hB, h⟩
  | (true, k) :: st, (b, o) :: l, listed, a, w, hC, hl, inv, hB, h => by
    simp only [List.map_cons, List.cons.injEq, Prod.mk.injEq] at hl
    obtain ⟨⟨hb, h0⟩, hl'⟩ := hl
    subst hb
    simp only [mixB, Bool.and_eq_true, decide_eq_true_eq] at hB
    obtain ⟨⟨⟨hr, hf⟩, hkn⟩, hB'⟩ := hB
    have hr' : k ∈ Region.ready md ops listed := by simpa using hr
    obtain ⟨v, hy, hK⟩ := h
    exact v_first h0 (Region.noSelect_spec hsel) hs hc hn hkn (fun listed' a' w' hL => seqB_ready hL.1) l.length listed a w hC inv (Region.free_spec h0 hf) hr' hy
      (anyV_mix hsel hs hc hn st l _ _ w hC hl' (inv.set hr' hkn) hB' hK)
  | (false, k) :: st, (b, o) :: l, listed, a, w, hC, hl, inv, hB, h => by
    simp only [List.map_cons, List.cons.injEq, Prod.mk.injEq] at hl
    obtain ⟨⟨hb, h0⟩, hl'⟩ := hl
    subst hb
    simp only [mixB, Bool.and_eq_true, decide_eq_true_eq] at hB
    obtain ⟨⟨hB1, hkn⟩, hB2⟩ := hB
    have hr' : k ∈ Region.ready md ops listed := by rw [hB1]; simp
    refine ⟨fun h1 => (by rw [hB1] at h1; cases h1), fun i hi => ?_⟩
    rw [hB1] at hi
    have hik : i = k := by simpa using hi
    subst hik
    refine ⟨hkn, ?_⟩
    have next : ∀ a' w', C w' → mixF P ops C Lq l a' w' → anyV P md ops C n (fun listed' a' w' => Region.seqB md ops g n listed' = true ∧ Lq a' w') l.length (listed.setIfInBounds i true) a' w' := fun a' w' hC' h' =>
      anyV_mix hsel hs hc hn st l _ a' w' hC' hl' (inv.set hr' hkn) hB2 h'
    unfold vOp
    simp only [h0]
    unfold mixF at h
    split
    · rename_i hw
      rw [if_pos hw] at h
      rcases h with ⟨u, w', h1, h2, h3⟩ | ⟨f, args, h1, h2⟩
      · exact .inl ⟨u, w', h1, h2, next _ _ h2 h3⟩
      · exact .inr ⟨f, args, h1, Calls.mono h2 (fun e w' ⟨u, he, hc, h⟩ => ⟨u, he, hc, next _ _ hc h⟩)⟩
    · rename_i hw
      rw [if_neg hw] at h
      exact ⟨h.1, next _ _ h.1 h.2⟩
  | [], _ :: _, _, _, _, _, hl, _, _, _ => by simp at hl
  | _ :: _, [], _, _, _, _, hl, _, _, _ => by simp at hl
/-- the same, in groups. -/
def mixV (P : Program) (ops : Array Oper) (C : World → Prop) (K : Act → World → Prop) : List (List Oper × List Oper) → Act → World → Prop
  | [], a, w => K a w
  | (q, t) :: r, a, w => pureV P ops C (fun a' => seqV P ops C (fun a'' w'' => mixV P ops C K r a'' w'') t a' w) q a
def flatG {α : Type} : List (List α × List α) → List (Bool × α)
  | [] => []
  | (q, t) :: r => q.map (fun x => (true, x)) ++ (t.map (fun x => (false, x)) ++ flatG r)
theorem seq_flat {K : Act → World → Prop} {r : List (Bool × Oper)} : ∀ (t : List Oper) (a : Act) (w : World), seqV P ops C (fun a' w' => mixF P ops C K r a' w') t a w → mixF P ops C K (t.map (fun x => (false, x)) ++ r) a w
  | [], a, w, h => h
  | o :: t, a, w, h => by
    unfold seqV at h
    rw [List.map_cons, List.cons_append]
    unfold mixF
    split
    · rename_i hw
      rw [if_pos hw] at h
      rcases h with ⟨u, w', h1, h2, h3⟩ | ⟨f, args, h1, h2⟩
      · exact .inl ⟨u, w', h1, h2, seq_flat t _ _ h3⟩
      · exact .inr ⟨f, args, h1, Calls.mono h2 (fun e w' ⟨u, he, hc, h⟩ => ⟨u, he, hc, seq_flat t _ _ h⟩)⟩
    · rename_i hw
      rw [if_neg hw] at h
      exact ⟨h.1, seq_flat t _ _ h.2⟩
theorem pure_flat {K : Act → World → Prop} {r : List (Bool × Oper)} {w : World} : ∀ (q : List Oper) (a : Act), pureV P ops C (fun a' => mixF P ops C K r a' w) q a → mixF P ops C K (q.map (fun x => (true, x)) ++ r) a w
  | [], a, h => h
  | o :: q, a, h => by
    obtain ⟨v, h1, h2⟩ := h
    exact ⟨v, h1, pure_flat q _ h2⟩
theorem seqV_mono {K K' : Act → World → Prop} (hk : ∀ a w, K a w → K' a w) : ∀ (t : List Oper) (a : Act) (w : World), seqV P ops C K t a w → seqV P ops C K' t a w
  | [], a, w, h => hk _ _ h
  | o :: t, a, w, h => by
    unfold seqV at h ⊢
    split
    · rename_i hw
      rw [if_pos hw] at h
      rcases h with ⟨u, w', h1, h2, h3⟩ | ⟨f, args, h1, h2⟩
      · exact .inl ⟨u, w', h1, h2, seqV_mono hk t _ _ h3⟩
      · exact .inr ⟨f, args, h1, Calls.mono h2 (fun e w' ⟨u, he, hc, h⟩ => ⟨u, he, hc, seqV_mono hk t _ _ h⟩)⟩
    · rename_i hw
      rw [if_neg hw] at h
      exact ⟨h.1, seqV_mono hk t _ _ h.2⟩
theorem pureV_mono {K K' : Act → Prop} (hk : ∀ a, K a → K' a) : ∀ (q : List Oper) (a : Act), pureV P ops C K q a → pureV P ops C K' q a
  | [], a, h => hk _ h
  | o :: q, a, h => by
    obtain ⟨v, h1, h2⟩ := h
    exact ⟨v, h1, pureV_mono hk q _ h2⟩
theorem mix_flat {K : Act → World → Prop} : ∀ (gs : List (List Oper × List Oper)) (a : Act) (w : World), mixV P ops C K gs a w → mixF P ops C K (flatG gs) a w
  | [], _, _, h => h
  | (q, t) :: r, a, w, h => pure_flat q a (pureV_mono (fun a' h' => seq_flat t a' w (seqV_mono (fun a'' w'' h'' => mix_flat r a'' w'' h'') t a' w h')) q a h)
def pickG (os : List Oper) : List (List Nat × List Nat) → List (List Oper × List Oper)
  | [] => []
  | (ks, js) :: r => (pickL os ks, pickL os js) :: pickG os r
def allG (n : Nat) : List (List Nat × List Nat) → Bool
  | [] => true
  | (ks, js) :: r => ks.all (fun k => Nat.blt k n) && (js.all (fun k => Nat.blt k n) && allG n r)
theorem pickG_map (os : List Oper) : ∀ (gs : List (List Nat × List Nat)), allG os.length gs = true → (flatG gs).map (fun p => (p.1, os.toArray[p.2]?)) = (flatG (pickG os gs)).map (fun p => (p.1, some p.2)) ∧ (flatG (pickG os gs)).length = (flatG gs).length
  | [], _ => ⟨rfl, rfl⟩
  | (ks, js) :: r, h => by
    simp only [allG, Bool.and_eq_true] at h
    obtain ⟨k1, k2⟩ := pickL_map os ks h.1
    obtain ⟨j1, j2⟩ := pickL_map os js h.2.1
    obtain ⟨r1, r2⟩ := pickG_map os r h.2.2
    constructor
    · simp only [pickG, flatG, List.map_append, List.map_map]
      rw [r1]
      have e : ∀ (b : Bool) (ks : List Nat) (l : List Oper), ks.map (os.toArray[·]?) = l.map some → ks.map ((fun p : Bool × Nat => (p.1, os.toArray[p.2]?)) ∘ fun x => (b, x)) = l.map ((fun p : Bool × Oper => (p.1, some p.2)) ∘ fun x => (b, x)) := fun b ks l hl => by
        have := congrArg (List.map (fun z => (b, z))) hl
        simpa [List.map_map, Function.comp_def] using this
      rw [e true ks _ k1, e false js _ j1]
    · simp only [pickG, flatG, List.length_append, List.length_map]
      rw [k2, j2, r2]
/-- the check. -/
def mixOk (ops : Array Oper) (gs : List (List Nat × List Nat)) (n : Nat) : Bool :=
  Region.noSelect ops && decide (n < ops.size) && Region.sinkB .any ops n && Region.chainB .any ops n && mixB .any ops (ops.size - n) n (flatG gs) (Array.replicate ops.size false) && decide ((flatG gs).length = n) && allG ops.size gs
theorem wp_region_mix {id : Nat} {Q : Exit → Act → World → Prop} {a : Act} {w : World} {l : List Oper} (gs : List (List Nat × List Nat)) (n : Nat) (hm : P.follows .mixedOrders = true) (hB : mixOk l.toArray gs n = true)
    (hC : C { w with drawn := w.drawn + 1 })
    (h : mixV P l.toArray C (fun a' w' => wpList P l.toArray Q (l.drop n) a' w') (pickG l gs) a { w with drawn := w.drawn + 1 }) : (Code.region id l.toArray true).wp P Q a w := by
  simp only [mixOk, Bool.and_eq_true, decide_eq_true_eq] at hB
  obtain ⟨⟨⟨⟨⟨⟨hsel, hn⟩, hs⟩, hc⟩, hlex⟩, hlen⟩, hall⟩ := hB
  have hn' : n < l.length := by simpa using hn
  have hdl : (l.drop n).length = l.toArray.size - n := by simp
  obtain ⟨k1, k2⟩ := pickG_map l gs (by simpa using hall)
  have inv0 : HeadInv .any l.toArray n (Array.replicate l.toArray.size false) :=
    ⟨by simp, fun j oj _ hl => (by rw [getD_replicate_false] at hl; cases hl), fun t _ ht => getD_in (by simpa using ht) (getD_replicate_false _ _)⟩
  have H := anyV_mix (md := .any) (g := l.toArray.size - n) hsel hs hc hn (flatG gs) (flatG (pickG l gs)) _ a _ hC k1 inv0 hlex (mix_flat _ _ _ h)
  refine wp_region_any hm ?_
  have := any_of_v (Q' := Q) (g := l.toArray.size - n) (fun listed a' w' hL => by
    have := wpAny_of_seq (md := .any) (Q' := Q) (l.drop n) n listed a' w' (fun j => by simp [List.getElem?_drop]) (by rw [hdl]; exact hL.1) hL.2
    rwa [hdl] at this) _ _ _ _ H
  rw [k2, hlen, show n + (l.toArray.size - n) = l.toArray.size by omega] at this
  exact this
end
section
variable {P : Program} {N : Nat} {ds : List Deferred} {X : List Nat} {Q : Exit → Act → World → Prop} {l : Log} {w w0 : World} {os tail : List Oper} {ops : Array Oper} {E : Ent} {I : Imm} {G R : List HItem}
/-- groups that are still to come. -/
structure WX (P : Program) (N : Nat) (ds : List Deferred) (ops : Array Oper) (Q : Exit → Act → World → Prop) (X : List Nat) (w0 : World) (gs : List (List Oper × List Oper)) (tail : List Oper) (l : Log) (w : World) : Prop where
  run : ∀ a, Fits N ds l a → mixV P ops (fun w' => Kept X w0 w') (fun a' w' => wpList P ops Q tail a' w') gs a w
theorem wc_mix_mem [Mixed P] {id : Nat} (hm : Mem E I (G ++ R) w) (gs : List (List Nat × List Nat)) (n : Nat) (hB : mixOk os.toArray gs n = true := by kernel_rfl)
    (h : ∀ wd, Mem E I (G ++ R) wd → Mem ⟨wd, blks G, I⟩ I G wd → WX P N ds os.toArray Q (blks G) wd (pickG os gs) (os.drop n) l wd) :
    WC P N ds (.region id os.toArray true) Q l w :=
  ⟨fun a ha => wp_region_mix (C := fun w' => Kept (blks G) { w with drawn := w.drawn + 1 } w') gs n Mixed.out hB (Kept.refl _ _) ((h _ (hm.kept0 (Kept.drew w)) (hm.kept0 (Kept.drew w)).sub).run a ha)⟩
theorem wx_nil (h : WL P N ds ops Q tail l w) : WX P N ds ops Q X w0 [] tail l w := ⟨fun a ha => h.run a ha⟩
theorem wx_cons {q t : List Oper} {r : List (List Oper × List Oper)} (h : WV P N ds ops X w0 (fun a' => seqV P ops (fun w' => Kept X w0 w') (fun a'' w'' => mixV P ops (fun w' => Kept X w0 w') (fun a' w' => wpList P ops Q tail a' w') r a'' w'') t a' w) q l) :
    WX P N ds ops Q X w0 ((q, t) :: r) tail l w := ⟨fun a ha => h.run a ha⟩
theorem wv_nilX {t : List Oper} {r : List (List Oper × List Oper)} (h : WS P N ds ops (fun _ a w => mixV P ops (fun w' => Kept X w0 w') (fun a' w' => wpList P ops Q tail a' w') r a w) X w0 t [] l w) :
    WV P N ds ops X w0 (fun a' => seqV P ops (fun w' => Kept X w0 w') (fun a'' w'' => mixV P ops (fun w' => Kept X w0 w') (fun a' w' => wpList P ops Q tail a' w') r a'' w'') t a' w) [] l := ⟨fun a ha => by
  refine seqV_mono (fun a' w' h' => ?_) t a w (h.run a ha)
  simpa [wpList] using h'⟩
theorem at_X {r : List (List Oper × List Oper)} (h : WX P N ds ops Q X w0 r tail l w) : At N ds (fun _ a w => mixV P ops (fun w' => Kept X w0 w') (fun a' w' => wpList P ops Q tail a' w') r a w) .normal l w := ⟨fun a ha => h.run a ha⟩
end
end Go.Fw
end
section
namespace Go.Fw
open Go
section
variable {P : Program} {N : Nat} {ds : List Deferred} {Q : Exit → Act → World → Prop} {K : Act → World → Prop} {l l' : Log} {w w' : World} {ops : Array Oper} {os : List Oper}
variable {d : Nat} {ty : TypeId} {pos : String} {af : Array Edge} {g : Option (Nat × Bool)} {t t' : TypeId} {x y z : Operand}
variable {E : Ent} {I I' : Imm} {H H' R : List HItem}
theorem op_eql_nilslice {e : TypeId} [TySlice P t e] {a : Option Addr} {n c : Nat} {k0 : Value} (hw : want ops l ⟨some d, .binOp .eql t x (.const k0) t', ty, pos, af, g⟩ = some true := by rfl) (hN : Nat.blt d N = true := by rfl)
    (hx : ev l x = some (.slice a n c) := by rfl) (hk : k0 = .slice none 0 0 := by rfl) (k : WL P N ds ops Q os ((d, .bool a.isNone) :: l) w) :
    WL P N ds ops Q (⟨some d, .binOp .eql t x (.const k0) t', ty, pos, af, g⟩ :: os) l w :=
  wl_value rfl hw hN (fun c' hc => by
    subst hk
    have h1 := run_underlying (P := P) (w := w) (TySlice.out (P := P) (t := t))
    have e2 : c'.eval (.const (.slice none 0 0)) = .slice none 0 0 := rfl
    have h2 : (Op.equal t (.slice a n c) (.slice none 0 0)).run P w = .ok a.isNone w := by
      show (Op.equalIn (9999 + 1) t (.slice a n c) (.slice none 0 0)).run P w = _
      rw [Op.equalIn]
      cases a <;> simp [h1]
    simp [execOp, hc.ev hx, e2, eqGuard, binOp, h2]) k
theorem m_buildRow {e : TypeId} {sz by_ n : Nat} [TySlice P t e] [Elem P e sz by_] {ps : List (Nat × Operand)} {vs : List (Nat × Value)} {xs : List Value} (hm : Mem E I H w)
    (hw : want ops l ⟨some d, .buildSlice t n ps.toArray, ty, pos, af, g⟩ = some true := by rfl) (hN : Nat.blt d N = true := by rfl) (hx : evp l ps = some vs := by rfl)
    (hi : vs.map (·.1) = List.range' 0 n := by rfl) (hs : vs.all (fun p => Nat.beq p.2.cells.toList.length sz) = true := by rfl) (hn : Nat.ble (n * sz) 16777216 = true := by rfl) (hn2 : Nat.ble n 16777216 = true := by rfl) (hxs : vs.flatMap (·.2.cells.toList) = xs := by rfl) (hl : xs.length = n * sz := by rfl)
    (k : ∀ b w', Mem E I (.row (.slice (some ⟨b, 0, none⟩) n n) e sz n xs :: H) w' → WL P N ds ops Q os ((d, .slice (some ⟨b, 0, none⟩) n n) :: l) w') :
    WL P N ds ops Q (⟨some d, .buildSlice t n ps.toArray, ty, pos, af, g⟩ :: os) l w := by
  subst hxs
  refine op_buildSlice hw hN hx hi hs (Nat.le_of_ble_eq_true hn) (fun b w' hb hh hk => k b w' (hm.add hk ⟨hl, .inr ⟨b, n, _, rfl, Nat.zero_le _, hh, Nat.le_refl _, ?_, by simpa using hl, ?_⟩⟩ (fun b' hb' => ?_)))
  · have := Nat.le_of_ble_eq_true hn2
    unfold maxLen; omega
  · rw [← hl]; exact List.take_length
  · simp only [HItem.blk, Value.ownBlock, Option.some.injEq] at hb'; omega
/-- 'append(s, u...)' of a slice that turns no more. -/
theorem m_appendR {e : TypeId} {sz by_ : Nat} [TySlice P t e] [Elem P e sz by_] {i : Nat} {v : Value} {n m cp : Nat} {ad : Addr} {xs us : List Value} (hm : Mem E I H w)
    (hw : want ops l ⟨some d, .call ⟨.builtin .append, #[x, y], #[t, t]⟩, ty, pos, af, g⟩ = some true := by rfl) (hN : Nat.blt d N = true := by rfl)
    (hx : ev l x = some v := by rfl) (hy : ev l y = some (.slice (some ad) m cp) := by rfl) (hi : H[i]? = some (.row v e sz n xs) := by first | exact gt0 | exact gt1 | exact gt2 | exact gt3 | exact gt4 | exact gt5 | exact gt6) (hr : RowI I e sz (.slice (some ad) m cp) m us) (h1 : us.all (·.oneCell') = true)
    (hlen : (n + m) * by_ ≤ 140737488355328 := by omega) (h63 : n + m ≤ 9223372036854775807 := by omega)
    (k : ∀ a cp' w', Mem E I (H.set i (.row (.slice a (n + m) cp') e sz (n + m) (xs ++ us))) w' → WL P N ds ops Q os ((d, .slice a (n + m) cp') :: l) w') :
    WL P N ds ops Q (⟨some d, .call ⟨.builtin .append, #[x, y], #[t, t]⟩, ty, pos, af, g⟩ :: os) l w := by
  have hown := hm.getRow hi
  have hus := hr.len
  have hcell : ∀ j u, us[j]? = some u → w.cell? (ad.add j) = some u := fun j u hj => by
    obtain ⟨_, a', cap', e1, e2, e3⟩ := hr
    injection e1 with e1 _ _
    have hm0 : 0 < m := by
      rcases Nat.eq_zero_or_pos m with h0 | h0
      · rw [h0, Nat.zero_mul] at hus
        have := List.eq_nil_of_length_eq_zero hus
        subst this
        simp at hj
      · exact h0
    obtain ⟨b, off, c, fr, f1, f2, f3⟩ := e3 hm0
    rw [f1] at e1
    injection e1 with e1
    subst e1
    rw [Addr.add_lit]
    exact cell_of (hm.inv _ _ f2) (f3 j u hj)
  obtain ⟨v', w', hrun, ho, hk, hb⟩ := run_append (P := P) (t := t) hown ad m cp us hus hcell (fun r hr => List.all_eq_true.1 h1 r hr) h63 hlen (Nat.zero_le _) ty
  have hm' := hm.turn (h' := .row v' e sz (n + m) (xs ++ us)) hi hk ho (hb.imp_right fun ⟨g, h1, h2⟩ => ⟨g, h1, h2⟩)
  have hlt : i < H.length := (List.getElem?_eq_some_iff.1 hi).1
  obtain ⟨a, cp', rfl⟩ := own_val (hm'.getRow (i := i) (by rw [List.getElem?_set]; simp [hlt]; exact ⟨rfl, rfl, rfl, rfl, rfl⟩))
  refine wl_value (w' := w') (v := .slice a (n + m) cp') rfl hw hN (fun a ha => ?_) (k a cp' w' hm')
  simp [execOp, resolve, invoke, builtin, ha.ev hx, ha.ev hy, hrun]
theorem mw_loadN {G : List HItem} {KV : Act → Prop} {n : Nat} [TyAgg P t n] {i b off : Nat} {c : List Value} {e : TypeId} {fr : Nat × Nat} {vs : List Value} (hR : Mem E I (G ++ R) w) (hw : want ops l ⟨some d, .load t x, ty, pos, af, g⟩ = some true := by rfl) (hN : Nat.blt d N = true := by rfl)
    (hx : ev l x = some (.pointer (some ⟨b, off, none⟩)) := by rfl) (hb : R[i]? = some (.obj b (.cells c.toArray e fr)) := by first | exact gt0 | exact gt1 | exact gt2 | exact gt3 | exact gt4 | exact gt5 | exact gt6) (hc : (c.drop off).take n = vs := by rfl) (hl : vs.length = n := by rfl)
    (k : WV P N ds ops (blks G) w KV os ((d, .agg vs.toArray) :: l)) : WV P N ds ops (blks G) w KV (⟨some d, .load t x, ty, pos, af, g⟩ :: os) l :=
  v_loadN hw hN hx (hR.right.get hb) (hR.notG hb rfl) hl (fun j v hv => by
    rw [← hc, List.getElem?_take] at hv
    split at hv
    · rw [List.getElem?_drop] at hv; simpa using hv
    · cases hv) k
end
end Go.Fw
end
