/- Own work: texts FwS3, PpA, PLex, one behind the other. -/
import Derived.Test.YthmdffgiockcbaaDoorIf9
section
namespace Go.Fw
open Go
def pickL (os : List Oper) : List Nat → List Oper
  | [] => []
  | k :: ks => match os[k]? with
    | some o => o :: pickL os ks
    | none => pickL os ks
section
variable {P : Program} {ops : Array Oper} {md : Region.Mode} {C : World → Prop}
def seqLB (md : Region.Mode) (ops : Array Oper) (g n : Nat) : List Nat → Array Bool → Bool
  | [], listed => Region.seqB md ops g n listed
  | k :: ks, listed => decide (Region.ready md ops listed = [k]) && decide (k < n) && seqLB md ops g n ks (listed.setIfInBounds k true)
def lexLB (md : Region.Mode) (ops : Array Oper) (g n : Nat) (js : List Nat) : List Nat → Array Bool → Bool
  | [], listed => seqLB md ops g n js listed
  | k :: ks, listed => (Region.ready md ops listed).contains k && Region.free md ops listed k && decide (k < n) && lexLB md ops g n js ks (listed.setIfInBounds k true)
theorem anyV_seqL {n g : Nat} {Lq : Act → World → Prop} : ∀ (js : List Nat) (l : List Oper) (listed : Array Bool) (a : Act) (w : World), js.map (ops[·]?) = l.map some →
    seqLB md ops g n js listed = true → seqV P ops C Lq l a w →
    anyV P md ops C n (fun listed' a' w' => Region.seqB md ops g n listed' = true ∧ Lq a' w') l.length listed a w
  | [], [], listed, a, w, _, hB, h => ⟨by simpa [seqLB] using hB, h⟩
  | k :: js, o :: l, listed, a, w, hl, hB, h => by
    simp only [List.map_cons, List.cons.injEq] at hl
    obtain ⟨h0, hl'⟩ := hl
    simp only [seqLB, Bool.and_eq_true, decide_eq_true_eq] at hB
    obtain ⟨⟨hB1, hkn⟩, hB2⟩ := hB
    refine ⟨fun h1 => (by rw [hB1] at h1; cases h1), fun i hi => ?_⟩
    rw [hB1] at hi
    have hik : i = k := by simpa using hi
    subst hik
    refine ⟨hkn, ?_⟩
    have next : ∀ a' w', seqV P ops C Lq l a' w' → anyV P md ops C n (fun listed' a' w' => Region.seqB md ops g n listed' = true ∧ Lq a' w') l.length (listed.setIfInBounds i true) a' w' := fun a' w' h' =>
      anyV_seqL js l _ a' w' hl' hB2 h'
    unfold vOp
    simp only [h0]
    unfold seqV at h
    split
    · rename_i hw
      rw [if_pos hw] at h
      rcases h with ⟨u, w', h1, h2, h3⟩ | ⟨f, args, h1, h2⟩
      · exact .inl ⟨u, w', h1, h2, next _ _ h3⟩
      · exact .inr ⟨f, args, h1, Calls.mono h2 (fun e w' ⟨u, he, hc, h⟩ => ⟨u, he, hc, next _ _ h⟩)⟩
    · rename_i hw
      rw [if_neg hw] at h
      exact ⟨h.1, next _ _ h.2⟩
  | [], _ :: _, _, _, _, hl, _, _ => by simp at hl
  | _ :: _, [], _, _, _, hl, _, _ => by simp at hl
theorem anyV_lexL {n g : Nat} {Lq : Act → World → Prop} {js : List Nat} {lt : List Oper} (hsel : Region.noSelect ops = true) (hs : Region.sinkB md ops n = true) (hc : Region.chainB md ops n = true) (hn : n < ops.size)
    (hlt : js.map (ops[·]?) = lt.map some) :
    ∀ (ks : List Nat) (l : List Oper) (listed : Array Bool) (a : Act) (w : World), C w → ks.map (ops[·]?) = l.map some → HeadInv md ops n listed →
    lexLB md ops g n js ks listed = true → pureV P ops C (fun a' => seqV P ops C Lq lt a' w) l a →
    anyV P md ops C n (fun listed' a' w' => Region.seqB md ops g n listed' = true ∧ Lq a' w') (l.length + lt.length) listed a w
  | [], [], listed, a, w, _, _, _, hB, h => by
    rw [List.length_nil, Nat.zero_add]
    exact anyV_seqL js lt listed a w hlt (by simpa [lexLB] using hB) h
  | k :: ks, o :: l, listed, a, w, hC, hl, inv, hB, h => by
    simp only [List.map_cons, List.cons.injEq] at hl
    obtain ⟨h0, hl'⟩ := hl
    simp only [lexLB, Bool.and_eq_true, decide_eq_true_eq] at hB
    obtain ⟨⟨⟨hr, hf⟩, hkn⟩, hB'⟩ := hB
    have hr' : k ∈ Region.ready md ops listed := by simpa using hr
    obtain ⟨v, hy, hK⟩ := h
    rw [show (o :: l).length + lt.length = (l.length + lt.length) + 1 by simp only [List.length_cons]; omega]
    exact v_first h0 (Region.noSelect_spec hsel) hs hc hn hkn (fun listed' a' w' hL => seqB_ready hL.1) (l.length + lt.length) listed a w hC inv (Region.free_spec h0 hf) hr' hy
      (anyV_lexL hsel hs hc hn hlt ks l _ _ w hC hl' (inv.set hr' hkn) hB' hK)
  | [], _ :: _, _, _, _, _, hl, _, _, _ => by simp at hl
  | _ :: _, [], _, _, _, _, hl, _, _, _ => by simp at hl
theorem pickL_map (os : List Oper) : ∀ (ks : List Nat), ks.all (fun k => Nat.blt k os.length) = true → ks.map (os.toArray[·]?) = (pickL os ks).map some ∧ (pickL os ks).length = ks.length
  | [], _ => ⟨rfl, rfl⟩
  | k :: ks, h => by
    rw [List.all_cons, Bool.and_eq_true] at h
    have hk : k < os.length := by simpa [Nat.blt_eq] using h.1
    obtain ⟨h1, h2⟩ := pickL_map os ks h.2
    have e : os[k]? = some os[k] := List.getElem?_eq_getElem hk
    rw [pickL, e]
    exact ⟨by simp only [List.map_cons]; rw [h1]; simp [e], by simp [h2]⟩
/-- the check: 'ks' are quiet, 'js' come in turn; these are the first 'n'. -/
def semiLB (ops : Array Oper) (ks js : List Nat) (n : Nat) : Bool :=
  Region.noSelect ops && decide (n < ops.size) && Region.sinkB .any ops n && Region.chainB .any ops n && lexLB .any ops (ops.size - n) n js ks (Array.replicate ops.size false) && decide (ks.length + js.length = n) &&
    ks.all (fun k => Nat.blt k ops.size) && js.all (fun k => Nat.blt k ops.size)
theorem wp_region_semiL {id : Nat} {Q : Exit → Act → World → Prop} {a : Act} {w : World} {l : List Oper} (ks js : List Nat) (n : Nat) (hm : P.follows .mixedOrders = true) (hB : semiLB l.toArray ks js n = true)
    (hC : C { w with drawn := w.drawn + 1 })
    (h : pureV P l.toArray C (fun a' => seqV P l.toArray C (fun a' w' => wpList P l.toArray Q (l.drop n) a' w') (pickL l js) a' { w with drawn := w.drawn + 1 }) (pickL l ks) a) : (Code.region id l.toArray true).wp P Q a w := by
  simp only [semiLB, Bool.and_eq_true, decide_eq_true_eq] at hB
  obtain ⟨⟨⟨⟨⟨⟨⟨hsel, hn⟩, hs⟩, hc⟩, hlex⟩, hlen⟩, hks⟩, hjs⟩ := hB
  have hn' : n < l.length := by simpa using hn
  have hdl : (l.drop n).length = l.toArray.size - n := by simp
  obtain ⟨k1, k2⟩ := pickL_map l ks (by simpa using hks)
  obtain ⟨j1, j2⟩ := pickL_map l js (by simpa using hjs)
  have inv0 : HeadInv .any l.toArray n (Array.replicate l.toArray.size false) :=
    ⟨by simp, fun j oj _ hl => (by rw [getD_replicate_false] at hl; cases hl), fun t _ ht => getD_in (by simpa using ht) (getD_replicate_false _ _)⟩
  have H := anyV_lexL (md := .any) (g := l.toArray.size - n) (lt := pickL l js) hsel hs hc hn j1 ks (pickL l ks) _ a _ hC k1 inv0 hlex h
  refine wp_region_any hm ?_
  have := any_of_v (Q' := Q) (g := l.toArray.size - n) (fun listed a' w' hL => by
    have := wpAny_of_seq (md := .any) (Q' := Q) (l.drop n) n listed a' w' (fun j => by simp [List.getElem?_drop]) (by rw [hdl]; exact hL.1) hL.2
    rwa [hdl] at this) _ _ _ _ H
  rw [k2, j2, hlen, show n + (l.toArray.size - n) = l.toArray.size by omega] at this
  exact this
end
section
variable {P : Program} {N : Nat} {ds : List Deferred} {X : List Nat} {Q : Exit → Act → World → Prop} {l : Log} {w : World} {os : List Oper} {E : Ent} {I : Imm} {G R : List HItem}
theorem wc_semiL [Mixed P] {id : Nat} (ks js : List Nat) (n : Nat) (X : List Nat) (hB : semiLB os.toArray ks js n = true)
    (h : ∀ wd, Kept [] w wd → WV P N ds os.toArray X wd (fun a' => seqV P os.toArray (fun w' => Kept X wd w') (fun a' w' => wpList P os.toArray Q (os.drop n) a' w') (pickL os js) a' wd) (pickL os ks) l) :
    WC P N ds (.region id os.toArray true) Q l w :=
  ⟨fun a ha => wp_region_semiL (C := fun w' => Kept X { w with drawn := w.drawn + 1 } w') ks js n Mixed.out hB (Kept.refl _ _) ((h _ (Kept.drew w)).run a ha)⟩
theorem wc_semi_memL [Mixed P] {id : Nat} (hm : Mem E I (G ++ R) w) (ks js : List Nat) (n : Nat) (hB : semiLB os.toArray ks js n = true := by kernel_rfl)
    (h : ∀ wd, Mem E I (G ++ R) wd → Mem ⟨wd, blks G, I⟩ I G wd → WV P N ds os.toArray (blks G) wd (fun a' => seqV P os.toArray (fun w' => Kept (blks G) wd w') (fun a' w' => wpList P os.toArray Q (os.drop n) a' w') (pickL os js) a' wd) (pickL os ks) l) :
    WC P N ds (.region id os.toArray true) Q l w :=
  wc_semiL ks js n (blks G) hB (fun wd hk => h wd (hm.kept0 hk) (hm.kept0 hk).sub)
variable {d : Nat} {ty : TypeId} {pos : String} {af : Array Edge} {g : Option (Nat × Bool)} {t t' : TypeId} {x y z : Operand} {ops : Array Oper} {os' tail : List Oper} {w0 : World} {I1 : Imm} {G1 H : List HItem}
/-- a call in turn that reads what lies beside. -/
theorem mt_readR {f : FuncId} [Own P f] {xs : List Operand} {tys : Array TypeId} {vs : List Value} {v : Value} (hR : Mem E I (G ++ R) w0) (hm : Mem ⟨w0, blks G, I⟩ I1 G1 w)
    (hw : want ops l ⟨some d, .call ⟨.value (.func f), xs.toArray, tys⟩, ty, pos, af, g⟩ = some true := by rfl) (hN : Nat.blt d N = true := by rfl)
    (hx : evs l xs = some vs := by rfl) (hs : ∀ h ∈ H, h ∈ R := by first | exact sub_nil | exact sub1_0 | exact sub1_1 | exact sub1_2 | exact sub1_3 | exact sub2_0 | exact sub2_1 | exact sub2_2 | exact sub2_3 | exact sub2_4) (hc : CalR P f vs.toArray I1 H v)
    (k : ∀ w', Mem ⟨w0, blks G, I⟩ I1 G1 w' → WS P N ds ops Q (blks G) w0 os' tail ((d, v) :: l) w') :
    WS P N ds ops Q (blks G) w0 (⟨some d, .call ⟨.value (.func f), xs.toArray, tys⟩, ty, pos, af, g⟩ :: os') tail l w :=
  ws_enter rfl hw hN (fun a ha => by
    have := ha.evs hx
    simp [execOp, resolve, invoke, Act.eval, Deferred.ofValue, this, run_callFunc]) (hc.run w hm.inv (fun h hh => (by
      have hr := hs h hh
      obtain ⟨i, hi⟩ := List.mem_iff_getElem?.1 hr
      exact (hR.right.ok h hr).kept hm.kept (fun b hb => hR.notG hi hb)))) (fun u w' ⟨h1, h2⟩ => by subst h1; exact ⟨(hm.kept0 h2).kept, k w' (hm.kept0 h2)⟩)
/-- a struct, built in turn. -/
theorem mt_struct {places : List (Nat × Nat)} {zero : List Value} [StructT P t places zero] {ps : List (Nat × Operand)} {vs : List (Nat × Value)} {r : List Value} {X : List Nat} {I0 : Imm} (hm : Mem ⟨w0, X, I0⟩ I1 G1 w)
    (hw : want ops l ⟨some d, .build t ps.toArray, ty, pos, af, g⟩ = some true := by rfl) (hN : Nat.blt d N = true := by rfl)
    (hx : evp l ps = some vs := by rfl) (hr : bld places zero vs = some r := by rfl) (k : WS P N ds ops Q X w0 os' tail ((d, .agg r.toArray) :: l) w) :
    WS P N ds ops Q X w0 (⟨some d, .build t ps.toArray, ty, pos, af, g⟩ :: os') tail l w :=
  ws_value rfl hw hN (fun a ha => by
    have e1 := ha.evp hx
    obtain ⟨fs, h1, h2, h3⟩ := StructT.out (P := P) (t := t)
    have h4 := run_underlying (P := P) (w := w) h1
    have h5 := run_places (P := P) w _ _ h2
    have h6 := fill_bld places vs zero r hr
    simp only [bind_pure_comp] at h5
    simp only [List.getElem?_toArray] at h6
    cases hi : P.info? t with
    | none => simp [hi] at h3
    | some i =>
      simp only [hi, Option.bind_some] at h3
      simp [execOp, Instr.build, e1, zeroValue, typeInfo, hi, h3, h4, Array.mapM_eq_mapM_toList, h5, Value.cells, h6]) hm.kept k
theorem iw_indexFlat {α : Type} {enc : α → List Value} {e : TypeId} {sz by_ : Nat} {X : List Nat} {KV : Act → Prop} {os : List Oper} [TySlice P t e] [Elem P e sz by_] {a : Option Addr} {n cp : Nat} {i : Int} {xs : List α} {z : α} (hw : want ops l ⟨some d, .indexAddr t x y, ty, pos, af, g⟩ = some true := by rfl) (hN : Nat.blt d N = true := by rfl)
    (hx : ev l x = some (.slice a n cp) := by rfl) (hy : ev l y = some (.int .i64 i) := by rfl) (hr : RowI I e sz (.slice a n cp) n (xs.flatMap enc)) (he : ∀ a, (enc a).length = sz) (h0 : 0 ≤ i := by omega) (h1 : i < n := by omega) (hz : xs[i.toNat]? = some z)
    (k : ∀ b off, PtrI I b off e (enc z) → WV P N ds ops X w KV os ((d, .pointer (some ⟨b, off, none⟩)) :: l)) :
    WV P N ds ops X w KV (⟨some d, .indexAddr t x y, ty, pos, af, g⟩ :: os) l := by
  obtain ⟨b, off, rfl, hp⟩ := hr.flat he hz (by omega)
  exact v_indexAddr hw hN hx hy h0 h1 (k b _ hp)
theorem iw_loadN {n : Nat} {KV : Act → Prop} [TyAgg P t n] {b off tc : Nat} {cs : List Value} (hR : Mem E I (G ++ R) w) (hw : want ops l ⟨some d, .load t x, ty, pos, af, g⟩ = some true := by rfl) (hN : Nat.blt d N = true := by rfl)
    (hx : ev l x = some (.pointer (some ⟨b, off, none⟩)) := by rfl) (hp : PtrI I b off tc cs := by assumption) (hc : cs.length = n := by rfl)
    (k : WV P N ds ops (blks G) w KV os ((d, .agg cs.toArray) :: l)) : WV P N ds ops (blks G) w KV (⟨some d, .load t x, ty, pos, af, g⟩ :: os) l := by
  obtain ⟨c, fr, h1, h2⟩ := hp
  exact v_loadN hw hN hx (hR.inv _ _ h1) (hR.notGI h1) hc h2 k
/-- a struct variable, made in turn. -/
theorem mt_allocS {pl : List (Nat × Nat)} {z : List Value} [hS : StructT P t pl z] {n by_ : Nat} [Elem P t n by_] {X : List Nat} {I0 : Imm} (hm : Mem ⟨w0, X, I0⟩ I H w) (hw : want ops l ⟨some d, .alloc t, ty, pos, af, g⟩ = some true := by rfl) (hN : Nat.blt d N = true := by rfl)
    (k : ∀ b w', Mem ⟨w0, X, I0⟩ I (.obj b (.cells z.toArray t (0, 0)) :: H) w' → WS P N ds ops Q X w0 os' tail ((d, .pointer (some ⟨b, 0, none⟩)) :: l) w') :
    WS P N ds ops Q X w0 (⟨some d, .alloc t, ty, pos, af, g⟩ :: os') tail l w := by
  obtain ⟨_, _, _, hz⟩ := hS.out
  cases hi : P.info? t with
  | none => simp [hi] at hz
  | some i =>
    simp only [hi, Option.bind_some] at hz
    have hk := Kept.alloc w (.cells z.toArray t (0, 0))
    have hm' := hm.add (x := .obj w.heap.size (.cells z.toArray t (0, 0))) hk (heap_alloc_new w _) (fun b hb => by simp only [HItem.blk, Option.some.injEq] at hb; omega)
    refine ws_value (w' := w.alloc (.cells z.toArray t (0, 0))) (v := .pointer (some ⟨w.heap.size, 0, none⟩)) rfl hw hN (fun a ha => ?_) hm'.kept (k _ _ hm')
    simp [execOp, Instr.alloc, newVar, newRow, newObj, zeroValue, typeInfo, hi, hz, Value.cells]; rfl
end
end Go.Fw
end
section
namespace Go.Proofs.YthmdffgiockcbaaDoor
open Go.Fw
/-- the parser's cells. -/
abbrev qObj (pb : Nat) (la : Option Addr) (lc : Nat) (T : Sp.Src) (s : Sp.St) (deep : Nat) (da : Option Addr) (dc : Nat) : HItem :=
  .obj pb (.cells [.slice la T.l.length lc, nt s.i, nt T.size, .slice da s.ds.length dc, nt deep].toArray 96 (0, 0))
/-- the parser, and what it told. -/
abbrev QSt (pb : Nat) (la : Option Addr) (lc : Nat) (T : Sp.Src) (s : Sp.St) (deep : Nat) (da : Option Addr) (dc : Nat) : List HItem := [qObj pb la lc T s deep da dc, dgRow s.ds da dc]
section
variable {I : Imm} {pb deep lc dc : Nat} {la da : Option Addr} {T : Sp.Src}

theorem p_here (s : Sp.St) (hr : TokR I T la lc) : CalR Tryd.prog 30 #[ptr pb] I [qObj pb la lc T s deep da dc] (nt (T.tok s.i).pos) := by
  refine CalR.of fun w J hm hl hH hJ => enter (N := 28) Tryd.func30 rfl [(0, ptr pb)] args1 rfl ?_
  have hp := immOf_ptr (hH _ List.mem_cons_self)
  rw [← hJ] at hp
  replace hr := hr.le hl
  by_cases hi : s.i < T.l.length
  · have htk := tok_get hi
    repeat' (first
    | (refine iq_indexFlat (hr:=by exact hr) (he:=by intro _; rfl) (hz:=by exact htk) (k:=?_); intro b1 o1 hp1)
    | refine iq_load1 hm (k:=?_)
    | refine op_assign (k:=?_)
    | refine wl_nil ?_
    | refine at_then_normal ?_
    | refine at_then_ret ?_
    | refine wc_seq ?_
    | refine wc_region ?_
    | refine wc_ret ?_
    | refine at_ret1 (h:=?_)
    | refine wc_quiet (h:=?_)
    | (refine wq_nil ?_; intro _ hkq; replace hm := hm.kept0 hkq; clear hkq)
    | (refine wc_cond_dec (ht:=fun _ => ?_) (hf:=fun _ => ?_)<;> (try first | contradiction | (exfalso; omega)))
    | refine q_move (k:=?_)
    | refine q_assign (k:=?_)
    | refine q_lss (k:=?_)
    | refine q_len_slice (k:=?_)
    | refine q_nilCheck (k:=?_)
    | refine q_fieldAddr (k:=?_))
    exact ⟨rfl, hm.kept⟩
  · have he : T.tok s.i = ⟨0, [], T.size⟩ := Sp.tok_end (by omega)
    rw [he]
    repeat' (first
    | refine i_load1 hm (k:=?_)
    | refine iq_load1 hm (k:=?_)
    | refine op_move (k:=?_)
    | refine op_assign (k:=?_)
    | refine op_nilCheck (k:=?_)
    | refine op_fieldAddr (k:=?_)
    | refine wl_nil ?_
    | refine at_then_normal ?_
    | refine wc_seq ?_
    | refine wc_region ?_
    | refine wc_skip ?_
    | refine wc_ret ?_
    | refine at_ret1 (h:=?_)
    | refine wc_quiet (h:=?_)
    | (refine wq_nil ?_; intro _ hkq; replace hm := hm.kept0 hkq; clear hkq)
    | (refine wc_cond_dec (ht:=fun _ => ?_) (hf:=fun _ => ?_)<;> (try first | contradiction | (exfalso; omega)))
    | refine q_move (k:=?_)
    | refine q_lss (k:=?_)
    | refine q_len_slice (k:=?_)
    | refine q_nilCheck (k:=?_)
    | refine q_fieldAddr (k:=?_))
    exact ⟨rfl, hm.kept⟩
theorem p_peek (s : Sp.St) (hr : TokR I T la lc) : CalR Tryd.prog 40 #[ptr pb] I [qObj pb la lc T s deep da dc] (str (T.tok s.i).text) := by
  refine CalR.of fun w J hm hl hH hJ => enter (N := 24) Tryd.func40 rfl [(0, ptr pb)] args1 rfl ?_
  have hp := immOf_ptr (hH _ List.mem_cons_self)
  rw [← hJ] at hp
  replace hr := hr.le hl
  by_cases hi : s.i < T.l.length
  · have htk := tok_get hi
    repeat' (first
    | (refine iq_indexFlat (hr:=by exact hr) (he:=by intro _; rfl) (hz:=by exact htk) (k:=?_); intro b1 o1 hp1)
    | refine iq_load1 hm (k:=?_)
    | refine op_assign (k:=?_)
    | refine wl_nil ?_
    | refine at_then_normal ?_
    | refine at_then_ret ?_
    | refine wc_seq ?_
    | refine wc_region ?_
    | refine wc_ret ?_
    | refine at_ret1 (h:=?_)
    | refine wc_quiet (h:=?_)
    | (refine wq_nil ?_; intro _ hkq; replace hm := hm.kept0 hkq; clear hkq)
    | (refine wc_cond_dec (ht:=fun _ => ?_) (hf:=fun _ => ?_)<;> (try first | contradiction | (exfalso; omega)))
    | refine q_move (k:=?_)
    | refine q_assign (k:=?_)
    | refine q_lss (k:=?_)
    | refine q_len_slice (k:=?_)
    | refine q_nilCheck (k:=?_)
    | refine q_fieldAddr (k:=?_))
    exact ⟨rfl, hm.kept⟩
  · have he : T.tok s.i = ⟨0, [], T.size⟩ := Sp.tok_end (by omega)
    rw [he]
    repeat' (first
    | refine iq_load1 hm (k:=?_)
    | refine op_assign (k:=?_)
    | refine wl_nil ?_
    | refine at_then_normal ?_
    | refine wc_seq ?_
    | refine wc_region ?_
    | refine wc_skip ?_
    | refine wc_ret ?_
    | refine at_ret1 (h:=?_)
    | refine wc_quiet (h:=?_)
    | (refine wq_nil ?_; intro _ hkq; replace hm := hm.kept0 hkq; clear hkq)
    | (refine wc_cond_dec (ht:=fun _ => ?_) (hf:=fun _ => ?_)<;> (try first | contradiction | (exfalso; omega)))
    | refine q_move (k:=?_)
    | refine q_lss (k:=?_)
    | refine q_len_slice (k:=?_)
    | refine q_nilCheck (k:=?_)
    | refine q_fieldAddr (k:=?_))
    exact ⟨rfl, hm.kept⟩
theorem p_last (s : Sp.St) (hr : TokR I T la lc) (hT : Ok T) (hi : s.i ≤ T.l.length) : CalR Tryd.prog 64 #[ptr pb] I [qObj pb la lc T s deep da dc] (nt (T.endOf s.i)) := by
  refine CalR.of fun w J hm hl hH hJ => enter (N := 26) Tryd.func64 rfl [(0, ptr pb)] args1 rfl ?_
  have hp := immOf_ptr (hH _ List.mem_cons_self)
  rw [← hJ] at hp
  replace hr := hr.le hl
  have h1 := hT.at_ (s.i - 1)
  have h2 := hT.size
  have h3 := hT.len
  by_cases h0 : s.i = 0
  · rw [h0] at hp ⊢
    repeat' (first
    | refine i_load1 hm (k:=?_)
    | refine op_move (k:=?_)
    | refine op_assign (k:=?_)
    | refine op_eql (k:=?_)
    | refine op_nilCheck (k:=?_)
    | refine op_fieldAddr (k:=?_)
    | refine wl_nil ?_
    | refine at_then_normal ?_
    | refine at_then_ret ?_
    | refine wc_seq ?_
    | refine wc_region ?_
    | refine wc_ret ?_
    | refine at_ret1 (h:=?_)
    | refine wc_cond_true (ht:=?_))
    exact ⟨rfl, hm.kept⟩
  · have hlt : s.i - 1 < T.l.length := by omega
    have htk := tok_get hlt
    repeat' (first
    | (refine wc_semi_mem (id:=3) (hm.perm pm0) 11 12 (h:=?_); clear hm; intro wd hR hm)
    | (refine iw_indexFlat (hr:=by exact hr) (he:=by intro _; rfl) (hz:=by rw [show ((s.i : Int) - 1).toNat = s.i - 1 by omega]; exact htk) (k:=?_); intro b1 o1 hp1)
    | refine iw_load1 hR (k:=?_)
    | refine iw_loadN hR (k:=?_)
    | (refine mt_allocS (d:=3) hm (k:=?_); clear hm; intro b3 _ hm)
    | (refine ws_nil ?_; replace hm := hR.back hm; clear hR; try simp only [setn] at hm)
    | refine m_load1 hm (k:=?_)
    | refine i_load1 hm (k:=?_)
    | (refine m_storeAll hm (k:=?_); clear hm; intro _ hm; try simp only [setn] at hm)
    | refine op_move (k:=?_)
    | refine op_assign (k:=?_)
    | refine op_eql (k:=?_)
    | refine op_len_str (k:=?_)
    | refine op_nilCheck (k:=?_)
    | refine op_add (k:=?_)
    | refine op_fieldAddr (k:=?_)
    | refine wl_nil ?_
    | refine at_then_normal ?_
    | refine wc_seq ?_
    | refine wc_region ?_
    | refine wc_skip ?_
    | refine wc_ret ?_
    | refine at_ret1 (h:=?_)
    | (refine wc_cond_dec (ht:=fun _ => ?_) (hf:=fun _ => ?_)<;> (try first | contradiction | (exfalso; omega)))
    | refine v_move (k:=?_)
    | refine v_nilCheck (k:=?_)
    | refine v_sub (k:=?_)
    | refine v_fieldAddr (k:=?_)
    | refine wv_nil ?_)
    refine ⟨?_, hm.kept⟩
    rw [Sp.Src.endOf, if_neg h0, nt, Int.natCast_add]
end
end Go.Proofs.YthmdffgiockcbaaDoor
end
section
namespace Go.Proofs.YthmdffgiockcbaaDoor
open Go.Fw
theorem c_letter (c : UInt8) (w : World) :
    Cal Tryd.prog 51 #[.int .u8 (c.toNat : Int)] w fun v w' => v = .bool (Sp.isLetter c) ∧ w' = w := by
  refine enter (N := 21) Tryd.func51 rfl [(0, .int .u8 (c.toNat : Int))] args1 rfl ?_
  repeat' (first
  | refine op_move (k:=?_)
  | refine op_assign (k:=?_)
  | refine op_pick_true (k:=?_)
  | refine op_pick_false (k:=?_)
  | refine op_leq (k:=?_)
  | refine op_geq (k:=?_)
  | refine op_eql (k:=?_)
  | refine wl_skip (k:=?_)
  | (refine wl_split_dec (h1:=fun _ => ?_) (h0:=fun _ => ?_)<;> (try first | contradiction | (exfalso; omega)))
  | refine wl_nil ?_
  | refine at_then_normal ?_
  | refine wc_seq ?_
  | refine wc_region ?_
  | refine wc_ret ?_
  | refine at_ret1 (h:=?_))
  all_goals (refine ⟨congrArg Value.bool ?_, rfl⟩; unfold Sp.isLetter; rw [Bool.eq_iff_iff]; simp; omega)
theorem c_digit (c : UInt8) (w : World) :
    Cal Tryd.prog 53 #[.int .u8 (c.toNat : Int)] w fun v w' => v = .bool (Sp.isDigit c) ∧ w' = w := by
  refine enter (N := 9) Tryd.func53 rfl [(0, .int .u8 (c.toNat : Int))] args1 rfl ?_
  repeat' (first
  | refine op_move (k:=?_)
  | refine op_assign (k:=?_)
  | refine op_pick_true (k:=?_)
  | refine op_pick_false (k:=?_)
  | refine op_leq (k:=?_)
  | refine op_geq (k:=?_)
  | refine wl_skip (k:=?_)
  | (refine wl_split_dec (h1:=fun _ => ?_) (h0:=fun _ => ?_)<;> (try first | contradiction | (exfalso; omega)))
  | refine wl_nil ?_
  | refine at_then_normal ?_
  | refine wc_seq ?_
  | refine wc_region ?_
  | refine wc_ret ?_
  | refine at_ret1 (h:=?_))
  all_goals (refine ⟨congrArg Value.bool ?_, rfl⟩; unfold Sp.isDigit; rw [Bool.eq_iff_iff]; simp; omega)
theorem c_blank (c : UInt8) (w : World) :
    Cal Tryd.prog 49 #[.int .u8 (c.toNat : Int)] w fun v w' => v = .bool (Sp.isBlank c) ∧ w' = w := by
  refine enter (N := 13) Tryd.func49 rfl [(0, .int .u8 (c.toNat : Int))] args1 rfl ?_
  repeat' (first
  | refine op_move (k:=?_)
  | refine op_assign (k:=?_)
  | refine op_pick_true (k:=?_)
  | refine op_pick_false (k:=?_)
  | refine op_eql (k:=?_)
  | refine wl_skip (k:=?_)
  | (refine wl_split_dec (h1:=fun _ => ?_) (h0:=fun _ => ?_)<;> (try first | contradiction | (exfalso; omega)))
  | refine wl_nil ?_
  | refine at_then_normal ?_
  | refine wc_seq ?_
  | refine wc_region ?_
  | refine wc_ret ?_
  | refine at_ret1 (h:=?_))
  all_goals (refine ⟨congrArg Value.bool ?_, rfl⟩; unfold Sp.isBlank; rw [Bool.eq_iff_iff]; simp; omega)
theorem c_sign (c : UInt8) (w : World) :
    Cal Tryd.prog 54 #[.int .u8 (c.toNat : Int)] w fun v w' => v = .bool (Sp.isSign c) ∧ w' = w := by
  refine enter (N := 12) Tryd.func54 rfl [(0, .int .u8 (c.toNat : Int))] args1 rfl ?_
  repeat' (first
  | refine op_move (k:=?_)
  | refine op_assign (k:=?_)
  | refine wl_nil ?_
  | refine at_then_normal ?_
  | refine wc_seq ?_
  | refine wc_region ?_
  | refine wc_block ?_)
  refine wc_loop (fun k => [(0, .int .u8 (c.toNat : Int)), (4, .int .i64 ((k : Nat) : Int))]) (fun k w' => w' = w ∧ k ≤ 12 ∧ ∀ j, j < k → Sp.signs.getD j 0 ≠ c) (fun k => 12 - k) 0 ⟨rfl, rfl, trivial⟩ ⟨rfl, by omega, by omega⟩ ?_
  rintro k w ⟨rfl, hk, hn⟩
  repeat' (first
  | refine op_move (k:=?_)
  | refine op_assign (k:=?_)
  | refine op_lss (k:=?_)
  | refine op_eql (k:=?_)
  | refine op_add (k:=?_)
  | refine op_index_str (k:=?_)
  | refine wl_nil ?_
  | refine at_then_normal ?_
  | refine at_then_ret ?_
  | refine at_then_exit ?_
  | refine at_block_normal ?_
  | refine at_block_ret ?_
  | refine at_block_exit ?_
  | refine wc_seq ?_
  | refine wc_region ?_
  | refine wc_block ?_
  | refine wc_skip ?_
  | refine wc_exit ?_
  | refine wc_ret ?_
  | refine at_ret1 (h:=?_)
  | (refine wc_cond_dec (ht:=fun _ => ?_) (hf:=fun _ => ?_)<;> (try first | contradiction | (exfalso; omega))))
  · refine ⟨congrArg Value.bool (Eq.symm ?_), rfl⟩
    rename_i h1 h2
    have h3 : Sp.signs.getD k 0 = c := toNat_inj h2
    have h4 : k < Sp.signs.length := by simp [Sp.signs]; omega
    unfold Sp.isSign
    rw [List.any_eq_true]
    refine ⟨c, ?_, by simp⟩
    rw [← h3, List.getD_eq_getElem?_getD, List.getElem?_eq_getElem h4]
    exact List.getElem_mem h4
  · rename_i h1 h2
    refine at_round (k + 1) ⟨rfl, rfl, trivial⟩ ⟨rfl, by omega, fun j hj => ?_⟩ (by omega)
    by_cases hjk : j = k
    · subst hjk; exact fun e => h2 (by rw [← e]; rfl)
    · exact hn j (by omega)
  · refine ⟨congrArg Value.bool (Eq.symm ?_), rfl⟩
    rename_i h1
    obtain rfl : k = 12 := by omega
    unfold Sp.isSign
    rw [List.any_eq_false]
    intro x hx
    obtain ⟨j, hj, rfl⟩ := List.mem_iff_getElem.1 hx
    have := hn j (by simpa [Sp.signs] using hj)
    rw [List.getD_eq_getElem?_getD, List.getElem?_eq_getElem hj] at this
    simpa using this
theorem c_noLine (c : UInt8) (w : World) :
    Cal Tryd.prog 50 #[.int .u8 (c.toNat : Int)] w fun v w' => v = .bool (Sp.noLine c) ∧ w' = w := by
  refine enter (N := 5) Tryd.func50 rfl [(0, .int .u8 (c.toNat : Int))] args1 rfl ?_
  repeat' (first
  | refine op_move (k:=?_)
  | refine op_assign (k:=?_)
  | refine op_neq (k:=?_)
  | refine wl_nil ?_
  | refine at_then_normal ?_
  | refine wc_seq ?_
  | refine wc_region ?_
  | refine wc_ret ?_
  | refine at_ret1 (h:=?_))
  all_goals (refine ⟨congrArg Value.bool ?_, rfl⟩; unfold Sp.noLine; rw [Bool.eq_iff_iff]; simp; omega)
theorem c_isWord (c : UInt8) (w : World) :
    Cal Tryd.prog 52 #[.int .u8 (c.toNat : Int)] w fun v w' => v = .bool (Sp.isWord c) ∧ w' = w := by
  refine enter (N := 9) Tryd.func52 rfl [(0, .int .u8 (c.toNat : Int))] args1 rfl ?_
  repeat' (first
  | (refine op_call (hc:=by exact c_letter c _) (k:=?_); rintro _ _ ⟨rfl, rfl⟩)
  | (refine op_call (hc:=by exact c_digit c _) (k:=?_); rintro _ _ ⟨rfl, rfl⟩)
  | refine op_move (k:=?_)
  | refine op_assign (k:=?_)
  | refine op_pick_true (k:=?_)
  | refine op_pick_false (k:=?_)
  | refine wl_skip (k:=?_)
  | (refine wl_split (h1:=fun _ => ?_) (h0:=fun _ => ?_)<;> (fail_if_success contradiction))
  | refine wl_nil ?_
  | refine at_then_normal ?_
  | refine wc_seq ?_
  | refine wc_region ?_
  | refine wc_ret ?_
  | refine at_ret1 (h:=?_))
  all_goals (refine ⟨congrArg Value.bool ?_, rfl⟩; unfold Sp.isWord; simp [*])

/-- 'same': how many bytes from the second one on 'F' holds of. -/
theorem c_same (fi : FuncId) [Own Tryd.prog fi] (F : UInt8 → Bool) (hF : ∀ c w, Cal Tryd.prog fi #[.int .u8 (c.toNat : Int)] w fun v w' => v = .bool (F c) ∧ w' = w)
    (s : List UInt8) (hs : s ≠ []) (hl : s.length ≤ 9223372036854775807) (b : Nat) (w : World) (hb : w.heap[b]? = some (.cells (str s).cells 9 (0, 0))) :
    Cal Tryd.prog 48 #[.func (.func fi) #[] #[], .pointer (some ⟨b, 0, none⟩)] w fun v w' => v = .int .i64 (Sp.run F s.tail : Int) ∧ w' = w := by
  have hs' : 0 < s.length := List.length_pos_iff.2 hs
  refine enter (N := 19) Tryd.func48 rfl [(0, .func (.func fi) #[] #[]), (1, .pointer (some ⟨b, 0, none⟩))] args2 rfl ?_
  repeat' (first
  | refine op_assign (k:=?_)
  | refine wl_nil ?_
  | refine at_then_normal ?_
  | refine wc_seq ?_
  | refine wc_region ?_
  | refine wc_block ?_)
  refine wc_loop (fun k => [(0, .func (.func fi) #[] #[]), (1, .pointer (some ⟨b, 0, none⟩)), (4, .int .i64 ((k : Nat) : Int))])
    (fun k w' => w' = w ∧ 1 ≤ k ∧ k ≤ s.length ∧ ∀ j, 1 ≤ j → j < k → F (s.getD j 0) = true) (fun k => s.length - k) 1 ⟨rfl, rfl, rfl, trivial⟩ ⟨rfl, by omega, by omega, by omega⟩ ?_
  rintro k w ⟨rfl, hk0, hk, hn⟩
  repeat' (first
  | (refine op_callv (hc:=by exact hF _ _) (k:=?_); rintro _ _ ⟨rfl, rfl⟩)
  | refine op_move (k:=?_)
  | refine op_assign (k:=?_)
  | refine op_pick_true (k:=?_)
  | refine op_pick_false (k:=?_)
  | refine op_lss (k:=?_)
  | refine op_len_str (k:=?_)
  | refine op_add (k:=?_)
  | refine op_index_str (k:=?_)
  | refine op_load1 (k:=?_)
  | refine wl_skip (k:=?_)
  | (refine wl_split_dec (h1:=fun _ => ?_) (h0:=fun _ => ?_)<;> (try first | contradiction | (exfalso; omega)))
  | refine wl_nil ?_
  | refine at_then_normal ?_
  | refine at_then_exit ?_
  | refine at_block_normal ?_
  | refine at_block_exit ?_
  | refine wc_seq ?_
  | refine wc_region ?_
  | refine wc_block ?_
  | refine wc_skip ?_
  | refine wc_exit ?_
  | refine wc_ret ?_
  | refine at_ret1 (h:=?_)
  | refine wc_cond_false (hf:=?_)
  | refine wc_cond (ht:=fun _ => ?_) (hf:=fun _ => ?_))
  · rename_i h1 h2
    refine at_round (k + 1) ⟨rfl, rfl, rfl, trivial⟩ ⟨rfl, by omega, by omega, fun j h3 h4 => ?_⟩ (by omega)
    by_cases hjk : j = k
    · subst hjk; exact h2
    · exact hn j h3 (by omega)
  · rename_i h1 h2
    refine ⟨?_, rfl⟩
    rw [Sp.run_eq F s k hk0 hn hk (.inr h2)]
  · rename_i h1
    refine ⟨?_, rfl⟩
    rw [Sp.run_eq F s k hk0 hn hk (.inl (by omega))]

set_option maxHeartbeats 1000000 in
theorem c_one (s : List UInt8) (hs : s ≠ []) (hl : s.length ≤ 9223372036854775807) (w : World) :
    Cal Tryd.prog 39 #[str s] w fun v w' => v = .tuple #[.int .i64 ((Sp.one s).1 : Int), .int .i64 ((Sp.one s).2 : Int)] ∧ Kept [] w w' := by
  have hs' : 0 < s.length := List.length_pos_iff.2 hs
  refine enter (N := 32) Tryd.func39 rfl [(0, str s)] args1 rfl ?_
  repeat' (first
  | (refine op_box (k:=?_); intro b w1 hbe hb hk)
  | (refine op_call (hc:=by exact c_blank _ _) (k:=?_); rintro _ _ ⟨rfl, rfl⟩)
  | (refine op_call (hc:=by exact c_letter _ _) (k:=?_); rintro _ _ ⟨rfl, rfl⟩)
  | (refine op_call (hc:=by exact c_digit _ _) (k:=?_); rintro _ _ ⟨rfl, rfl⟩)
  | (refine op_call (hc:=by exact c_sign _ _) (k:=?_); rintro _ _ ⟨rfl, rfl⟩)
  | (refine op_callv (hc:=by exact c_same _ Sp.isBlank c_blank s hs hl _ _ (by assumption)) (k:=?_); rintro _ _ ⟨rfl, rfl⟩)
  | (refine op_callv (hc:=by exact c_same _ Sp.noLine c_noLine s hs hl _ _ (by assumption)) (k:=?_); rintro _ _ ⟨rfl, rfl⟩)
  | (refine op_callv (hc:=by exact c_same _ Sp.isWord c_isWord s hs hl _ _ (by assumption)) (k:=?_); rintro _ _ ⟨rfl, rfl⟩)
  | (refine op_callv (hc:=by exact c_same _ Sp.isDigit c_digit s hs hl _ _ (by assumption)) (k:=?_); rintro _ _ ⟨rfl, rfl⟩)
  | refine op_move (k:=?_)
  | refine op_assign (k:=?_)
  | refine op_eql (k:=?_)
  | refine op_makeFunc (k:=?_)
  | refine op_index_str (k:=?_)
  | refine op_load1 (k:=?_)
  | refine wl_nil ?_
  | refine at_then_normal ?_
  | refine at_then_ret ?_
  | refine at_block_normal ?_
  | refine at_block_ret ?_
  | refine wc_seq ?_
  | refine wc_region ?_
  | refine wc_block ?_
  | refine wc_skip ?_
  | refine wc_ret ?_
  | refine at_ret2 (h:=?_)
  | (refine wc_cond_dec (ht:=fun _ => ?_) (hf:=fun _ => ?_)<;> (try first | contradiction | (exfalso; omega)))
  | refine wc_cond (ht:=fun _ => ?_) (hf:=fun _ => ?_))
  all_goals
    refine ⟨?_, hk⟩
    cases s with
    | nil => exact absurd rfl hs
    | cons c r =>
      simp only [List.getD_cons_zero, Int.toNat_zero, List.tail_cons] at *
      have e : ∀ m : Nat, ((m : Int) = 35 ↔ m = 35) := fun m => by omega
      simp_all [Sp.one]

/-- what is there, and what is to come. -/
structure TokLoop where
  at_ : Nat
  out : Value
  acc : List Sp.Tok

set_option maxHeartbeats 1000000 in
theorem c_tokens (s : List UInt8) (hl : s.length ≤ 1099511627776) (w : World) :
    Cal Tryd.prog 27 #[str s] w fun v w' => w'.ownsRow w.heap.size 93 3 v (Sp.tokens s).length ((Sp.tokens s).flatMap encTok) ∧ Kept [] w w' := by
  refine enter (N := 36) Tryd.func27 rfl [(0, str s)] args1 rfl ?_
  repeat' (first
  | refine op_assign (k:=?_)
  | refine wl_nil ?_
  | refine at_then_normal ?_
  | refine wc_seq ?_
  | refine wc_region ?_
  | refine wc_block ?_)
  refine wc_loop (fun x : TokLoop => [(0, str s), (3, x.out), (4, .int .i64 (x.at_ : Int))])
    (fun x w' => x.at_ ≤ s.length ∧ x.acc.length ≤ x.at_ ∧ x.acc ++ Sp.toksAt s x.at_ = Sp.tokens s ∧ w'.ownsRow w.heap.size 93 3 x.out x.acc.length (x.acc.flatMap encTok) ∧ Kept [] w w')
    (fun x => s.length - x.at_) ⟨0, .slice none 0 0, []⟩ ⟨rfl, rfl, rfl, trivial⟩ ⟨by simp, by simp, by simp [Sp.tokens_eq], World.ownsRow_nil _ _ _ _, Kept.refl _ _⟩ ?_
  rintro ⟨k, out, acc⟩ w1 ⟨hk, hacc, heq, hown, hkept⟩
  dsimp only at hk hacc heq hown hkept ⊢
  have hone := fun h : s.drop k ≠ [] => Sp.one_le _ h
  have hstep := fun h : k < s.length => Sp.toksAt_step s k h
  repeat' (first
  | (refine op_call (hc:=by exact c_one (s.drop k) (by simp; omega) (by simp; omega) _) (k:=?_); rintro _ w2 ⟨rfl, hk2⟩; have h1 := hone (by simp; omega); simp only [List.length_drop] at h1)
  | (refine op_append1 (hown:=by exact hk2.own hown (by simp)) (hbase:=by have := hkept.size; have := hk2.size; omega) (k:=?_); intro v3 w3 hown3 hk3 hb3)
  | refine op_move (k:=?_)
  | refine op_assign (k:=?_)
  | refine op_lss (k:=?_)
  | refine op_gtr (k:=?_)
  | refine op_len_str (k:=?_)
  | refine op_extract (k:=?_)
  | refine op_add (k:=?_)
  | refine op_slice_str (k:=?_)
  | refine op_slice_from (k:=?_)
  | refine op_struct (k:=?_)
  | refine wl_nil ?_
  | refine at_then_normal ?_
  | refine at_then_exit ?_
  | refine at_block_normal ?_
  | refine at_block_exit ?_
  | refine wc_seq ?_
  | refine wc_region ?_
  | refine wc_block ?_
  | refine wc_skip ?_
  | refine wc_exit ?_
  | refine wc_ret ?_
  | refine at_ret1 (h:=?_)
  | (refine wc_cond_dec (ht:=fun _ => ?_) (hf:=fun _ => ?_)<;> (try first | contradiction | (exfalso; omega))))
  · rename_i h0 h2
    have hst := hstep (by omega)
    rw [if_pos (by omega)] at hst
    refine at_round (⟨k + (Sp.one (s.drop k)).2, v3, acc ++ [⟨(Sp.one (s.drop k)).1, (s.drop k).take (Sp.one (s.drop k)).2, k⟩]⟩ : TokLoop) (by exact ⟨rfl, rfl, rfl, trivial⟩) ?_ ?_
    · refine ⟨by dsimp only; omega, by simp; omega, by rw [← heq, hst]; simp, ?_, ?_⟩
      · have e : ((k : Int) + ((Sp.one (s.drop k)).2 : Int)).toNat - (k : Int).toNat = (Sp.one (s.drop k)).2 := by omega
        rw [e] at hown3
        simpa [encTok, List.flatMap_append, Value.cells] using hown3
      · exact (hkept.step0 hk2).step hk3 (fun x hx => .inr (by
          cases ho : out.ownBlock with
          | none => simp [ho] at hx
          | some g => simp [ho] at hx; subst hx; exact (hown.lt _ ho).1))
    · dsimp only; omega
  · rename_i h0 h2
    have hst := hstep (by omega)
    rw [if_neg (by omega), List.nil_append] at hst
    refine at_round (⟨k + (Sp.one (s.drop k)).2, out, acc⟩ : TokLoop) (by exact ⟨rfl, rfl, rfl, trivial⟩) ?_ ?_
    · exact ⟨by dsimp only; omega, by dsimp only; omega, by rw [← heq, hst], hk2.own hown (by simp), hkept.step0 hk2⟩
    · dsimp only; omega
  · rename_i h0
    rw [Sp.toksAt_end s k (by omega), List.append_nil] at heq
    rw [← heq]
    exact ⟨hown, hkept⟩
theorem c_own (w : World) : Cal Tryd.prog 57 #[] w fun v w' => w'.ownsRow w.heap.size 9 1 v 9 (Sp.ownWords.map str) ∧ Kept [] w w' := by
  refine enter (N := 2) Tryd.func57 rfl [] args0 rfl ?_
  repeat' (first
  | (refine op_buildSlice (by rfl) (by rfl) (by rfl) (by rfl) (by rfl) (by decide) ?_; intro b w1 hbe hb hk)
  | refine op_assign (k:=?_)
  | refine wl_nil ?_
  | refine at_then_normal ?_
  | refine wc_seq ?_
  | refine wc_region ?_
  | refine wc_ret ?_
  | refine at_ret1 (h:=?_))
  exact ⟨own_of_block hb (by rfl) (by omega) (by decide), hk⟩
theorem c_word (s : List UInt8) (hl : s.length ≤ 9223372036854775807) (w : World) : Cal Tryd.prog 58 #[str s] w fun v w' => v = .bool (Sp.word s) ∧ w' = w := by
  refine enter (N := 36) Tryd.func58 rfl [(0, str s)] args1 rfl ?_
  repeat' (first
  | (refine op_call (hc:=by exact c_letter _ _) (k:=?_); rintro _ w ⟨rfl, rfl⟩)
  | refine op_move (k:=?_)
  | refine op_assign (k:=?_)
  | refine op_pick_true (k:=?_)
  | refine op_pick_false (k:=?_)
  | refine op_lss (k:=?_)
  | refine op_gtr (k:=?_)
  | refine op_len_str (k:=?_)
  | refine op_not (k:=?_)
  | refine op_index_str (k:=?_)
  | refine wl_skip (k:=?_)
  | (refine wl_split_dec (h1:=fun _ => ?_) (h0:=fun _ => ?_)<;> (try first | contradiction | (exfalso; omega)))
  | refine wl_nil ?_
  | refine at_then_normal ?_
  | refine at_then_ret ?_
  | refine wc_seq ?_
  | refine wc_region ?_
  | refine wc_block ?_
  | refine wc_skip ?_
  | refine wc_ret ?_
  | refine at_ret1 (h:=?_)
  | refine wc_cond_true (ht:=?_)
  | refine wc_cond (ht:=fun _ => ?_) (hf:=fun _ => ?_))
  · refine ⟨?_, rfl⟩; rename_i h; rw [show Sp.word s = false by simp [Sp.word]; omega]
  · refine ⟨?_, rfl⟩; rename_i h h1; rw [show Sp.word s = false by simp [Sp.word]; omega]
  · refine ⟨?_, rfl⟩; rename_i h h1 h2; have h2' : Sp.isLetter (s.getD 0 0) = false := by simpa using h2
    rw [show Sp.word s = false by unfold Sp.word; rw [h2']; simp]
  · rename_i h0 h1 h2
    have h2' : Sp.isLetter (s.getD 0 0) = true := by simpa using h2
    refine wc_loop (fun k => [(0, str s), (19, .int .i64 (s.length : Int)), (20, .int .i64 ((k : Nat) : Int))]) (fun k w' => w' = w ∧ k ≤ s.length ∧ ∀ j, j < k → Sp.isWord (s.getD j 0) = true) (fun k => s.length - k) 0 ⟨rfl, rfl, rfl, trivial⟩ ⟨rfl, by omega, by omega⟩ ?_
    rintro k w ⟨rfl, hk, hn⟩
    repeat' (first
    | (refine op_call (hc:=by exact c_letter _ _) (k:=?_); rintro _ w ⟨rfl, rfl⟩)
    | (refine op_call (hc:=by exact c_digit _ _) (k:=?_); rintro _ w ⟨rfl, rfl⟩)
    | refine op_move (k:=?_)
    | refine op_assign (k:=?_)
    | refine op_pick_true (k:=?_)
    | refine op_pick_false (k:=?_)
    | refine op_lss (k:=?_)
    | refine op_not (k:=?_)
    | refine op_add (k:=?_)
    | refine op_index_str (k:=?_)
    | refine wl_skip (k:=?_)
    | (refine wl_split (h1:=fun _ => ?_) (h0:=fun _ => ?_)<;> (fail_if_success contradiction))
    | refine wl_nil ?_
    | refine at_then_normal ?_
    | refine at_then_ret ?_
    | refine at_then_exit ?_
    | refine at_block_normal ?_
    | refine at_block_ret ?_
    | refine at_block_exit ?_
    | refine wc_seq ?_
    | refine wc_region ?_
    | refine wc_block ?_
    | refine wc_skip ?_
    | refine wc_exit ?_
    | refine wc_ret ?_
    | refine at_ret1 (h:=?_)
    | refine wc_cond_false (hf:=?_)
    | (refine wc_cond_dec (ht:=fun _ => ?_) (hf:=fun _ => ?_)<;> (try first | contradiction | (exfalso; omega)))
    | refine wc_cond (ht:=fun _ => ?_) (hf:=fun _ => ?_))
    · rename_i h3 h4 h5
      refine ⟨?_, rfl⟩
      rw [word_no (k := k) (by omega) (by simp at h4 h5; simp [Sp.isWord, h4, h5])]
    · rename_i h3 h4 h5
      refine at_round (k + 1) (by exact ⟨rfl, rfl, rfl, trivial⟩) ⟨rfl, by omega, fun j hj => ?_⟩ (by omega)
      by_cases hjk : j = k
      · subst hjk; simp at h5; simp [Sp.isWord, h5]
      · exact hn j (by omega)
    · rename_i h3 h4
      refine at_round (k + 1) (by exact ⟨rfl, rfl, rfl, trivial⟩) ⟨rfl, by omega, fun j hj => ?_⟩ (by omega)
      by_cases hjk : j = k
      · subst hjk; simp at h4; simp [Sp.isWord, h4]
      · exact hn j (by omega)
    · rename_i h3
      refine ⟨?_, rfl⟩
      have ha : s.all Sp.isWord = true := (Sp.all_iff _ _).2 (fun j hj => hn j (by omega))
      rw [show Sp.word s = true by unfold Sp.word; rw [h2', ha]; simp; omega]
theorem c_name (s : List UInt8) (hl : s.length ≤ 9223372036854775807) (w : World) : Cal Tryd.prog 43 #[str s] w fun v w' => v = .bool (Sp.name s) ∧ Kept [] w w' := by
  refine enter (N := 17) Tryd.func43 rfl [(0, str s)] args1 rfl ?_
  repeat' (first
  | (refine op_call (hc:=by exact c_own _) (k:=?_); rintro _ w1 ⟨hown, hk1⟩; obtain ⟨g, cap, cur, rfl, hbg, hg, hcap, hcur, _⟩ := own_open hown (by decide))
  | refine op_move (k:=?_)
  | refine op_assign (k:=?_)
  | refine op_len_slice (k:=?_)
  | refine wl_nil ?_
  | refine at_then_normal ?_
  | refine wc_seq ?_
  | refine wc_region ?_
  | refine wc_block ?_)
  refine wc_loop (fun k => [(0, str s), (5, .slice (some ⟨g, 0, none⟩) 9 cap), (6, .int .i64 9), (7, .int .i64 ((k : Nat) : Int))]) (fun k w' => w' = w1 ∧ k ≤ 9 ∧ ∀ j, j < k → s ≠ Sp.ownWords.getD j []) (fun k => 9 - k) 0 ⟨rfl, rfl, rfl, rfl, trivial⟩ ⟨rfl, by omega, by omega⟩ ?_
  rintro k w1 ⟨rfl, hk, hn⟩
  have hcell : k < 9 → cur[0 + (k : Int).toNat * 1]? = some (str (Sp.ownWords.getD k [])) := fun h => hcur _ _ (by
    have h9 : k < Sp.ownWords.length := h
    simp [List.getD_eq_getElem?_getD, List.getElem?_eq_getElem h9])
  repeat' (first
  | (refine op_load1 (hc:=by exact hcell (by omega)) (k:=?_))
  | (refine op_call (hc:=by exact c_word s hl _) (k:=?_); rintro _ w ⟨rfl, rfl⟩)
  | refine op_move (k:=?_)
  | refine op_assign (k:=?_)
  | refine op_lss (k:=?_)
  | refine op_eql_str (k:=?_)
  | refine op_add (k:=?_)
  | refine op_indexAddr (k:=?_)
  | refine wl_nil ?_
  | refine at_then_normal ?_
  | refine at_then_ret ?_
  | refine at_then_exit ?_
  | refine at_block_normal ?_
  | refine at_block_ret ?_
  | refine at_block_exit ?_
  | refine wc_seq ?_
  | refine wc_region ?_
  | refine wc_block ?_
  | refine wc_skip ?_
  | refine wc_exit ?_
  | refine wc_ret ?_
  | refine at_ret1 (h:=?_)
  | (refine wc_cond_dec (ht:=fun _ => ?_) (hf:=fun _ => ?_)<;> (try first | contradiction | (exfalso; omega))))
  · rename_i h0 h1
    refine ⟨?_, hk1⟩
    have h9 : k < Sp.ownWords.length := show k < 9 by omega
    have : Sp.ownWords.any (fun w => decide (s = w)) = true := by
      rw [List.any_eq_true]
      exact ⟨_, List.getElem_mem h9, by rw [h1, List.getD_eq_getElem?_getD, List.getElem?_eq_getElem h9]; simp⟩
    simp only [Sp.name, this, Bool.not_true, Bool.false_and]
  · rename_i h0 h1
    refine at_round (k + 1) (by exact ⟨rfl, rfl, rfl, rfl, trivial⟩) ⟨rfl, by omega, fun j hj => ?_⟩ (by omega)
    by_cases hjk : j = k
    · subst hjk; exact h1
    · exact hn j (by omega)
  · rename_i h0
    refine ⟨?_, hk1⟩
    have : Sp.ownWords.any (fun w => decide (s = w)) = false := by
      rw [List.any_eq_false]
      intro x hx
      obtain ⟨j, hj, rfl⟩ := List.mem_iff_getElem.1 hx
      have := hn j (by have : j < 9 := hj; omega)
      rw [List.getD_eq_getElem?_getD, List.getElem?_eq_getElem hj] at this
      simpa using this
    simp only [Sp.name, this, Bool.not_false, Bool.true_and]
structure CLoop where
  at_ : Nat
  out : Value
  acc : List Nat
set_option maxHeartbeats 1000000 in
theorem c_cuts (s : List UInt8) (hl : s.length ≤ 1099511627776) (w : World) :
    Cal Tryd.prog 16 #[str s] w fun v w' => w'.ownsRow w.heap.size 3 1 v (Sp.cuts s).length ((Sp.cuts s).flatMap encInt) ∧ Kept [] w w' := by
  refine enter (N := 53) Tryd.func16 rfl [(0, str s)] args1 rfl ?_
  repeat' (first
  | (refine op_call (hc:=by exact c_tokens s hl _) (k:=?_); rintro tv w1 ⟨htv, hk1⟩; obtain ⟨ta, tc, rfl⟩ := own_val htv)
  | refine op_move (k:=?_)
  | refine op_assign (k:=?_)
  | refine op_len_slice (k:=?_)
  | refine wl_nil ?_
  | refine at_then_normal ?_
  | refine wc_seq ?_
  | refine wc_region ?_
  | refine wc_block ?_)
  have htl := toks_len s
  refine wc_loop (fun x : CLoop => [(0, str s), (3, x.out), (8, .slice ta (Sp.tokens s).length tc), (9, .int .i64 ((Sp.tokens s).length : Int)), (10, .int .i64 (x.at_ : Int))])
    (fun x w' => x.at_ ≤ (Sp.tokens s).length ∧ x.acc.length ≤ x.at_ ∧ x.acc = ((Sp.tokens s).take x.at_).foldl (Sp.cutStep s) [] ∧ w'.ownsRow w1.heap.size 3 1 x.out x.acc.length (x.acc.flatMap encInt) ∧ Kept [] w1 w')
    (fun x => (Sp.tokens s).length - x.at_) ⟨0, .slice none 0 0, []⟩ ⟨rfl, rfl, rfl, rfl, rfl, trivial⟩ ⟨by simp, by simp, by simp, World.ownsRow_nil _ _ _ _, Kept.refl _ _⟩ ?_
  rintro ⟨k, out, acc⟩ w2 ⟨hk, hacc, heq, hown, hkept⟩
  dsimp only at hk hacc heq hown hkept ⊢
  by_cases hlt : k < (Sp.tokens s).length
  · obtain ⟨g, cap, cur, htve, hbg, hg, hcap, hcur, hsz⟩ := own_open htv (by omega)
    injection htve with e1 e2 e3
    subst e1
    have hg2 := hkept.get0 hg
    have htok : (Sp.tokens s)[k]? = some (Sp.tokens s)[k] := List.getElem?_eq_getElem hlt
    have hok := Sp.tokens_ok s _ (List.getElem_mem hlt)
    have hfold := Sp.fold_take (Sp.cutStep s) [] _ _ _ htok
    have hcell : ∀ (j : Nat) (v : Value), (encTok (Sp.tokens s)[k])[j]? = some v → cur[0 + (k : Int).toNat * 3 + j]? = some v := fun j v hv => by
      rw [show 0 + (k : Int).toNat * 3 + j = k * 3 + j by omega]
      exact hcur _ _ (encTok_get _ _ _ htok j v hv)
    generalize (Sp.tokens s)[k] = t at htok hok hfold hcell
    have hp1 := hok.pos
    obtain ⟨oa, oc, rfl⟩ := own_val hown
    repeat' (first
    | (refine op_loadN (vs:=encTok t) (hb:=hg2) (hc:=hcell) (k:=?_))
    | (refine op_var (k:=?_); intro b w3 hbe hb hkb)
    | (refine op_append1 (hown:=by exact hkb.own hown (by simp)) (hbase:=by have := hkept.size; have := hkb.size; omega) (k:=?_); intro v3 w4 hown3 hk3 hb3)
    | refine op_move (k:=?_)
    | refine op_assign (k:=?_)
    | refine op_pick_true (k:=?_)
    | refine op_pick_false (k:=?_)
    | refine op_lss (k:=?_)
    | refine op_eql (k:=?_)
    | refine op_eql_str (k:=?_)
    | refine op_len_slice (k:=?_)
    | refine op_add (k:=?_)
    | refine op_sub (k:=?_)
    | refine op_index_str (k:=?_)
    | refine op_fieldAddr (k:=?_)
    | refine op_indexAddr (k:=?_)
    | refine op_load1 (k:=?_)
    | refine wl_skip (k:=?_)
    | (refine wl_split_dec (h1:=fun _ => ?_) (h0:=fun _ => ?_)<;> (try first | contradiction | (exfalso; omega)))
    | refine wl_nil ?_
    | refine at_then_normal ?_
    | refine at_block_normal ?_
    | refine wc_seq ?_
    | refine wc_region ?_
    | refine wc_block ?_
    | refine wc_skip ?_
    | refine wc_cond_true (ht:=?_)
    | (refine wc_cond_dec (ht:=fun _ => ?_) (hf:=fun _ => ?_)<;> (try first | contradiction | (exfalso; omega))))
    all_goals
      have e10 : ((t.pos : Int) - 1).toNat = t.pos - 1 := by omega
      rw [← heq] at hfold
    all_goals first
      | (have hst : Sp.begins s t = true ∨ acc = [] := by
          simp only [Sp.begins, Bool.and_eq_true, Bool.or_eq_true, decide_eq_true_eq, ← e10]
          simp only [Sp.wFn, Sp.wChan]
          first
            | exact .inr (List.eq_nil_of_length_eq_zero (by omega))
            | exact .inl ⟨⟨by omega, .inl (by assumption)⟩, by omega⟩
            | exact .inl ⟨⟨by omega, .inr (by assumption)⟩, by omega⟩
         rw [Sp.cutStep, if_pos hst] at hfold
         refine at_round (⟨k + 1, v3, acc ++ [t.pos]⟩ : CLoop) (by exact ⟨rfl, rfl, rfl, rfl, rfl, trivial⟩) ?_ (by dsimp only; omega)
         refine ⟨by dsimp only; omega, by simp; omega, hfold.symm, ?_, ?_⟩
         · simpa [encInt, List.flatMap_append, Value.cells, encTok] using hown3
         · exact (hkept.step0 hkb).step hk3 (fun x hx => .inr (by
            cases oa with
            | none => simp [Value.ownBlock] at hx
            | some a => simp [Value.ownBlock] at hx; subst hx; exact (hown.lt _ rfl).1)))
      | (have hst : ¬ (Sp.begins s t = true ∨ acc = []) := by
          rintro (h | h)
          · simp only [Sp.begins, Bool.and_eq_true, Bool.or_eq_true, decide_eq_true_eq, ← e10] at h
            simp only [Sp.wFn, Sp.wChan] at h
            obtain ⟨⟨h1, h2⟩, h3⟩ := h
            rcases h2 with h2 | h2 <;> first | omega | exact absurd h2 (by assumption)
          · have h0 : acc.length = 0 := by rw [h]; rfl
            omega
         rw [Sp.cutStep, if_neg hst] at hfold
         refine at_round (⟨k + 1, .slice oa acc.length oc, acc⟩ : CLoop) (by exact ⟨rfl, rfl, rfl, rfl, rfl, trivial⟩) ?_ (by dsimp only; omega)
         exact ⟨by dsimp only; omega, by dsimp only; omega, hfold.symm, hkb.own hown (by simp), hkept.step0 hkb⟩)
  · have hkk : k = (Sp.tokens s).length := by omega
    have hcs : Sp.cuts s = acc := by rw [heq, hkk, List.take_length]; rfl
    repeat' (first
    | refine op_move (k:=?_)
    | refine op_assign (k:=?_)
    | refine op_lss (k:=?_)
    | refine wl_nil ?_
    | refine at_then_normal ?_
    | refine at_then_exit ?_
    | refine at_block_exit ?_
    | refine wc_seq ?_
    | refine wc_region ?_
    | refine wc_exit ?_
    | refine wc_ret ?_
    | refine at_ret1 (h:=?_)
    | (refine wc_cond_dec (ht:=fun _ => ?_) (hf:=fun _ => ?_)<;> (try first | contradiction | (exfalso; omega))))
    rw [hcs]
    exact ⟨ownsRow_base hown hk1.size, hk1.trans hkept⟩
/-! the reference's -/
end Go.Proofs.YthmdffgiockcbaaDoor
end
