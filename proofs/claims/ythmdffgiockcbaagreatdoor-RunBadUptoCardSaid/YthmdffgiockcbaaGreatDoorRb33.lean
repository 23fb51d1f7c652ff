/- Own work: texts FwAll, RunF, one behind the other. -/
import Derived.Test.YthmdffgiockcbaaGreatDoorRb32
section
namespace Go.Fw
open Go
section
variable {P : Program} {ops : Array Oper} {md : Region.Mode} {C : World → Prop}
theorem v_firstA {n i : Nat} {oi : Oper} {v : Value} {L : Array Bool → Act → World → Prop} (hi : ops[i]? = some oi) (hsel : ∀ (j : Nat) (o : Oper) cs b, ops[j]? = some o → o.op ≠ .select cs b)
    (hn : n = ops.size)
    (hdone : ∀ listed a w, L listed a w → ∀ j ∈ Region.ready md ops listed, n ≤ j) :
    ∀ (f : Nat) (listed : Array Bool) (a : Act) (w : World), C w → HeadInv md ops n listed →
      (∀ j oj, ops[j]? = some oj → j ≠ i → listed.getD j true = false → (∀ e ∈ oj.after, Region.binds md e = true → e.on ≠ i) → oi.apart ops oj = true) →
      i ∈ Region.ready md ops listed → YieldsV P ops C oi v a →
      anyV P md ops C n L f (listed.setIfInBounds i true) (a.put oi.dst v) w → anyV P md ops C n L (f + 1) listed a w := by
  intro f
  induction f with
  | zero =>
    intro listed a w hC inv _ hr hy H
    refine ⟨fun h => (by rw [h] at hr; cases hr), fun j hj => ?_⟩
    have hjn : j < n := by
      obtain ⟨_, oj, hoj, _⟩ := mem_ready.1 hj
      rw [hn]
      exact (Array.getElem?_eq_some_iff.1 hoj).1
    refine ⟨hjn, ?_⟩
    by_cases hji : j = i
    · subst hji; exact hy.vOp hi hC ⟨hC, H⟩
    · have := hdone _ _ _ H j (ready_mono hj hji)
      omega
  | succ f ih =>
    intro listed a w hC inv hfree hr hy H
    have hun := (mem_ready.1 hr).1
    refine ⟨fun h => (by rw [h] at hr; cases hr), fun j hj => ?_⟩
    have hjn : j < n := by
      obtain ⟨_, oj, hoj, _⟩ := mem_ready.1 hj
      rw [hn]
      exact (Array.getElem?_eq_some_iff.1 hoj).1
    refine ⟨hjn, ?_⟩
    by_cases hji : j = i
    · subst hji; exact hy.vOp hi hC ⟨hC, H⟩
    · have h1 := (H.2 j (ready_mono hj hji)).2
      obtain ⟨hjun, oj, hoj, hall⟩ := mem_ready.1 hj
      have hnot : ∀ e ∈ oj.after, Region.binds md e = true → e.on ≠ i := fun e he hb heq => by
        have h1 := hall e he hb
        rw [heq, getD_both hun] at h1
        cases h1
      have h2 := vOp_put hoj (hfree j oj hoj hji hjun hnot) (fun cs b => hsel i oi cs b hi) (fun cs b => hsel j oj cs b hoj) hy h1
      have hfree' : ∀ k ok, ops[k]? = some ok → k ≠ i → (listed.setIfInBounds j true).getD k true = false →
          (∀ e ∈ ok.after, Region.binds md e = true → e.on ≠ i) → oi.apart ops ok = true := fun k ok hk hki hun hno => by
        refine hfree k ok hk hki ?_ hno
        by_cases hjk : j = k
        · subst hjk; exact hjun
        · rw [getD_set_ne true hjk] at hun; exact hun
      refine vOp_mono (fun a' w' h3 => ⟨h3.2.1, ih (listed.setIfInBounds j true) a' w' h3.2.1 (inv.set hj hjn) hfree' (ready_mono hr (Ne.symm hji)) h3.1 ?_⟩) h2
      rw [Array.setIfInBounds_comm _ _ hji]
      exact h3.2.2
theorem anyV_lexLA {n g : Nat} {Lq : Act → World → Prop} {js : List Nat} {lt : List Oper} (hsel : Region.noSelect ops = true) (hn : n = ops.size)
    (hlt : js.map (ops[·]?) = lt.map some) :
    ∀ (ks : List Nat) (l : List Oper) (listed : Array Bool) (a : Act) (w : World), C w → ks.map (ops[·]?) = l.map some → HeadInv md ops n listed →
    lexLB md ops g n js ks listed = true → pureV P ops C (fun a' => seqV P ops C Lq lt a' w) l a →
    anyV P md ops C n (fun listed' a' w' => Region.seqB md ops g n listed' = true ∧ Lq a' w') (l.length + lt.length) listed a w
  | [], [], listed, a, w, _, _, _, hB, h => by
    rw [List.length_nil, Nat.zero_add]
    exact anyV_seqL js lt listed a w hlt (by simpa [lexLB] using hB) h
  | k :: ks, o :: l, listed, a, w, hC, hl, inv, hB, h => by
    simp only [List.map_cons, List.cons.injEq] at hl
    obtain ⟨h0, hl'⟩ := hl
    simp only [lexLB, Bool.and_eq_true, decide_eq_true_eq] at hB
    obtain ⟨⟨⟨hr, hf⟩, hkn⟩, hB'⟩ := hB
    have hr' : k ∈ Region.ready md ops listed := by simpa using hr
    obtain ⟨v, hy, hK⟩ := h
    rw [show (o :: l).length + lt.length = (l.length + lt.length) + 1 by simp only [List.length_cons]; omega]
    exact v_firstA h0 (Region.noSelect_spec hsel) hn (fun listed' a' w' hL => seqB_ready hL.1) (l.length + lt.length) listed a w hC inv (Region.free_spec h0 hf) hr' hy
      (anyV_lexLA hsel hn hlt ks l _ _ w hC hl' (inv.set hr' hkn) hB' hK)
  | [], _ :: _, _, _, _, _, hl, _, _, _ => by simp at hl
  | _ :: _, [], _, _, _, _, hl, _, _, _ => by simp at hl
def semiLA (ops : Array Oper) (ks js : List Nat) (n : Nat) : Bool :=
  Region.noSelect ops && decide (n = ops.size) && lexLB .any ops (ops.size - n) n js ks (Array.replicate ops.size false) && decide (ks.length + js.length = n) &&
    ks.all (fun k => Nat.blt k ops.size) && js.all (fun k => Nat.blt k ops.size)
theorem wp_region_semiA {id : Nat} {Q : Exit → Act → World → Prop} {a : Act} {w : World} {l : List Oper} (ks js : List Nat) (n : Nat) (hm : P.follows .mixedOrders = true) (hB : semiLA l.toArray ks js n = true)
    (hC : C { w with drawn := w.drawn + 1 })
    (h : pureV P l.toArray C (fun a' => seqV P l.toArray C (fun a' w' => wpList P l.toArray Q (l.drop n) a' w') (pickL l js) a' { w with drawn := w.drawn + 1 }) (pickL l ks) a) : (Code.region id l.toArray true).wp P Q a w := by
  simp only [semiLA, Bool.and_eq_true, decide_eq_true_eq] at hB
  obtain ⟨⟨⟨⟨⟨hsel, hn⟩, hlex⟩, hlen⟩, hks⟩, hjs⟩ := hB
  have hn' : n = l.length := by simpa using hn
  have hdl : (l.drop n).length = l.toArray.size - n := by simp
  obtain ⟨k1, k2⟩ := pickL_map l ks (by simpa using hks)
  obtain ⟨j1, j2⟩ := pickL_map l js (by simpa using hjs)
  have inv0 : HeadInv .any l.toArray n (Array.replicate l.toArray.size false) :=
    ⟨by simp, fun j oj _ hl => (by rw [getD_replicate_false] at hl; cases hl), fun t _ ht => getD_in (by simpa using ht) (getD_replicate_false _ _)⟩
  have H := anyV_lexLA (md := .any) (g := l.toArray.size - n) (lt := pickL l js) hsel hn j1 ks (pickL l ks) _ a _ hC k1 inv0 hlex h
  refine wp_region_any hm ?_
  have := any_of_v (Q' := Q) (g := l.toArray.size - n) (fun listed a' w' hL => by
    have := wpAny_of_seq (md := .any) (Q' := Q) (l.drop n) n listed a' w' (fun j => by simp [List.getElem?_drop]) (by rw [hdl]; exact hL.1) hL.2
    rwa [hdl] at this) _ _ _ _ H
  rw [k2, j2, hlen, show n + (l.toArray.size - n) = l.toArray.size by omega] at this
  exact this
end
section
variable {P : Program} {N : Nat} {ds : List Deferred} {X : List Nat} {Q : Exit → Act → World → Prop} {l : Log} {w : World} {os : List Oper} {E : Ent} {I : Imm} {G R : List HItem}
theorem wc_semiA [Mixed P] {id : Nat} (ks js : List Nat) (n : Nat) (X : List Nat) (hB : semiLA os.toArray ks js n = true)
    (h : ∀ wd, Kept [] w wd → WV P N ds os.toArray X wd (fun a' => seqV P os.toArray (fun w' => Kept X wd w') (fun a' w' => wpList P os.toArray Q (os.drop n) a' w') (pickL os js) a' wd) (pickL os ks) l) :
    WC P N ds (.region id os.toArray true) Q l w :=
  ⟨fun a ha => wp_region_semiA (C := fun w' => Kept X { w with drawn := w.drawn + 1 } w') ks js n Mixed.out hB (Kept.refl _ _) ((h _ (Kept.drew w)).run a ha)⟩
theorem wc_semi_memA [Mixed P] {id : Nat} (hm : Mem E I (G ++ R) w) (ks js : List Nat) (n : Nat) (hB : semiLA os.toArray ks js n = true)
    (h : ∀ wd, Mem E I (G ++ R) wd → Mem ⟨wd, blks G, I⟩ I G wd → WV P N ds os.toArray (blks G) wd (fun a' => seqV P os.toArray (fun w' => Kept (blks G) wd w') (fun a' w' => wpList P os.toArray Q (os.drop n) a' w') (pickL os js) a' wd) (pickL os ks) l) :
    WC P N ds (.region id os.toArray true) Q l w :=
  wc_semiA ks js n (blks G) hB (fun wd hk => h wd (hm.kept0 hk) (hm.kept0 hk).sub)
end
end Go.Fw
end
section
namespace Go.Fw
open Go
section
variable {P : Program} {N : Nat} {ds : List Deferred} {Q : Exit → Act → World → Prop} {K : Act → Prop} {l : Log} {w w0 : World} {ops : Array Oper} {os os' tail : List Oper} {X : List Nat}
variable {d : Nat} {ty : TypeId} {pos : String} {af : Array Edge} {g : Option (Nat × Bool)} {t t' : TypeId} {x y : Operand} {I I0 : Imm} {H : List HItem}
theorem wu_addW {m' f : Nat} {listed : Array Bool} {a b : Int} (hC : Kept X w0 w) (hw : want ops l ⟨some d, .binOp .add t x y t', ty, pos, af, g⟩ = some true) (hN : Nat.blt d N = true)
    (hx : ev l x = some (.int .i64 a)) (hy : ev l y = some (.int .i64 b))
    (k : WA P N ds ops Q X w0 m' f listed tail ((d, .int .i64 (Sp.w64 (a + b))) :: l) w) : WU P N ds ops Q X w0 m' f listed tail ⟨some d, .binOp .add t x y t', ty, pos, af, g⟩ l w :=
  wu_value rfl hw hN (fun c hc => by simp [execOp, hc.ev hx, hc.ev hy, eqGuard, binOp, Op.intArith, wrap_w64]) hC k
theorem wa_eq {m' f : Nat} {listed listed' : Array Bool} (he : listed = listed') (h : WA P N ds ops Q X w0 m' f listed' tail l w) : WA P N ds ops Q X w0 m' f listed tail l w := he ▸ h
theorem mt_buildI {e : TypeId} {sz by_ n : Nat} [TySlice P t e] [Elem P e sz by_] {ps : List (Nat × Operand)} {vs : List (Nat × Value)} {xs : List Value} (hm : Mem ⟨w0, X, I0⟩ I H w)
    (hw : want ops l ⟨some d, .buildSlice t n ps.toArray, ty, pos, af, g⟩ = some true) (hN : Nat.blt d N = true) (hx : evp l ps = some vs)
    (hi : vs.map (·.1) = List.range' 0 n) (hs : vs.all (fun p => Nat.beq p.2.cells.toList.length sz) = true) (hn : Nat.ble (n * sz) 16777216 = true) (hxs : vs.flatMap (·.2.cells.toList) = xs)
    (k : ∀ I' a w', Le I I' → Mem ⟨w0, X, I0⟩ I' H w' → RowI I' e sz (.slice a n n) n xs → WS P N ds ops Q X w0 os' tail ((d, .slice a n n) :: l) w') :
    WS P N ds ops Q X w0 (⟨some d, .buildSlice t n ps.toArray, ty, pos, af, g⟩ :: os') tail l w := by
  subst hxs
  have hk := Kept.alloc w (.cells (vs.flatMap (·.2.cells.toList)).toArray e (0, 0))
  obtain ⟨h1, h2⟩ := hm.fresh hk (Nat.le_refl _) (heap_alloc_new w _)
  refine ws_value rfl hw hN (fun a ha => run_build ha hx hi hs (Nat.le_of_ble_eq_true hn)) h2.kept (k _ _ _ h1 h2 ⟨?_, _, _, rfl, Nat.le_refl _, fun _ => ⟨w.heap.size, 0, _, (_, _), rfl, Imm.add_self _ _ _, fun j u hj => by rw [Nat.zero_add]; simpa using hj⟩⟩)
  have hlen : vs.length = n := by have := congrArg List.length hi; simpa using this
  rw [all_len vs hs, hlen]
end
end Go.Fw
namespace Go.Sp
structure AllOk (src : List UInt8) (its : List Itm) : Prop where
  len : src.length ≤ 4000
  few : its.length ≤ 30
  nm : ∀ x ∈ its, ItN src x
  fl : ∀ x ∈ its, ItF x
  lab : itLab its
  ef : ∀ x ∈ its, x.fit ∧ stmsCnt x.body ≤ 400000000
  nms : (namesE its).length ≤ 960000
theorem file_ok {s : List UInt8} (h : fileErr s = 0) : AllOk s (fileItems s) := by
  obtain ⟨g1, few⟩ := file_eff s
  obtain ⟨k1, k2⟩ := file_itF s
  have hl : s.length ≤ 4000 := by
    rw [fileErr] at h
    split at h
    · cases h
    · omega
  exact ⟨hl, few, file_itN s, k1, k2, fun x hx => ⟨(g1 x hx).1.fit, by have := (g1 x hx).2; omega⟩, names_len g1 few⟩
theorem rawD_few {src : List UInt8} {its : List Itm} (h : AllOk src its) {i : Nat} (hi : i < its.length) : (rawD its i).length ≤ 2000000000 := by
  have h1 := (h.nm _ (itNo_mem hi)).small.diags
  have h2 := walk_few h.nm (i := i) hi
  have h3 : (walkN its i).ds.length ≤ (walkN its i).n := by rw [NW.n]; omega
  have h4 : (effD its i).length ≤ (allE its i).length := by rw [effD, List.length_map]; exact List.length_filter_le _ _
  have h5 := allE_len (its := its) i
  have h6 := h.nms
  have h7 : (checkF its i (-1)).ds.length ≤ 800000000 := by
    have hc := (h.fl _ (itNo_mem hi)).cnt
    rw [checkF]
    split
    · have := (stmsF_n its (itNo its i).label (-1) (itNo its i).body (parsF (itNo its i).params) 0 FW0).2.1
      have e : FW0.ds.length = 0 := rfl
      omega
    · exact Nat.zero_le _
  rw [rawD, List.length_append, List.length_append, List.length_append]
  omega
end Go.Sp
namespace Go.Proofs.YthmdffgiockcbaaGreatDoor
open Go.Fw
abbrev encDi (d : Sp.DI) : List Value := [.int .i64 d.fr, .int .i64 d.to, nt d.err, str d.name]
theorem encDi_one {l : List Sp.DI} : ∀ u ∈ l.flatMap encDi, u.oneCell' = true := fun u hu => by
  obtain ⟨d, _, hd⟩ := List.mem_flatMap.1 hu
  rcases List.mem_cons.1 hd with rfl | hd
  · rfl
  · rcases List.mem_cons.1 hd with rfl | hd
    · rfl
    · rcases List.mem_cons.1 hd with rfl | hd
      · rfl
      · obtain rfl := List.mem_singleton.1 hd; rfl
structure DgX where
  q : Nat
  sa : Option Addr
  sp : Nat
section
variable {src : List UInt8} {its : List Sp.Itm} {a : Option Addr} {cp : Nat} {xs : List Value}
set_option maxHeartbeats 64000000 in
theorem r_diags (i : Nat) (hi : i < its.length) (I : Imm) (h : FE I its a cp xs) (hA : Sp.AllOk src its) :
    CalM Tryz.prog 53 #[.agg [.slice a its.length cp].toArray, nt i] I [] (fun v I' H' => H' = [] ∧ ∃ da dp, v = .slice da (Sp.dgsR its i).length dp ∧ RowI I' 154 4 (.slice da (Sp.dgsR its i).length dp) (Sp.dgsR its i).length ((Sp.dgsR its i).flatMap encDi)) := by
  refine CalM.of fun w E hm => enter (N := 73) Tryz.func53 rfl [(0, .agg [.slice a its.length cp].toArray), (1, nt i)] args2 rfl ?_
  have hfew := h.few
  have hnms := hA.nms
  have hN := fun (J : Imm) (m : Le I J) => n_diags i hi J (h.le m) hA.len hA.nm
  have hE := fun (J : Imm) (m : Le I J) => e_diags i hi J a cp xs (h.le m) hA.ef (by omega)
  have hFl := fun (J : Imm) (m : Le I J) => f_diags i hi J (h.le m) hA.lab hA.fl
  have hraw := Sp.rawD_few hA hi
  have hrw : Sp.rawD its i = (Sp.itNo its i).diags ++ ((Sp.walkN its i).ds ++ (Sp.effD its i ++ (Sp.checkF its i (-1)).ds)) := rfl
  rw [Sp.dgsR]
  generalize Sp.rawD its i = raw at hraw hrw ⊢
  obtain ⟨ci, hci, hat, _⟩ := h.get (Sp.itNo_get hi)
  have hri := h.row
  generalize (Sp.walkN its i).ds = wl at hN hrw
  generalize Sp.effD its i = ed at hE hrw
  generalize (Sp.checkF its i (-1)).ds = fd at hFl hrw
  generalize Sp.itNo its i = it at hat hrw ⊢
  obtain ⟨pa, pc, sa9, sc9, ba, bc9, da9, dc9, xb, rfl, _, _, _, _, hrd⟩ := hat
  repeat' (first|refine wc_hold 4 ?_|(refine m_box (d:=2) hm (k:=?_); clear hm; intro b2 _ hm)|refine m_load1 hm (k:=?_)|refine op_move (k:=?_)|refine op_assign (k:=?_)|refine op_pick_false (k:=?_)|refine op_lss (k:=?_)|refine op_geq (k:=?_)|refine op_len_slice (k:=?_)|refine op_fieldAddr (k:=?_)|refine wl_nil ?_|refine at_then_normal ?_|refine wc_seq ?_|refine wc_region ?_|refine wc_skip ?_|(refine wc_cond_dec (ht:=fun _ => ?_) (hf:=fun _ => ?_)<;> (try first | contradiction | (exfalso; omega))))
  all_goals try (exfalso; first | omega | contradiction)
  obtain ⟨I2, hle2, hm2, hpf⟩ := hm.freezeO
  clear hm
  have hm := hm2
  clear hm2
  have hri2 := hri.le hle2
  refine ⟨?_⟩
  repeat' (first|(refine wc_semi_memA (id := 4) (hm.perm pm0) [0,1,2,3,4,5,6,7,9,10,12,13,17] [8,11,14,15,16] 18 (by kernel_rfl) ?_; clear hm; intro wd hR hm)|(refine iw_indexAddr (d:=22) (hr:=hri2) (k:=?_); intro bt ot hpt; rw [show ((i : Int).toNat * 10) = i * 10 from rfl, hci] at hpt)|(refine iw_loadN (d:=25) hR (hp:=hpf) (k:=?_))|(refine iw_loadN (d:=28) hR (hp:=hpf) (k:=?_))|(refine iw_loadN (d:=31) hR (hp:=hpf) (k:=?_))|(refine mt_call (d:=27) hm (hp:=pm0) (hc:=hN I2 hle2) (k:=?_); clear hm; rintro _ I3 _ _ ⟨rfl, wa, wp, rfl, hrwd⟩ hleI3 hm; try simp only [setn] at hm)|(refine mt_call (d:=30) hm (hp:=pm0) (hc:=hE I3 (hle2.trans hleI3)) (k:=?_); clear hm; rintro _ I4 _ _ ⟨rfl, ea, ep, rfl, hred⟩ hleI4 hm; try simp only [setn] at hm)|(refine mt_call (d:=33) hm (hp:=pm0) (hc:=hFl I4 ((hle2.trans hleI3).trans hleI4)) (k:=?_); clear hm; rintro _ I5 _ _ ⟨rfl, fa, fp, rfl, hrfd⟩ hleI5 hm; try simp only [setn] at hm)|(refine mt_buildI (d := 34) hm (by rfl) (by rfl) (by rfl) (by rfl) (by rfl) (by rfl) (by rfl) ?_; clear hm; intro I6 ta _ hle56 hm hrt)|refine iw_load1 hR (k:=?_)|(refine ws_nil ?_; replace hm := hR.back hm; clear hR; try simp only [setn] at hm)|refine s_len_slice hm.kept (by rfl) (by rfl) (by rfl) ?_|refine wl_nil ?_|refine at_then_normal ?_|refine wc_block ?_|refine v_move (k:=?_)|refine v_fieldAddr (k:=?_)|refine wv_nil ?_)
  all_goals try (exfalso; first | omega | contradiction)
  have hle36 : Le I3 I6 := (hleI4.trans hleI5).trans hle56
  have hle26 : Le I2 I6 := hleI3.trans hle36
  have hle16 : Le I I6 := hle2.trans hle26
  obtain ⟨T, hT⟩ : ∃ T : List (Tri Sp.Dg), T = [(it.diags, da9, dc9), (wl, wa, wp), (ed, ea, ep), (fd, fa, fp)] := ⟨_, rfl⟩
  have hTl : T.length = 4 := by rw [hT]; rfl
  have hTf : raw = T.flatMap (·.1) := by rw [hrw, hT]; simp
  have hrt2 : RowI I6 40 1 (.slice ta 4 4) 4 (T.flatMap (fun t => [triV t])) := by rw [hT]; exact hrt
  have hTr : ∀ t ∈ T, RowI I6 154 4 (triV t) t.1.length (t.1.flatMap encDg) := fun t ht => by
    rw [hT] at ht
    rcases List.mem_cons.1 ht with rfl | ht
    · exact hrd.le hle16
    · rcases List.mem_cons.1 ht with rfl | ht
      · exact hrwd.le hle36
      · rcases List.mem_cons.1 ht with rfl | ht
        · exact hred.le (hleI5.trans hle56)
        · obtain rfl := List.mem_singleton.1 ht
          exact hrfd.le hle56
  have hpf6 := hpf.le hle26
  have hri6 := hri2.le hle26
  have hpt6 := hci
  clear hT hrd hrwd hred hrfd hrt hN hE hFl
  have hm := hm.nil 154 4
  have hsub : ∀ q, (((T.take q).flatMap (·.1)).map (Sp.shiftD it.at_)).length ≤ 2000000000 := fun q => by
    rw [List.length_map]
    have : ((T.take q).flatMap (·.1)).length ≤ (T.flatMap (·.1)).length := by
      conv => rhs; rw [← List.take_append_drop q T]
      rw [List.flatMap_append, List.length_append]; omega
    rw [← hTf] at this
    omega
  refine wc_loop (fun x : DgX => [(1, nt i), (2, ptr b2), (5, .slice x.sa (((T.take x.q).flatMap (·.1)).map (Sp.shiftD it.at_)).length x.sp), (34, .slice ta 4 4), (35, nt 4), (36, nt x.q)])
    (fun x w' => Mem E I6 [.row (.slice x.sa (((T.take x.q).flatMap (·.1)).map (Sp.shiftD it.at_)).length x.sp) 154 4 (((T.take x.q).flatMap (·.1)).map (Sp.shiftD it.at_)).length ((((T.take x.q).flatMap (·.1)).map (Sp.shiftD it.at_)).flatMap encDi)] w' ∧ x.q ≤ 4) (fun x => 4 - x.q) ⟨0, none, 0⟩
    (by exact ⟨rfl, rfl, rfl, rfl, rfl, rfl, trivial⟩) ⟨hm, Nat.zero_le _⟩ ?_
  clear hm
  rintro ⟨q, oa, op⟩ w1 ⟨hm, hq⟩
  dsimp only at hm hq ⊢
  by_cases hlq : q < 4
  · have hg : T[q]? = some T[q] := List.getElem?_eq_getElem (by omega)
    have htr := hTr _ (List.mem_of_getElem? hg)
    have htk : (T.take (q + 1)).flatMap (·.1) = (T.take q).flatMap (·.1) ++ T[q].1 := by
      rw [List.take_add_one, hg, List.flatMap_append]; simp
    have hsb := hsub (q + 1)
    rw [htk] at hsb
    generalize T[q] = t at hg htr htk hsb
    obtain ⟨td, tda, tdc⟩ := t
    dsimp only at htr htk hsb
    generalize (T.take q).flatMap (·.1) = pre at hm htk hsb
    rw [List.map_append, List.length_append, List.length_map, List.length_map] at hsb
    repeat' (first|(refine i_indexFlat (d:=38) (enc:=fun t => [triV t]) (z:=(td, tda, tdc)) (hr:=hrt2) (he:=fun _ => rfl) (hz:=by exact hg) (k:=?_); intro bz oz hpz)|(refine i_load1z (d:=39) hm (hp:=hpz) (k:=?_))|refine op_move (k:=?_)|refine op_assign (k:=?_)|refine op_lss (k:=?_)|refine op_len_slice (k:=?_)|refine wl_nil ?_|refine at_then_normal ?_|refine wc_seq ?_|refine wc_region ?_|refine wc_block ?_|refine wc_skip ?_|(refine wc_cond_dec (ht:=fun _ => ?_) (hf:=fun _ => ?_)<;> (try first | contradiction | (exfalso; omega))))
    all_goals try (exfalso; first | omega | contradiction)
    refine wc_loop (fun x : DgX => [(1, nt i), (2, ptr b2), (5, .slice x.sa ((pre ++ td.take x.q).map (Sp.shiftD it.at_)).length x.sp), (34, .slice ta 4 4), (35, nt 4), (36, nt q), (40, .slice tda td.length tdc), (41, nt td.length), (42, nt x.q)])
      (fun x w' => Mem E I6 [.row (.slice x.sa ((pre ++ td.take x.q).map (Sp.shiftD it.at_)).length x.sp) 154 4 ((pre ++ td.take x.q).map (Sp.shiftD it.at_)).length (((pre ++ td.take x.q).map (Sp.shiftD it.at_)).flatMap encDi)] w' ∧ x.q ≤ td.length) (fun x => td.length - x.q) ⟨0, oa, op⟩
      (by exact ⟨rfl, rfl, by rw [List.take_zero, List.append_nil]; rfl, rfl, rfl, rfl, rfl, rfl, rfl, trivial⟩) ⟨by dsimp only; rw [List.take_zero, List.append_nil]; exact hm, Nat.zero_le _⟩ ?_
    clear hm
    rintro ⟨j, oa, op⟩ w2 ⟨hm, hj⟩
    dsimp only at hm hj ⊢
    by_cases hlj : j < td.length
    · have hgj : td[j]? = some td[j] := List.getElem?_eq_getElem hlj
      generalize td[j] = dg at hgj
      have htj : (pre ++ td.take (j + 1)).map (Sp.shiftD it.at_) = (pre ++ td.take j).map (Sp.shiftD it.at_) ++ [Sp.shiftD it.at_ dg] := by
        rw [Sp.take_succ_get hgj, ← List.append_assoc, List.map_append]; rfl
      have hlt : ((pre ++ td.take j).map (Sp.shiftD it.at_)).length ≤ 2000000000 := by
        rw [List.length_map, List.length_append, List.length_take]; omega
      generalize (pre ++ td.take j).map (Sp.shiftD it.at_) = oj at hm htj hlt
      repeat' (first|(refine i_indexFlat (d:=44) (enc:=encDg) (z:=dg) (hr:=htr) (he:=fun _ => rfl) (hz:=by exact hgj) (k:=?_); intro bz2 oz2 hpz2)|refine wc_hold 10 ?_|(refine m_varS (d:=9) hm (k:=?_); clear hm; intro b9 _ hm)|refine i_loadN hm (k:=?_)|refine op_lss (k:=?_)|refine wl_nil ?_|refine at_then_normal ?_|refine wc_seq ?_|refine wc_region ?_|refine wc_block ?_|refine wc_skip ?_|(refine wc_cond_dec (ht:=fun _ => ?_) (hf:=fun _ => ?_)<;> (try first | contradiction | (exfalso; omega))))
      all_goals try (exfalso; first | omega | contradiction)
      refine ⟨?_⟩
      refine wc_midF 10 (fun _ : DgX => [(1, nt i), (2, ptr b2), (5, .slice oa oj.length op), (9, ptr b9), (34, .slice ta 4 4), (35, nt 4), (36, nt q), (40, .slice tda td.length tdc), (41, nt td.length), (42, nt j)]) (fun _ w' => Mem E I6 [.cell b9 (encDi (Sp.shiftD it.at_ dg)) 154, .row (.slice oa oj.length op) 154 4 oj.length (oj.flatMap encDi)] w') ?_ ?_
      · skip
        repeat' (first|(refine wc_fork_mem (id:=10) (hm.perm pm1_0) [0,2,3,4,5,6,7,9,11,12,13,14,15,16] 20 (h:=?_); clear hm; intro wd hR hm)|(refine iw_indexAddr (d:=51) (hr:=hri6) (k:=?_); intro bt1 ot1 hpt1; rw [show ((i : Int).toNat * 10) = i * 10 from rfl, hci] at hpt1)|(refine iw_indexAddr (d:=60) (hr:=hri6) (k:=?_); intro bt2 ot2 hpt2; rw [show ((i : Int).toNat * 10) = i * 10 from rfl, hci] at hpt2)|(refine wv_nilA (wa_eq (listed' := #[true, false, true, true, true, true, true, true, false, true, false, true, true, true, true, true, true, false, false, false, false, false]) (by decide +kernel) ?_))|(refine mu_load1 hm (by rfl) (by rfl) (by rfl) gt0 (by rfl) ?_)|(refine wu_addW hm.kept (by rfl) (by rfl) (by rfl) (by rfl) ?_)|(refine wu_fieldAddr hm.kept (by rfl) (by rfl) (by rfl) ?_)|(refine mu_store1 hm (by rfl) (by rfl) (by rfl) (by rfl) gt0 (by rfl) (by rfl) (by rfl) ?_; clear hm; intro _ hm; try simp only [setn] at hm)|(refine wa_two (i:=1) (j:=10) (by decide +kernel) (h:=?_) (h2:=?_))|(refine wa_two (i:=8) (j:=10) (by decide +kernel) (h:=?_) (h2:=?_))|(refine wa_two (i:=1) (j:=17) (by decide +kernel) (h:=?_) (h2:=?_))|(refine wa_two (i:=8) (j:=17) (by decide +kernel) (h:=?_) (h2:=?_))|(refine wa_two (i:=17) (j:=18) (by decide +kernel) (h:=?_) (h2:=?_))|(refine wa_two (i:=17) (j:=19) (by decide +kernel) (h:=?_) (h2:=?_))|(refine wa_one (i:=1) (by decide +kernel) (h:=?_))|(refine wa_one (i:=8) (by decide +kernel) (h:=?_))|(refine wa_one (i:=10) (by decide +kernel) (h:=?_))|(refine wa_one (i:=17) (by decide +kernel) (h:=?_))|(refine wa_one (i:=18) (by decide +kernel) (h:=?_))|(refine wa_one (i:=19) (by decide +kernel) (h:=?_))|(refine wa_nil (by decide +kernel) ?_; replace hm := hR.back hm; clear hR; try simp only [setn] at hm)|refine iw_load1 hR (k:=?_)|(refine m_store1 hm (k:=?_); clear hm; intro _ hm; try simp only [setn] at hm)|refine op_fieldAddr (k:=?_)|refine wl_nil ?_|refine v_move (k:=?_)|refine v_fieldAddr (k:=?_))
        all_goals try (exfalso; first | omega | contradiction)
        all_goals exact at_cut (⟨0, none, 0⟩ : DgX) (by exact ⟨rfl, rfl, rfl, rfl, rfl, rfl, rfl, rfl, rfl, rfl, trivial⟩) hm
      clear hm
      intro _ w3 hm
      repeat' (first|(refine m_push (d:=69) hm (k:=?_); clear hm; intro a69 cp69 _ _ hm; try simp only [setn] at hm)|refine m_loadAll hm (k:=?_)|refine op_move (k:=?_)|refine op_assign (k:=?_)|refine op_add (k:=?_)|refine wl_nil ?_|refine at_then_normal ?_|refine at_block_normal ?_|refine wc_region ?_)
      all_goals try (exfalso; first | omega | contradiction)
      refine at_round (⟨j + 1, a69, cp69⟩ : DgX) (by exact ⟨rfl, rfl, by rw [htj, List.length_append]; rfl, rfl, rfl, rfl, rfl, rfl, rfl, trivial⟩) ⟨?_, by dsimp only; omega⟩ (by dsimp only; omega)
      dsimp only
      rw [htj, List.flatMap_append, List.length_append]
      exact hm.tl
    · obtain rfl : j = td.length := by omega
      rw [List.take_length] at hm ⊢
      repeat' (first|refine op_move (k:=?_)|refine op_lss (k:=?_)|refine op_add (k:=?_)|refine wl_nil ?_|refine at_then_normal ?_|refine at_then_exit ?_|refine at_block_normal ?_|refine at_block_exit ?_|refine wc_seq ?_|refine wc_region ?_|refine wc_exit ?_|(refine wc_cond_dec (ht:=fun _ => ?_) (hf:=fun _ => ?_)<;> (try first | contradiction | (exfalso; omega))))
      all_goals try (exfalso; first | omega | contradiction)
      exact at_round (⟨q + 1, oa, op⟩ : DgX) (by exact ⟨rfl, rfl, by rw [htk]; rfl, rfl, rfl, rfl, trivial⟩) ⟨by dsimp only; rw [htk]; exact hm, by dsimp only; omega⟩ (by dsimp only; omega)
  · obtain rfl : q = 4 := by omega
    rw [List.take_of_length_le (by omega), ← hTf] at hm ⊢
    repeat' (first|refine op_move (k:=?_)|refine op_assign (k:=?_)|refine op_lss (k:=?_)|refine wl_nil ?_|refine at_then_normal ?_|refine at_then_exit ?_|refine at_block_exit ?_|refine wc_seq ?_|refine wc_region ?_|refine wc_exit ?_|refine wc_ret ?_|refine at_ret1 (h:=?_)|refine wc_cond_false (hf:=?_))
    all_goals try (exfalso; first | omega | contradiction)
    obtain ⟨I7, hle7, hm7, hrow⟩ := hm.freeze
    exact ⟨I7, [], ⟨rfl, _, _, rfl, hrow⟩, hm7⟩
end
end Go.Proofs.YthmdffgiockcbaaGreatDoor
end
