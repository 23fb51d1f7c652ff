/- The laws RunBad and RunSeen: each returns true, whatever it is given, where what it reads is small. -/
import Derived.Test.YthmdffgiockcbaaGreatDoorRb34
import Derived.Carry
import Derived.Deep.Slices
import Derived.ChangeSlices
import Derived.Test.YthmdffgiockcbaaGreatDoorCards
import Derived.Test.YthmdffgiockcbaaGreatDoorTie
import Derived.Deep.DeepHandedRow
import Derived.Lay
section
namespace Go.Proofs.YthmdffgiockcbaaGreatDoor
open Go.ChangeShapes Go.WideShapes Go.ChangeAt Go.RowKit
open Go.Fw
theorem rowI_cells {W : World} {ty sz n cap : Nat} {a : Addr} {xs : List Value} (hl : xs.length = n * sz) (hsz : 0 < sz) (hnc : n ≤ cap) (hc : ∀ j v, xs[j]? = some v → W.cell? (a.add j) = some v) : RowI (immOf W) ty sz (.slice (some a) n cap) n xs := by
  refine ⟨hl, some a, cap, rfl, hnc, fun hn => ?_⟩
  have h0 : 0 < xs.length := by rw [hl]; exact Nat.mul_pos hn hsz
  have hx := hc 0 xs[0] (List.getElem?_eq_getElem h0)
  obtain ⟨b, off, sp⟩ := a
  have e0 : (⟨b, off, sp⟩ : Addr).add 0 = ⟨b, off, sp⟩ := rfl
  rw [e0] at hx
  cases hh : W.heap[b]? with
  | none => simp [World.cell?, hh] at hx
  | some o =>
    cases o with
    | cells c t fr =>
      cases sp with
      | some s => simp [World.cell?, hh] at hx
      | none =>
        refine ⟨b, off, c, (t, fr), rfl, hh, fun j u hj => ?_⟩
        have h2 := hc j u hj
        rw [Addr.add_lit] at h2
        simpa [World.cell?, hh] using h2
    | _ => simp [World.cell?, hh] at hx
theorem bulkAll_len {H : Type} : ∀ (l : List (DataW H)), l.length ≤ Rows.uptoBulkAll l
  | [] => by simp
  | d :: r => by
    have h1 := bulkAll_len r
    have h2 := bulk_one d
    simp only [List.length_cons, Rows.uptoBulkAll]
    omega
section
variable {H : Type} {enc : TypeId × Value → H} {W : World}
set_option maxRecDepth 100000 in
theorem open_nums {v : Value} {d : DataW H} {p : List MemPlace} {b0 : Nat} (hval : Value.okWide Tryz.prog W .any b0 39 v) (h : DataW.Trod enc Tryz.prog W 0 (fun _ => true) true 39 v d p) :
    ∃ (a : Option Addr) (zs : List Int) (cap : Nat), v = .slice a zs.length cap ∧ RowI (immOf W) 3 1 (.slice a zs.length cap) zs.length (zs.map (fun n => .int .i64 n)) ∧ zs.length ≤ Rows.uptoBulk d := by
  obtain ⟨a0, len, cap, rfl⟩ := okWide_slice Tryz.underlying39 hval
  obtain ⟨fuel, hf⟩ := h
  rcases open_ints Tryz.underlying39 Tryz.underlying3 (by kernel_rfl) hf with ⟨hcs, hx⟩ | ⟨a, len', cap', zs, hcs, _, hl, hm, hz, hx, hcell, hwz⟩
  · simp [Value.cells] at hcs
    obtain ⟨rfl, rfl, rfl⟩ := hcs
    exact ⟨none, [], 0, rfl, rowI_nil _ _ _ _ _, Nat.zero_le _⟩
  · simp [Value.cells] at hcs
    obtain ⟨rfl, rfl, rfl⟩ := hcs
    simp only [if_true] at hz
    have hbl : (zs.take len).length = len := by rw [List.length_take]; omega
    refine ⟨some a, zs.take len, cap, by rw [hbl], ?_, ?_⟩
    · rw [hbl]
      refine rowI_cells (by rw [List.length_map, List.length_take]; omega) (by decide) hl (fun j u hj => ?_)
      rw [List.getElem?_map, List.getElem?_take] at hj
      split at hj
      · rename_i hjl
        have hjz : j < zs.length := by omega
        rw [List.getElem?_eq_getElem hjz] at hj
        have h3 := hcell j hjz
        rw [List.getD_eq_getElem?_getD, List.getElem?_eq_getElem hjz] at h3
        rw [h3]
        simpa using hj
      · cases hj
    · rw [hbl]
      simp only [Prod.mk.injEq] at hx
      rw [hx.1]
      have h4 := bulkAll_len (lits (H := H) .i64 (zs.take len))
      have h5 : (lits (H := H) .i64 (zs.take len)).length = len := by rw [lits, List.length_map, List.length_take]; omega
      simp only [Rows.uptoBulk]
      omega
theorem two {α : Type} {l : List α} (h : l.length = 2) : ∃ a b, l = [a, b] := by
  match l, h with
  | [a, b], _ => exact ⟨a, b, rfl⟩
set_option maxRecDepth 100000 in
theorem event_of {fuel : Nat} {cs : List Value} {x : DataW H × List MemPlace} (h : DataW.trod enc Tryz.prog W 0 (fun _ => true) true fuel 59 cs = some x) (hl : cs.length = 2) : ∃ e : Sp.Ev, cs = encEv e := by
  obtain ⟨xs, n, _, _, _, hlen, hf⟩ := DataW.trod_struct Tryz.underlying59 h
  obtain ⟨x0, x1, rfl⟩ := two hlen
  obtain ⟨c0, c1, rfl⟩ := two hl
  have k3 : Tryz.prog.cellsOf 3 = 1 := by kernel_rfl
  have k9 : Tryz.prog.cellsOf 9 = 1 := by kernel_rfl
  have f0 : DataW.trod enc Tryz.prog W 0 (fun _ => true) true n 9 (([c0, c1].drop 0).take (Tryz.prog.cellsOf 9)) = some x0 := hf 0 _ rfl
  have f1 : DataW.trod enc Tryz.prog W 0 (fun _ => true) true n 3 (([c0, c1].drop 1).take (Tryz.prog.cellsOf 3)) = some x1 := hf 1 _ rfl
  rw [k9] at f0
  rw [k3] at f1
  obtain ⟨s, e0, _, _⟩ := DataW.trod_string Tryz.underlying9 f0
  obtain ⟨z1, e1, _, _⟩ := DataW.trod_int Tryz.underlying3 f1
  simp only [List.drop_zero, List.drop_succ_cons, List.take_succ_cons, List.take_zero, List.cons.injEq, and_true] at e0 e1
  subst e0; subst e1
  exact ⟨⟨s.data.toList, z1⟩, rfl⟩
theorem events_build {C : Nat → List Value} : ∀ (n : Nat), (∀ i, i < n → ∃ e : Sp.Ev, C i = encEv e) → ∃ l : List Sp.Ev, l.length = n ∧ (List.range n).flatMap C = l.flatMap encEv
  | 0, _ => ⟨[], rfl, rfl⟩
  | n + 1, h => by
    obtain ⟨l, h1, h2⟩ := events_build n (fun i hi => h i (by omega))
    obtain ⟨e, g1⟩ := h n (by omega)
    refine ⟨l ++ [e], by rw [List.length_append, h1]; rfl, ?_⟩
    rw [List.range_succ, List.flatMap_append, List.flatMap_append, h2, List.flatMap_singleton, List.flatMap_singleton, g1]
theorem evs_len (l : List Sp.Ev) : (l.flatMap encEv).length = l.length * 2 := by
  induction l with
  | nil => rfl
  | cons a l ih =>
    rw [List.flatMap_cons, List.length_append, ih, List.length_cons]
    show 2 + l.length * 2 = (l.length + 1) * 2
    omega
set_option maxRecDepth 100000 in
theorem open_events {v : Value} {d : DataW H} {p : List MemPlace} {b0 : Nat} (hval : Value.okWide Tryz.prog W .any b0 54 v) (h : DataW.Trod enc Tryz.prog W 0 (fun _ => true) true 54 v d p) :
    ∃ (a : Option Addr) (l : List Sp.Ev) (cap : Nat), v = .slice a l.length cap ∧ RowI (immOf W) 59 2 (.slice a l.length cap) l.length (l.flatMap encEv) ∧ l.length ≤ Rows.uptoBulk d := by
  obtain ⟨a0, len, cap, rfl⟩ := okWide_slice Tryz.underlying54 hval
  obtain ⟨fuel, hf⟩ := h
  have k41 : Tryz.prog.cellsOf 59 = 2 := by kernel_rfl
  rcases Go.Deep.open_slice Tryz.underlying54 hf with ⟨hcs, hx⟩ | ⟨a, len', cap', m, n, D, Pl, hcs, _, hl, hm, hmm, hx, hel⟩
  · simp [Value.cells] at hcs
    obtain ⟨rfl, rfl, rfl⟩ := hcs
    exact ⟨none, [], 0, rfl, rowI_nil _ _ _ _ _, Nat.zero_le _⟩
  · simp [Value.cells] at hcs
    obtain ⟨rfl, rfl, rfl⟩ := hcs
    simp only [if_true] at hmm
    rw [k41] at hel
    have hC : ∀ i, ∃ c : List Value, c.length = 2 ∧ (i < len → (∀ j u, c[j]? = some u → W.cell? ((a.add (i * 2)).add j) = some u) ∧ ∃ q : Sp.Ev, c = encEv q) := fun i => by
      by_cases hi : i < len
      · obtain ⟨cs', g1, g2⟩ := hel i (by omega)
        obtain ⟨_, g3, g4⟩ := World.cells?_some g1
        refine ⟨cs', g3, fun _ => ⟨fun j u hj => ?_, event_of g2 g3⟩⟩
        rw [g4 j (by have := (List.getElem?_eq_some_iff.1 hj).1; omega)]
        exact hj
      · exact ⟨List.replicate 2 (.bool false), by simp, fun h => absurd h hi⟩
    have ⟨C, hC⟩ := Classical.axiomOfChoice hC
    obtain ⟨l, q1, q2⟩ := events_build (C := C) len (fun i hi => ((hC i).2 hi).2)
    subst q1
    refine ⟨some a, l, cap, rfl, ?_, ?_⟩
    · rw [← q2]
      refine rowI_cells (by rw [q2, evs_len]) (by decide) hl (fun j u hj => ?_)
      have hjl := (List.getElem?_eq_some_iff.1 hj).1
      rw [q2, evs_len] at hjl
      have hi : j / 2 < l.length := by omega
      have hfl := flat_drop C 2 (fun i => (hC i).1) (List.range l.length) (j / 2) (j / 2) (List.getElem?_range hi)
      have hju : (C (j / 2))[j % 2]? = some u := by
        rw [← hfl, List.getElem?_take, if_pos (Nat.mod_lt _ (by decide)), List.getElem?_drop, show j / 2 * 2 + j % 2 = j by omega]
        exact hj
      have h7 := ((hC (j / 2)).2 hi).1 _ _ hju
      obtain ⟨b, off, sp⟩ := a
      have e1 : ((⟨b, off, sp⟩ : Addr).add (j / 2 * 2)).add (j % 2) = (⟨b, off, sp⟩ : Addr).add j := by
        unfold Addr.add
        by_cases h1 : j / 2 * 2 = 0
        · rw [if_pos h1, show j % 2 = j by omega]
        · rw [if_neg h1, if_neg (show ¬ j = 0 by omega)]
          by_cases h2 : j % 2 = 0
          · rw [if_pos h2, show j / 2 * 2 = j by omega]
          · rw [if_neg h2]
            simp only [Addr.mk.injEq, true_and, and_true]
            omega
      rw [← e1]; exact h7
    · simp only [Prod.mk.injEq] at hx
      rw [hx.1]
      have h4 := bulkAll_len ((List.range l.length).map D)
      rw [List.length_map, List.length_range] at h4
      simp only [Rows.uptoBulk]
      omega
end
theorem laidOutS : laidOutB Tryz.prog = true := by kernel_rfl
theorem kept_below {W W' : World} (h : Kept [] W W') : Below W.heap.size W W' := ⟨h.os, h.tape, h.output, h.size, fun k hk => h.blk k hk (by simp)⟩
theorem post_kept2 {H : Type} {enc : TypeId × Value → H} {P : Program} {f : Func} {s : ChangeSpec} {apart fresh handsOn : Bool} {W W' : World} {args : Array Value} {v : Value} {ds gs : List (DataW H)} {before pa pv : List MemPlace}
    (hW : DataW.Whole enc P f.params.toList s.vars apart W args.toList ds gs before)
    (hres : ∀ (b : Nat) (sp : Nat → Bool) (hd : Bool), DataW.TrodAll enc P W' b sp hd f.resultTypes.toList (v.resultList f.resultTypes.size) (s.fn H (ds ++ gs)).results [])
    (hargs : DataW.TrodAll enc P W' 0 (fun b => decide (b < W.heap.size)) true f.params.toList args.toList (s.fn H (ds ++ gs)).args pa)
    (hvars : ∀ sp : Nat → Bool, (∀ p ∈ before, sp p.block = true) → DataW.TrodVars enc P W' sp s.vars (s.fn H (ds ++ gs)).vars pv)
    (hk : Kept [] W W') : s.post enc P f apart fresh handsOn false W args v W' := by
  have hold : ∀ p ∈ before, (fun b => decide (b < W.heap.size)) p.block = true := fun p hp => by simpa using hW.lt p hp
  exact ⟨ds, gs, before, [], pa, pv, hW, hres _ _ _, hargs, hvars _ hold, kept_but hk _, fun h => by cases h⟩
end Go.Proofs.YthmdffgiockcbaaGreatDoor
end
section
namespace Go.Proofs.YthmdffgiockcbaaGreatDoor.runBadTop
open Go.ChangeShapes Go.WideShapes Go.ChangeAt Go.RowKit
open Go.Fw (Kept Cal str Ret)
open Go.ChangeMaps (open_string shut_string)

set_option maxRecDepth 100000 in
theorem contract (H : Type) (enc : TypeId × Value → H) (W : World) (base : Nat) (args : Array Value) (ds gs : List (DataW H)) (before : List MemPlace)
    (hval : ∀ (j : Nat) t v, Tryz.f7.params[j]? = some t → args[j]? = some v → Value.okWide Tryz.prog W .any base t v)
    (hW : DataW.Whole enc Tryz.prog Tryz.f7.params.toList Rows.runBadSpec.vars false W args.toList ds gs before) (hk : Rows.uptoSmall H (ds ++ gs) = true) (hL : laidMetH Tryz.prog Rows.runBadUptoRow.laid W) :
    Calls Tryz.prog 7 args W fun e W' => ∃ v, e = .returned v ∧ Rows.runBadSpec.post enc Tryz.prog Tryz.f7 false true false false W args v W' := by
  have hC := conv_of hL (by kernel_rfl) (by kernel_rfl)
  clear hL
  have hW' := hW
  obtain ⟨p, q, hA0, hV, rfl, hfz, hnd⟩ := hW
  have hA : DataW.TrodAll enc Tryz.prog W 0 (fun _ => true) true Tryz.f7.params.toList args.toList ds p := hA0
  rw [Tryz.params7] at hA hval
  obtain ⟨v0, vs0, d0, ds0, p0, q0, hargs, rfl, rfl, h0, r0⟩ := trodAll_cons hA
  obtain ⟨v1, vs1, d1, ds1, p1, q1, hx1, rfl, rfl, h1, r1⟩ := trodAll_cons r0
  obtain ⟨v2, vs2, d2, ds2, p2, q2, hx2, rfl, rfl, h2, r2⟩ := trodAll_cons r1
  obtain ⟨rfl, rfl, rfl⟩ := trodAll_nil r2
  obtain rfl : args = #[v0, v1, v2] := by cases args; simp_all
  obtain ⟨rfl, rfl⟩ := trodVars_none hV
  obtain ⟨s0, rfl, rfl, rfl, hm0⟩ := open_string Tryz.underlying9 (hval 0 9 v0 rfl rfl) h0
  obtain ⟨s1, rfl, rfl, rfl, hm1⟩ := open_string Tryz.underlying9 (hval 1 9 v1 rfl rfl) h1
  obtain ⟨a2, s2, c2, rfl, hr2, hl2⟩ := open_nums (hval 2 39 v2 rfl rfl) h2
  have hlt := hW'.lt
  clear hA0
  simp only [List.append_nil] at hW' hk
  have hb0 : s0.data.toList.length ≤ 1048576 := bulk_str hk (by simp)
  have hb1 : s1.data.toList.length ≤ 1048576 := bulk_str hk (by simp)
  have hk2 : Rows.uptoBulk d2 ≤ 1048576 := Nat.le_trans (bulk_part (l := [.lit (.string s0.data.toList), .lit (.string s1.data.toList), d2]) (by simp)) (by simpa [Rows.uptoSmall] using hk)
  refine ((run_kept (sp_rbad s0.data.toList s1.data.toList s2 a2 c2 (Go.Fw.immOf W) (by omega) (by omega) (by omega) hC hr2)).run).mono fun e W' he => ?_
  cases e
  case returned v =>
    obtain ⟨rfl, hg⟩ := he
    refine ⟨_, rfl, post_kept2 (pv := []) hW' (fun _ _ _ => trodAll_cons_mk (shut_bool Tryz.underlying4 _) trodAll_mk0) (trodAll_cons_mk (Below.trod laidOutS (by kernel_rfl) (of_decide_eq_true (by kernel_rfl)) h0 (kept_below hg) (fun x hx => hlt x (by first | exact absurd hx (by simp) | simp [hx]))) (trodAll_cons_mk (Below.trod laidOutS (by kernel_rfl) (of_decide_eq_true (by kernel_rfl)) h1 (kept_below hg) (fun x hx => hlt x (by first | exact absurd hx (by simp) | simp [hx]))) (trodAll_cons_mk (Below.trod laidOutS (by kernel_rfl) (of_decide_eq_true (by kernel_rfl)) h2 (kept_below hg) (fun x hx => hlt x (by first | exact absurd hx (by simp) | simp [hx]))) trodAll_mk0))) (fun _ _ => rfl) hg⟩
  all_goals exact he.elim

noncomputable def laidWorld (os : Os) : World := World.laidAll Tryz.prog os Rows.runBadUptoRow.laid
theorem laid_met (os : Os) : laidMet Tryz.prog Rows.runBadUptoRow.laid ((laidWorld os).forCall (fun _ _ => 0) ⟨#[], #[.string .empty, .string .empty, .slice none 0 0], []⟩).memory :=
  laidMet_laidAll _ (by kernel_rfl) (by kernel_rfl)
theorem reads (os : Os) {H : Type} (enc : TypeId × Value → H) : ∃ places, DataW.whole enc Tryz.prog ((laidWorld os).forCall (fun _ _ => 0) ⟨#[], #[.string .empty, .string .empty, .slice none 0 0], []⟩).memory Tryz.f7.params.toList Rows.runBadSpec.vars false (#[.string .empty, .string .empty, .slice none 0 0] : Array Value).toList 8 = some ([.lit (.string []), .lit (.string []), .nil], [], places) :=
  ⟨[], by kernel_rfl⟩

set_option maxRecDepth 100000 in
theorem lifted (os : Os) (started : os.Started) (H : Type) (enc : TypeId × Value → H) (F : Stop.Interp) :
    ReturnsInHanded {} Tryz.checked os 7 .any ((Rows.OpenSpec.upto Rows.runBadSpec).preRow enc Tryz.prog Tryz.f7 Rows.runBadUptoRow.domain false Rows.runBadUptoRow.laid) (((Rows.OpenSpec.upto Rows.runBadSpec).at F).post enc Tryz.prog Tryz.f7 false true false false) := by
  obtain ⟨places, hx⟩ := reads os enc
  refine returnsInHanded_of_row (C := Tryz.checked) (s := Rows.OpenSpec.upto Rows.runBadSpec) ownKnobNone started (by kernel_rfl) Tryz.func7
    (witness_row_at (enc := enc) (C := Tryz.checked) false (laidWorld os) #[.string .empty, .string .empty, .slice none 0 0] (World.laidAll_os _ _ _) (by kernel_rfl) (by kernel_rfl) (by kernel_rfl)
      (OpenSpec.preRow_of_cond 8 hx (by kernel_rfl) (fun k hk => by cases hk; kernel_rfl) (by kernel_rfl) (laid_met os))) ?_
  intro W base args ds gs before hval hW _ hcond _ hL _ _
  exact contract H enc W base args ds gs before hval hW (hcond _ rfl) hL

theorem said : Rows.RunBadUptoSaid :=
  OpenClaim.holds_of_cond 7 Tryz.f7 rfl rfl rfl rfl rfl rfl rfl ⟨rfl, rfl, rfl, rfl, rfl⟩ rfl rfl rfl rfl rfl (by kernel_rfl) Tryz.func7 (by kernel_rfl)
    (of_decide_eq_true (by kernel_rfl)) (by unfold Func.isWrapper; first | (rw [if_pos (by decide +kernel)]; kernel_rfl) | (rw [if_neg (by decide +kernel)]; exact ⟨rfl, rfl⟩))
    (fun os started H enc _ F => by rw [OpenClaim.pre_eq_preRow]; exact lifted os started H enc F)

theorem plain (f : FuncId) (fn : Func) (hf : Tryz.pinned.checked.prog.funcNamed "undertone/underlaw7.RunBad" = some f) (hfn : Tryz.pinned.checked.prog.funcs[f]? = some fn) :
    true = Tryz.pinned.checked.prog.looks [] ∧ ∀ (j : Nat) t, fn.params[j]? = some t → Tryz.pinned.checked.prog.wantsStandIn t = false := by
  obtain rfl : f = 7 := Option.some.inj ((show Tryz.prog.funcNamed "undertone/underlaw7.RunBad" = some 7 by kernel_rfl).symm.trans hf) |>.symm
  obtain rfl : fn = Tryz.f7 := (Option.some.inj (Tryz.func7.symm.trans hfn)).symm
  refine ⟨by kernel_rfl, fun j t ht => ?_⟩
  rw [Tryz.params7] at ht
  have hm := Array.mem_of_getElem? ht
  simp only [List.mem_toArray, List.mem_cons, List.not_mem_nil, or_false] at hm
  rcases hm with rfl | rfl | rfl
  · exact (show Tryz.prog.wantsStandIn 9 = false by kernel_rfl)
  · exact (show Tryz.prog.wantsStandIn 9 = false by kernel_rfl)
  · exact (show Tryz.prog.wantsStandIn 39 = false by kernel_rfl)

theorem proved : Rows.RunBadUptoCardSaid :=
  Claim7.holds_tied_plain_at .later [] _ _ _ _ said (fun _ h => by cases h) (by kernel_rfl) (fun _ h => by cases h) runBadUpto_row_tie rfl ⟨rfl, rfl⟩ (by kernel_rfl) rfl plain (by kernel_rfl)
end Go.Proofs.YthmdffgiockcbaaGreatDoor.runBadTop
end
section
namespace Go.Proofs.YthmdffgiockcbaaGreatDoor
open Go.Fw
theorem ev_same (d : Sp.Ev) : eqCells (encEv d) (encEv d) = true := by simp [encEv, eqCells, eqCell]
set_option maxHeartbeats 32000000 in
theorem u_events (l : List Sp.Ev) (hl : l.length ≤ 1000000000) (I : Imm) (a b : Option Addr) (c d : Nat) (ha : RowI I 59 2 (.slice a l.length c) l.length (l.flatMap encEv)) (hb : RowI I 59 2 (.slice b l.length d) l.length (l.flatMap encEv)) :
    CalM Tryz.prog 33 #[.slice a l.length c, .slice b l.length d] I [] (fun v _ H' => v = .bool true ∧ H' = []) := by
  refine CalM.of fun w E hm => enter (N := 26) Tryz.func33 rfl [(0, .slice a l.length c), (1, .slice b l.length d)] args2 rfl ?_
  repeat' (first|refine op_move (k:=?_)|refine op_assign (k:=?_)|refine op_neq (k:=?_)|refine op_len_slice (k:=?_)|refine wl_nil ?_|refine at_then_normal ?_|refine wc_seq ?_|refine wc_region ?_|refine wc_block ?_|refine wc_skip ?_|(refine wc_cond_dec (ht:=fun _ => ?_) (hf:=fun _ => ?_)<;> (try first | contradiction | (exfalso; omega))))
  all_goals try (exfalso; first | omega | contradiction)
  refine wc_loop (fun x : NI => [(0, .slice a l.length c), (1, .slice b l.length d), (12, nt l.length), (13, nt x.k)])
    (fun x w' => Mem E x.I [] w' ∧ Le I x.I ∧ x.k ≤ l.length) (fun x => l.length - x.k) ⟨0, I⟩ (by exact ⟨rfl, rfl, rfl, rfl, trivial⟩) ⟨hm, Le.refl _, Nat.zero_le _⟩ ?_
  clear hm
  rintro ⟨k, I1⟩ w1 ⟨hm, hle1, hk⟩
  dsimp only at hm hle1 hk ⊢
  by_cases hlt : k < l.length
  · have hg : l[k]? = some l[k] := List.getElem?_eq_getElem hlt
    generalize l[k] = s at hg
    have ha1 := ha.le hle1
    have hb1 := hb.le hle1
    repeat' (first|(refine iq_indexFlat (d:=18) (enc:=encEv) (z:=s) (hr:=ha1) (he:=fun _ => rfl) (hz:=by exact hg) (k:=?_); intro b1 o1 p1)|(refine iq_indexFlat (d:=22) (enc:=encEv) (z:=s) (hr:=hb1) (he:=fun _ => rfl) (hz:=by exact hg) (k:=?_); intro b2 o2 p2)|refine iq_loadN hm (k:=?_)|refine op_move (k:=?_)|refine op_assign (k:=?_)|refine op_lss (k:=?_)|refine op_add (k:=?_)|refine wl_nil ?_|refine at_then_normal ?_|refine at_then_ret ?_|refine at_block_normal ?_|refine at_block_ret ?_|refine wc_seq ?_|refine wc_region ?_|refine wc_block ?_|refine wc_skip ?_|refine wc_ret ?_|refine at_ret1 (h:=?_)|refine wc_quiet (h:=?_)|(refine wq_nil ?_; intro _ hkq; replace hm := hm.kept0 hkq; clear hkq)|(refine wc_cond_dec (ht:=fun _ => ?_) (hf:=fun _ => ?_)<;> (try first | contradiction | (exfalso; omega)))|refine wc_cond (ht:=fun _ => ?_) (hf:=fun _ => ?_)|refine q_move (k:=?_)|refine q_neq_flat (k:=?_))
    all_goals try (exfalso; first | omega | contradiction)
    all_goals try (exfalso; rename_i hx; rw [ev_same] at hx; exact absurd hx (by decide))
    exact at_round (⟨k + 1, I1⟩ : NI) (by exact ⟨rfl, rfl, rfl, rfl, trivial⟩) ⟨hm, hle1, by dsimp only; omega⟩ (by dsimp only; omega)
  · obtain rfl : k = l.length := by omega
    repeat' (first|refine op_assign (k:=?_)|refine op_lss (k:=?_)|refine wl_nil ?_|refine at_then_normal ?_|refine at_then_exit ?_|refine at_block_exit ?_|refine wc_seq ?_|refine wc_region ?_|refine wc_exit ?_|refine wc_ret ?_|refine at_ret1 (h:=?_)|(refine wc_cond_dec (ht:=fun _ => ?_) (hf:=fun _ => ?_)<;> (try first | contradiction | (exfalso; omega))))
    all_goals try (exfalso; first | omega | contradiction)
    exact ⟨I1, [], ⟨rfl, rfl⟩, hm⟩
set_option maxHeartbeats 32000000 in
theorem sp_rseen (s : List UInt8) (l : List Sp.Ev) (na nb : Int) (la : Option Addr) (lc : Nat) (I : Imm) (hs : s.length ≤ 9223372036854775807) (hll : l.length ≤ 1000000000) (hC : Conv I) (hrl : RowI I 59 2 (.slice la l.length lc) l.length (l.flatMap encEv)) :
    CalM Tryz.prog 9 #[str s, .slice la l.length lc, .int .i64 na, .int .i64 nb] I [] (fun v _ H' => v = .bool true ∧ H' = []) := by
  refine CalM.of fun w E hm => enter (N := 64) Tryz.func9 rfl [(0, str s), (1, .slice la l.length lc), (2, .int .i64 na), (3, .int .i64 nb)] args4 rfl ?_
  have hAl := u_alive I hC
  have hF := fun (J : Imm) (m : Le I J) => p_file s J (hC.le m) hs
  by_cases h0 : Sp.fileErr s ≠ 0
  · generalize Sp.fileErr s = er at hF h0
    generalize Sp.fileItems s = its at hF
    repeat' (first|(refine m_call (d:=13) hm (hp:=pm0) (hc:=hAl) (k:=?_); clear hm; rintro _ I1 _ _ ⟨rfl, rfl⟩ hleI1 hm; try simp only [setn] at hm)|(refine m_call (d:=17) hm (hp:=pm0) (hc:=hF I1 hleI1) (k:=?_); clear hm; rintro _ I2 _ _ ⟨a, cp, xs, rfl, hrow, hits, rfl⟩ hleI2 hm; try simp only [setn] at hm)|(refine m_varS (d:=9) hm (k:=?_); clear hm; intro b9 _ hm)|refine op_move (k:=?_)|refine op_assign (k:=?_)|refine op_pick_true (k:=?_)|refine op_neq (k:=?_)|refine op_not (k:=?_)|refine op_extract (k:=?_)|refine wl_skip (k:=?_)|(refine wl_split_dec (h1:=fun _ => ?_) (h0:=fun _ => ?_)<;> (try first | contradiction | (exfalso; omega)))|refine wl_nil ?_|refine at_then_normal ?_|refine at_then_ret ?_|refine wc_seq ?_|refine wc_region ?_|refine wc_skip ?_|refine wc_ret ?_|refine at_ret1 (h:=?_)|refine wc_cond_true (ht:=?_)|refine wc_cond_false (hf:=?_))
    all_goals try (exfalso; first | omega | contradiction)
    all_goals exact ⟨I2, [], ⟨rfl, rfl⟩, hm.left (H := [])⟩
  have h00 : Sp.fileErr s = 0 := by omega
  rw [h00] at hF
  have hA := Sp.file_ok h00
  generalize Sp.fileItems s = its at hF hA
  by_cases hna : 0 ≤ na ∧ na ≤ 255
  case neg =>
    repeat' (first|(refine m_call (d:=13) hm (hp:=pm0) (hc:=hAl) (k:=?_); clear hm; rintro _ I1 _ _ ⟨rfl, rfl⟩ hleI1 hm; try simp only [setn] at hm)|(refine m_call (d:=17) hm (hp:=pm0) (hc:=hF I1 hleI1) (k:=?_); clear hm; rintro _ I2 _ _ ⟨a, cp, xs, rfl, hrow, hits, rfl⟩ hleI2 hm; try simp only [setn] at hm)|(refine op_call (d:=24) (hc:=by exact c_right na _) (k:=?_); rintro _ _ ⟨rfl, rfl⟩)|(refine m_varS (d:=9) hm (k:=?_); clear hm; intro b9 _ hm)|refine op_move (k:=?_)|refine op_assign (k:=?_)|refine op_pick_true (k:=?_)|refine op_pick_false (k:=?_)|refine op_neq (k:=?_)|refine op_not (k:=?_)|refine op_extract (k:=?_)|refine wl_skip (k:=?_)|(refine wl_split (h1:=fun _ => ?_) (h0:=fun _ => ?_)<;> (fail_if_success contradiction))|refine wl_nil ?_|refine at_then_normal ?_|refine at_then_ret ?_|refine wc_seq ?_|refine wc_region ?_|refine wc_skip ?_|refine wc_ret ?_|refine at_ret1 (h:=?_)|refine wc_cond_true (ht:=?_)|refine wc_cond_false (hf:=?_))
    all_goals try (exfalso; first | omega | contradiction)
    all_goals first
      | exact ⟨I2, [], ⟨rfl, rfl⟩, hm.left (H := [])⟩
      | (exfalso; rename_i hx; rw [decide_eq_false hna] at hx; exact absurd hx (by decide))
  by_cases hnb : 0 ≤ nb ∧ nb ≤ 255
  case neg =>
    repeat' (first|(refine m_call (d:=13) hm (hp:=pm0) (hc:=hAl) (k:=?_); clear hm; rintro _ I1 _ _ ⟨rfl, rfl⟩ hleI1 hm; try simp only [setn] at hm)|(refine m_call (d:=17) hm (hp:=pm0) (hc:=hF I1 hleI1) (k:=?_); clear hm; rintro _ I2 _ _ ⟨a, cp, xs, rfl, hrow, hits, rfl⟩ hleI2 hm; try simp only [setn] at hm)|(refine op_call (d:=24) (hc:=by exact c_right na _) (k:=?_); rintro _ _ ⟨rfl, rfl⟩)|(refine op_call (d:=29) (hc:=by exact c_right nb _) (k:=?_); rintro _ _ ⟨rfl, rfl⟩)|(refine m_varS (d:=9) hm (k:=?_); clear hm; intro b9 _ hm)|refine mq_loadAll hm (k:=?_)|refine op_move (k:=?_)|refine op_assign (k:=?_)|refine op_pick_true (k:=?_)|refine op_pick_false (k:=?_)|refine op_neq (k:=?_)|refine op_not (k:=?_)|refine op_extract (k:=?_)|refine wl_skip (k:=?_)|(refine wl_split (h1:=fun _ => ?_) (h0:=fun _ => ?_)<;> (fail_if_success contradiction))|refine wl_nil ?_|refine at_then_normal ?_|refine at_then_ret ?_|refine wc_seq ?_|refine wc_region ?_|refine wc_skip ?_|refine wc_ret ?_|refine at_ret1 (h:=?_)|refine wc_quiet (h:=?_)|refine wc_cond_true (ht:=?_)|refine wc_cond_false (hf:=?_)|refine wc_cond (ht:=fun _ => ?_) (hf:=fun _ => ?_)|refine q_move (k:=?_))
    all_goals try (exfalso; first | omega | contradiction)
    all_goals first
      | exact ⟨I2, [], ⟨rfl, rfl⟩, hm.left (H := [])⟩
      | (exfalso; rename_i hx; rw [decide_eq_false hnb] at hx; exact absurd hx (by decide))
  obtain ⟨x, rfl⟩ : ∃ x : Nat, na = x := ⟨na.toNat, by omega⟩
  obtain ⟨y, rfl⟩ : ∃ y : Nat, nb = y := ⟨nb.toNat, by omega⟩
  have hx : x < 256 := by omega
  have hy : y < 256 := by omega
  have hrx := c_right (x : Int)
  rw [decide_eq_true hna] at hrx
  have hry := c_right (y : Int)
  rw [decide_eq_true hnb] at hry
  have hM := c_meet x y hx hy
  have hz : x &&& y < 256 := Nat.lt_of_le_of_lt Nat.and_le_left hx
  have hlaw := Sp.seen_meet its l x y
  have hlen := Sp.seen_len its l x y
  have hMJ : ∀ J : Imm, CalR Tryz.prog 35 #[nt x, nt y] J [] (nt (x &&& y)) := fun J => ⟨fun w _ _ => (hM w).mono (fun v w' ⟨h1, h2⟩ => ⟨h1, by rw [h2]; exact Kept.refl _ _⟩)⟩
  generalize x &&& y = z at hM hz hlaw hlen hMJ
  repeat' (first|(refine m_call (d:=13) hm (hp:=pm0) (hc:=hAl) (k:=?_); clear hm; rintro _ I1 _ _ ⟨rfl, rfl⟩ hleI1 hm; try simp only [setn] at hm)|(refine m_call (d:=17) hm (hp:=pm0) (hc:=hF I1 hleI1) (k:=?_); clear hm; rintro _ I2 _ _ ⟨a, cp, xs, rfl, hrow, hits, rfl⟩ hleI2 hm; try simp only [setn] at hm)|(refine op_call (d:=24) (hc:=by exact hrx _) (k:=?_); rintro _ _ ⟨rfl, rfl⟩)|(refine op_call (d:=29) (hc:=by exact hry _) (k:=?_); rintro _ _ ⟨rfl, rfl⟩)|refine wc_hold 6 ?_|(refine m_varS (d:=9) hm (k:=?_); clear hm; intro b9 _ hm)|refine op_move (k:=?_)|refine op_assign (k:=?_)|refine op_pick_false (k:=?_)|refine op_neq (k:=?_)|refine op_not (k:=?_)|refine op_extract (k:=?_)|refine wl_nil ?_|refine at_then_normal ?_|refine wc_seq ?_|refine wc_region ?_|refine wc_skip ?_|refine wc_cond_false (hf:=?_))
  all_goals try (exfalso; first | omega | contradiction)
  have q1 : FE I2 its a cp xs := fe_of hrow hits hA.few
  obtain ⟨I3, hle3, hm3, hpf⟩ := hm.freezeO
  clear hm
  have hm := hm3
  clear hm3
  have q3 := q1.le hle3
  have hrl3 := (hrl.le (hleI1.trans hleI2)).le hle3
  have hS1 := r_seen l z hz I3 q3 hA hll la lc hrl3
  have hS2 := fun (J : Imm) (m : Le I3 J) => r_seen l x hx J (q3.le m) hA hll la lc (hrl3.le m)
  have hS3 := fun (J : Imm) (m : Le I3 J) (ea : Option Addr) (ep : Nat) (h : RowI J 59 2 (.slice ea (Sp.seenR its l x).length ep) (Sp.seenR its l x).length ((Sp.seenR its l x).flatMap encEv)) => r_seen (Sp.seenR its l x) z hz J (q3.le m) hA (by omega) ea ep h
  rw [hlaw] at hS3
  have hEv := fun (J : Imm) (a b : Option Addr) (c d : Nat) (ha : RowI J 59 2 (.slice a (Sp.seenR its l z).length c) (Sp.seenR its l z).length ((Sp.seenR its l z).flatMap encEv)) (hb : RowI J 59 2 (.slice b (Sp.seenR its l z).length d) (Sp.seenR its l z).length ((Sp.seenR its l z).flatMap encEv)) => u_events (Sp.seenR its l z) (by omega) J a b c d ha hb
  clear hlaw
  generalize Sp.seenR its l z = lz at hS1 hS3 hEv hlen
  generalize Sp.seenR its l x = lx at hS2 hS3 hlen
  refine ⟨?_⟩
  repeat' (first|(refine wc_semi_memL (id:=6) (hm.perm pm0) [0,1,2,3,6,7,8] [4,5,9] 10 (h:=?_); clear hm; intro wd hR hm)|(refine wc_mix_mem (id:=7) (hm.perm pm0) [([0,1,2,3,6],[4,5,7]),([8,9,10,11,12,13,14,15,16,17,18,19,20,21],[])] 22 (h:=?_); clear hm; intro wd hR hm)|(refine iw_loadN (d:=32) hR (hp:=hpf) (k:=?_))|(refine iw_loadN (d:=38) hR (hp:=hpf) (k:=?_))|(refine iw_loadN (d:=42) hR (hp:=hpf5) (k:=?_))|(refine mt_readR (d:=36) hR hm (hc:=hMJ _) (k:=?_); clear hm; intro _ hm)|(refine mt_readR (d:=46) hR hm (hc:=hMJ _) (k:=?_); clear hm; intro _ hm)|(refine mt_call (d:=37) hm (hp:=pm0) (hc:=hS1) (k:=?_); clear hm; rintro _ I4 _ _ ⟨rfl, ea, ep, rfl, hr4⟩ hleI4 hm; try simp only [setn] at hm)|(refine mt_call (d:=41) hm (hp:=pm0) (hc:=hS2 I4 hleI4) (k:=?_); clear hm; rintro _ I5 _ _ ⟨rfl, fa, fp, rfl, hr5⟩ hleI5 hm; try simp only [setn] at hm; have hpf5 := (hpf.le hleI4).le hleI5)|(refine mt_call (d:=47) hm (hp:=pm0) (hc:=hS3 I5 (hleI4.trans hleI5) _ _ hr5) (k:=?_); clear hm; rintro _ I6 _ _ ⟨rfl, ga, gp, rfl, hr6⟩ hleI6 hm; try simp only [setn] at hm)|(refine mt_call (d:=49) hm (hp:=pm0) (hc:=hEv I6 _ _ _ _ hr6 ((hr4.le hleI5).le hleI6)) (k:=?_); clear hm; rintro _ I7 _ _ ⟨rfl, rfl⟩ hleI7 hm; try simp only [setn] at hm)|refine wx_cons ?_|refine wv_nilX ?_|refine ws_nil ?_|refine at_X ?_|(refine wx_nil ?_; replace hm := hR.back hm; clear hR; try simp only [setn] at hm)|refine op_assign (k:=?_)|refine wl_nil ?_|refine at_then_normal ?_|refine wc_seq ?_|refine wc_ret ?_|refine at_ret1 (h:=?_)|refine v_move (k:=?_)|refine v_pick_true (k:=?_)|refine v_pick_false (k:=?_)|refine v_leq (k:=?_)|refine v_len_slice (k:=?_)|refine wv_skip (k:=?_)|(refine wv_split (h1:=fun _ => ?_) (h0:=fun _ => ?_)<;> (fail_if_success contradiction))|refine wv_nil ?_)
  all_goals try (exfalso; first | omega | contradiction)
  all_goals first
    | exact ⟨I7, [], ⟨by rw [decide_eq_true (by omega)], rfl⟩, by first | exact hm | exact hR.back hm⟩
    | (exfalso; rename_i hx; have := of_decide_eq_false hx; omega)
end Go.Proofs.YthmdffgiockcbaaGreatDoor
end
section
namespace Go.Proofs.YthmdffgiockcbaaGreatDoor.runSeenTop
open Go.ChangeShapes Go.WideShapes Go.ChangeAt Go.RowKit
open Go.Fw (Kept Cal str Ret)
open Go.ChangeMaps (open_string shut_string)

set_option maxRecDepth 100000 in
theorem contract (H : Type) (enc : TypeId × Value → H) (W : World) (base : Nat) (args : Array Value) (ds gs : List (DataW H)) (before : List MemPlace)
    (hval : ∀ (j : Nat) t v, Tryz.f9.params[j]? = some t → args[j]? = some v → Value.okWide Tryz.prog W .any base t v)
    (hW : DataW.Whole enc Tryz.prog Tryz.f9.params.toList Rows.runSeenSpec.vars false W args.toList ds gs before) (hk : Rows.uptoSmall H (ds ++ gs) = true) (hL : laidMetH Tryz.prog Rows.runSeenUptoRow.laid W) :
    Calls Tryz.prog 9 args W fun e W' => ∃ v, e = .returned v ∧ Rows.runSeenSpec.post enc Tryz.prog Tryz.f9 false true false false W args v W' := by
  have hC := conv_of hL (by kernel_rfl) (by kernel_rfl)
  clear hL
  have hW' := hW
  obtain ⟨p, q, hA0, hV, rfl, hfz, hnd⟩ := hW
  have hA : DataW.TrodAll enc Tryz.prog W 0 (fun _ => true) true Tryz.f9.params.toList args.toList ds p := hA0
  rw [Tryz.params9] at hA hval
  obtain ⟨v0, vs0, d0, ds0, p0, q0, hargs, rfl, rfl, h0, r0⟩ := trodAll_cons hA
  obtain ⟨v1, vs1, d1, ds1, p1, q1, hx1, rfl, rfl, h1, r1⟩ := trodAll_cons r0
  obtain ⟨v2, vs2, d2, ds2, p2, q2, hx2, rfl, rfl, h2, r2⟩ := trodAll_cons r1
  obtain ⟨v3, vs3, d3, ds3, p3, q3, hx3, rfl, rfl, h3, r3⟩ := trodAll_cons r2
  obtain ⟨rfl, rfl, rfl⟩ := trodAll_nil r3
  obtain rfl : args = #[v0, v1, v2, v3] := by cases args; simp_all
  obtain ⟨rfl, rfl⟩ := trodVars_none hV
  obtain ⟨s0, rfl, rfl, rfl, hm0⟩ := open_string Tryz.underlying9 (hval 0 9 v0 rfl rfl) h0
  obtain ⟨a1, s1, c1, rfl, hr1, hl1⟩ := open_events (hval 1 54 v1 rfl rfl) h1
  obtain ⟨s2, rfl, rfl, rfl, hm2⟩ := open_int Tryz.underlying3 (hval 2 3 v2 rfl rfl) h2
  obtain ⟨s3, rfl, rfl, rfl, hm3⟩ := open_int Tryz.underlying3 (hval 3 3 v3 rfl rfl) h3
  have hlt := hW'.lt
  clear hA0
  simp only [List.append_nil] at hW' hk
  have hb0 : s0.data.toList.length ≤ 1048576 := bulk_str hk (by simp)
  have hk1 : Rows.uptoBulk d1 ≤ 1048576 := Nat.le_trans (bulk_part (l := [.lit (.string s0.data.toList), d1, .lit (.int .i64 s2), .lit (.int .i64 s3)]) (by simp)) (by simpa [Rows.uptoSmall] using hk)
  refine ((run_kept (sp_rseen s0.data.toList s1 s2 s3 a1 c1 (Go.Fw.immOf W) (by omega) (by omega) hC hr1)).run).mono fun e W' he => ?_
  cases e
  case returned v =>
    obtain ⟨rfl, hg⟩ := he
    refine ⟨_, rfl, post_kept2 (pv := []) hW' (fun _ _ _ => trodAll_cons_mk (shut_bool Tryz.underlying4 _) trodAll_mk0) (trodAll_cons_mk (Below.trod laidOutS (by kernel_rfl) (of_decide_eq_true (by kernel_rfl)) h0 (kept_below hg) (fun x hx => hlt x (by first | exact absurd hx (by simp) | simp [hx]))) (trodAll_cons_mk (Below.trod laidOutS (by kernel_rfl) (of_decide_eq_true (by kernel_rfl)) h1 (kept_below hg) (fun x hx => hlt x (by first | exact absurd hx (by simp) | simp [hx]))) (trodAll_cons_mk (Below.trod laidOutS (by kernel_rfl) (of_decide_eq_true (by kernel_rfl)) h2 (kept_below hg) (fun x hx => hlt x (by first | exact absurd hx (by simp) | simp [hx]))) (trodAll_cons_mk (Below.trod laidOutS (by kernel_rfl) (of_decide_eq_true (by kernel_rfl)) h3 (kept_below hg) (fun x hx => hlt x (by first | exact absurd hx (by simp) | simp [hx]))) trodAll_mk0)))) (fun _ _ => rfl) hg⟩
  all_goals exact he.elim

noncomputable def laidWorld (os : Os) : World := World.laidAll Tryz.prog os Rows.runSeenUptoRow.laid
theorem laid_met (os : Os) : laidMet Tryz.prog Rows.runSeenUptoRow.laid ((laidWorld os).forCall (fun _ _ => 0) ⟨#[], #[.string .empty, .slice none 0 0, .int .i64 0, .int .i64 0], []⟩).memory :=
  laidMet_laidAll _ (by kernel_rfl) (by kernel_rfl)
theorem reads (os : Os) {H : Type} (enc : TypeId × Value → H) : ∃ places, DataW.whole enc Tryz.prog ((laidWorld os).forCall (fun _ _ => 0) ⟨#[], #[.string .empty, .slice none 0 0, .int .i64 0, .int .i64 0], []⟩).memory Tryz.f9.params.toList Rows.runSeenSpec.vars false (#[.string .empty, .slice none 0 0, .int .i64 0, .int .i64 0] : Array Value).toList 8 = some ([.lit (.string []), .nil, .lit (.int .i64 0), .lit (.int .i64 0)], [], places) :=
  ⟨[], by kernel_rfl⟩

set_option maxRecDepth 100000 in
theorem lifted (os : Os) (started : os.Started) (H : Type) (enc : TypeId × Value → H) (F : Stop.Interp) :
    ReturnsInHanded {} Tryz.checked os 9 .any ((Rows.OpenSpec.upto Rows.runSeenSpec).preRow enc Tryz.prog Tryz.f9 Rows.runSeenUptoRow.domain false Rows.runSeenUptoRow.laid) (((Rows.OpenSpec.upto Rows.runSeenSpec).at F).post enc Tryz.prog Tryz.f9 false true false false) := by
  obtain ⟨places, hx⟩ := reads os enc
  refine returnsInHanded_of_row (C := Tryz.checked) (s := Rows.OpenSpec.upto Rows.runSeenSpec) ownKnobNone started (by kernel_rfl) Tryz.func9
    (witness_row_at (enc := enc) (C := Tryz.checked) false (laidWorld os) #[.string .empty, .slice none 0 0, .int .i64 0, .int .i64 0] (World.laidAll_os _ _ _) (by kernel_rfl) (by kernel_rfl) (by kernel_rfl)
      (OpenSpec.preRow_of_cond 8 hx (by kernel_rfl) (fun k hk => by cases hk; kernel_rfl) (by kernel_rfl) (laid_met os))) ?_
  intro W base args ds gs before hval hW _ hcond _ hL _ _
  exact contract H enc W base args ds gs before hval hW (hcond _ rfl) hL

theorem said : Rows.RunSeenUptoSaid :=
  OpenClaim.holds_of_cond 9 Tryz.f9 rfl rfl rfl rfl rfl rfl rfl ⟨rfl, rfl, rfl, rfl, rfl⟩ rfl rfl rfl rfl rfl (by kernel_rfl) Tryz.func9 (by kernel_rfl)
    (of_decide_eq_true (by kernel_rfl)) (by unfold Func.isWrapper; first | (rw [if_pos (by decide +kernel)]; kernel_rfl) | (rw [if_neg (by decide +kernel)]; exact ⟨rfl, rfl⟩))
    (fun os started H enc _ F => by rw [OpenClaim.pre_eq_preRow]; exact lifted os started H enc F)

theorem plain (f : FuncId) (fn : Func) (hf : Tryz.pinned.checked.prog.funcNamed "undertone/underlaw7.RunSeen" = some f) (hfn : Tryz.pinned.checked.prog.funcs[f]? = some fn) :
    true = Tryz.pinned.checked.prog.looks [] ∧ ∀ (j : Nat) t, fn.params[j]? = some t → Tryz.pinned.checked.prog.wantsStandIn t = false := by
  obtain rfl : f = 9 := Option.some.inj ((show Tryz.prog.funcNamed "undertone/underlaw7.RunSeen" = some 9 by kernel_rfl).symm.trans hf) |>.symm
  obtain rfl : fn = Tryz.f9 := (Option.some.inj (Tryz.func9.symm.trans hfn)).symm
  refine ⟨by kernel_rfl, fun j t ht => ?_⟩
  rw [Tryz.params9] at ht
  have hm := Array.mem_of_getElem? ht
  simp only [List.mem_toArray, List.mem_cons, List.not_mem_nil, or_false] at hm
  rcases hm with rfl | rfl | rfl | rfl
  · exact (show Tryz.prog.wantsStandIn 9 = false by kernel_rfl)
  · exact (show Tryz.prog.wantsStandIn 54 = false by kernel_rfl)
  · exact (show Tryz.prog.wantsStandIn 3 = false by kernel_rfl)
  · exact (show Tryz.prog.wantsStandIn 3 = false by kernel_rfl)

theorem proved : Rows.RunSeenUptoCardSaid :=
  Claim7.holds_tied_plain_at .later [] _ _ _ _ said (fun _ h => by cases h) (by kernel_rfl) (fun _ h => by cases h) runSeenUpto_row_tie rfl ⟨rfl, rfl⟩ (by kernel_rfl) rfl plain (by kernel_rfl)
end Go.Proofs.YthmdffgiockcbaaGreatDoor.runSeenTop
end
section

end
