/- Own work: texts PostFr, FrI, one behind the other. -/
import Derived.Test.YtkbiakajlfmakaaDoorFt10
import Derived.MakeChecks
import Derived.LaidSub
import Derived.Lay
import Derived.Stop.LaidErr
import Derived.Lib.LaidTab
import Derived.Carry
import Derived.Deep.Slices
import Derived.ChangeSlices
section
namespace Go.Proofs.YtkbiakajlfmakaaDoor
open Go.ChangeShapes Go.WideShapes Go.ChangeAt Go.RowKit
open Go.Fw
theorem starF : "*" ++ "errors.errorString" = "*errors.errorString" := by decide
theorem rowF (u : TypeId) (h : Tryd.prog.typeName? 3 u = some "*errors.errorString") : u = 261 :=
  typeName_ptr_named (nm := "errors.errorString") (by rw [starF]; kernel_rfl) (by kernel_rfl) (by decide) u (by rw [starF]; exact h)
theorem rng_of {l : List (String × DataW Unit)} {W : World} (h : laidMetH Tryd.prog l W) (hp : (l.all fun x => x.2.handleName?.isNone) = true)
    (he : l.filter (fun x => x.1 == "strconv.ErrRange") = [("strconv.ErrRange", Rows.laid_strconv_ErrRange)]) : ∃ te pe c ty fr, immOf W 2 = some (.cells c ty fr) ∧ c[0]? = some (.iface te pe) := by
  rw [MakeChecks.laidMetH_plain _ _ _ hp] at h
  have h1 := h.filter (fun x => x.1 == "strconv.ErrRange")
  rw [he] at h1
  obtain ⟨a, s, hv, _⟩ := laid_sentinel (g := 2) h1 (by kernel_rfl) (ti := 149) (by kernel_rfl) Tryd.underlying149 rowF Tryd.underlying261 Tryd.underlying263 rfl rfl Tryd.underlying9 (by kernel_rfl) (by kernel_rfl)
  have hg : Tryd.prog.globalNamed "strconv.ErrRange" = some 2 := by kernel_rfl
  simp only [World.var?, hg, Option.bind_some] at hv
  split at hv
  · rename_i cs ty fr hw
    obtain rfl := Option.some.inj hv
    exact ⟨_, _, _, _, _, hw, rfl⟩
  · cases hv
theorem syn_of {l : List (String × DataW Unit)} {W : World} (h : laidMetH Tryd.prog l W) (hp : (l.all fun x => x.2.handleName?.isNone) = true)
    (he : l.filter (fun x => x.1 == "strconv.ErrSyntax") = [("strconv.ErrSyntax", Rows.laid_strconv_ErrSyntax)]) : ∃ te pe c ty fr, immOf W 1 = some (.cells c ty fr) ∧ c[0]? = some (.iface te pe) := by
  rw [MakeChecks.laidMetH_plain _ _ _ hp] at h
  have h1 := h.filter (fun x => x.1 == "strconv.ErrSyntax")
  rw [he] at h1
  obtain ⟨a, s, hv, _⟩ := laid_sentinel (g := 1) h1 (by kernel_rfl) (ti := 149) (by kernel_rfl) Tryd.underlying149 rowF Tryd.underlying261 Tryd.underlying263 rfl rfl Tryd.underlying9 (by kernel_rfl) (by kernel_rfl)
  have hg : Tryd.prog.globalNamed "strconv.ErrSyntax" = some 1 := by kernel_rfl
  simp only [World.var?, hg, Option.bind_some] at hv
  split at hv
  · rename_i cs ty fr hw
    obtain rfl := Option.some.inj hv
    exact ⟨_, _, _, _, _, hw, rfl⟩
  · cases hv
theorem tab_of {l : List (String × DataW Unit)} {W : World} (h : laidMetH Tryd.prog l W) (hp : (l.all fun x => x.2.handleName?.isNone) = true)
    (he : l.filter (fun x => x.1 == "internal/strconv.uint64pow10") = [("internal/strconv.uint64pow10", Rows.laid_internal_strconv_uint64pow10)]) :
    ∃ ty fr, immOf W 0 = some (.cells (Lib.pow10Tab.map fun z => Value.int .u64 z).toArray ty fr) := by
  rw [MakeChecks.laidMetH_plain _ _ _ hp] at h
  have h1 := h.filter (fun x => x.1 == "internal/strconv.uint64pow10")
  rw [he] at h1
  have hd : (Rows.laid_internal_strconv_uint64pow10 : DataW Unit) = Lib.tabData .u64 Lib.pow10Tab := by kernel_rfl
  rw [hd] at h1
  have hg : Tryd.prog.globalNamed "internal/strconv.uint64pow10" = some 0 := by kernel_rfl
  have hv := Lib.tabIs_of_head (g := 0) hg (t := 242) (by kernel_rfl) Tryd.underlying242 Tryd.underlying185 (by kernel_rfl) (by kernel_rfl) h1
  unfold Lib.TabIs at hv
  simp only [World.var?, hg, Option.bind_some] at hv
  split at hv
  · rename_i cs ty fr hw
    obtain rfl := Option.some.inj hv
    exact ⟨_, _, hw⟩
  · cases hv
theorem rowI_cells {W : World} {ty sz n cap : Nat} {a : Addr} {xs : List Value} (hl : xs.length = n * sz) (hsz : 0 < sz) (hnc : n ≤ cap) (hc : ∀ j v, xs[j]? = some v → W.cell? (a.add j) = some v) : RowI (immOf W) ty sz (.slice (some a) n cap) n xs := by
  refine ⟨hl, some a, cap, rfl, hnc, fun hn => ?_⟩
  have h0 : 0 < xs.length := by rw [hl]; exact Nat.mul_pos hn hsz
  have hx := hc 0 xs[0] (List.getElem?_eq_getElem h0)
  obtain ⟨b, off, sp⟩ := a
  have e0 : (⟨b, off, sp⟩ : Addr).add 0 = ⟨b, off, sp⟩ := rfl
  rw [e0] at hx
  cases hh : W.heap[b]? with
  | none => simp [World.cell?, hh] at hx
  | some o =>
    cases o with
    | cells c t fr =>
      cases sp with
      | some s => simp [World.cell?, hh] at hx
      | none =>
        refine ⟨b, off, c, (t, fr), rfl, hh, fun j u hj => ?_⟩
        have h2 := hc j u hj
        rw [Addr.add_lit] at h2
        simpa [World.cell?, hh] using h2
    | _ => simp [World.cell?, hh] at hx
theorem bulkAll_len {H : Type} : ∀ (l : List (DataW H)), l.length ≤ Rows.uptoBulkAll l
  | [] => by simp
  | d :: r => by
    have h1 := bulkAll_len r
    have h2 := bulk_one d
    simp only [List.length_cons, Rows.uptoBulkAll]
    omega
theorem wf_u8 {z : Int} (h : (Lit.int .u8 z).wf = true) : 0 ≤ z ∧ z ≤ 255 := by
  simp only [Lit.wf, Bool.and_eq_true, decide_eq_true_eq] at h
  have h1 : IntKind.u8.min = 0 := by decide
  have h2 : IntKind.u8.max = 255 := by decide
  rw [h1, h2] at h
  exact h
theorem wf_i64 {z : Int} (h : (Lit.int .i64 z).wf = true) : Sp.i64 z := by
  simp only [Lit.wf, Bool.and_eq_true, decide_eq_true_eq] at h
  have h1 : IntKind.i64.min = -9223372036854775808 := by decide
  have h2 : IntKind.i64.max = 9223372036854775807 := by decide
  rw [h1, h2] at h
  exact h
section
variable {H : Type} {enc : TypeId × Value → H} {W : World}
set_option maxRecDepth 100000 in
theorem open_bytes {v : Value} {d : DataW H} {p : List MemPlace} {b0 : Nat} (hval : Value.okWide Tryd.prog W .any b0 38 v) (h : DataW.Trod enc Tryd.prog W 0 (fun _ => true) true 38 v d p) :
    ∃ (a : Option Addr) (bs : List UInt8) (cap : Nat), v = .slice a bs.length cap ∧ RowI (immOf W) 5 1 (.slice a bs.length cap) bs.length (bs.map byteV) ∧ bs.length ≤ Rows.uptoBulk d := by
  obtain ⟨a0, len, cap, rfl⟩ := okWide_slice Tryd.underlying38 hval
  obtain ⟨fuel, hf⟩ := h
  rcases open_ints Tryd.underlying38 Tryd.underlying5 (by kernel_rfl) hf with ⟨hcs, hx⟩ | ⟨a, len', cap', zs, hcs, _, hl, hm, hz, hx, hcell, hwz⟩
  · simp [Value.cells] at hcs
    obtain ⟨rfl, rfl, rfl⟩ := hcs
    exact ⟨none, [], 0, rfl, rowI_nil _ _ _ _ _, Nat.zero_le _⟩
  · simp [Value.cells] at hcs
    obtain ⟨rfl, rfl, rfl⟩ := hcs
    simp only [if_true] at hz
    have hbl : ((zs.take len).map (fun z => UInt8.ofNat z.toNat)).length = len := by rw [List.length_map, List.length_take]; omega
    have hbv : ((zs.take len).map (fun z => UInt8.ofNat z.toNat)).map byteV = (zs.take len).map (Value.int .u8) := by
      rw [List.map_map]
      refine List.map_congr_left fun z hzm => ?_
      have hw := wf_u8 (hwz z (List.mem_of_mem_take hzm))
      have e : (UInt8.ofNat z.toNat).toNat = z.toNat := by rw [UInt8.toNat_ofNat']; omega
      simp only [Function.comp_apply, byteV, e]
      rw [Int.toNat_of_nonneg hw.1]
    refine ⟨some a, (zs.take len).map (fun z => UInt8.ofNat z.toNat), cap, by rw [hbl], ?_, ?_⟩
    · rw [hbl, hbv]
      refine rowI_cells (by rw [List.length_map, List.length_take]; omega) (by decide) hl (fun j u hj => ?_)
      rw [List.getElem?_map, List.getElem?_take] at hj
      split at hj
      · rename_i hjl
        have hjz : j < zs.length := by omega
        rw [List.getElem?_eq_getElem hjz] at hj
        have h3 := hcell j hjz
        rw [List.getD_eq_getElem?_getD, List.getElem?_eq_getElem hjz] at h3
        rw [h3]
        simpa using hj
      · cases hj
    · rw [hbl]
      simp only [Prod.mk.injEq] at hx
      rw [hx.1]
      have h4 := bulkAll_len (lits (H := H) .u8 (zs.take len))
      have h5 : (lits (H := H) .u8 (zs.take len)).length = len := by rw [lits, List.length_map, List.length_take]; omega
      simp only [Rows.uptoBulk]
      omega
set_option maxRecDepth 100000 in
theorem ints_of {fuel : Nat} {cs : List Value} {x : DataW H × List MemPlace} (h : DataW.trod enc Tryd.prog W 0 (fun _ => true) true fuel 39 cs = some x) :
    ∃ (a : Option Addr) (zs : List Int) (cap : Nat), cs = [.slice a zs.length cap] ∧ RowI (immOf W) 3 1 (.slice a zs.length cap) zs.length (zs.flatMap encZ) ∧ ∀ z ∈ zs, Sp.i64 z := by
  rcases open_ints Tryd.underlying39 Tryd.underlying3 (by kernel_rfl) h with ⟨rfl, hx⟩ | ⟨a, len, cap, zs, rfl, _, hl, hm, hz, hx, hcell, hwz⟩
  · exact ⟨none, [], 0, rfl, rowI_nil _ _ _ _ _, fun z hz => by cases hz⟩
  · simp only [if_true] at hz
    have hbl : (zs.take len).length = len := by rw [List.length_take]; omega
    refine ⟨some a, zs.take len, cap, by rw [hbl], ?_, fun z hzm => wf_i64 (hwz z (List.mem_of_mem_take hzm))⟩
    rw [hbl, show (zs.take len).flatMap encZ = (zs.take len).map (Value.int .i64) from flat_sing _ _]
    refine rowI_cells (by rw [List.length_map, List.length_take]; omega) (by decide) hl (fun j u hj => ?_)
    rw [List.getElem?_map, List.getElem?_take] at hj
    split at hj
    · rename_i hjl
      have hjz : j < zs.length := by omega
      rw [List.getElem?_eq_getElem hjz] at hj
      have h3 := hcell j hjz
      rw [List.getD_eq_getElem?_getD, List.getElem?_eq_getElem hjz] at h3
      rw [h3]
      simpa using hj
    · cases hj
theorem six {α : Type} {l : List α} (h : l.length = 6) : ∃ a b c d e f, l = [a, b, c, d, e, f] := by
  match l, h with
  | [a, b, c, d, e, f], _ => exact ⟨a, b, c, d, e, f, rfl⟩
set_option maxRecDepth 100000 in
theorem ask_of {fuel : Nat} {cs : List Value} {x : DataW H × List MemPlace} (h : DataW.trod enc Tryd.prog W 0 (fun _ => true) true fuel 41 cs = some x) (hl : cs.length = 6) :
    ∃ q : Sp.Qn, AskAt (immOf W) q cs ∧ q.fits := by
  obtain ⟨xs, n, _, _, _, hlen, hf⟩ := DataW.trod_struct Tryd.underlying41 h
  obtain ⟨x0, x1, x2, x3, x4, x5, rfl⟩ := six hlen
  obtain ⟨c0, c1, c2, c3, c4, c5, rfl⟩ := six hl
  have k3 : Tryd.prog.cellsOf 3 = 1 := by kernel_rfl
  have k9 : Tryd.prog.cellsOf 9 = 1 := by kernel_rfl
  have k39 : Tryd.prog.cellsOf 39 = 1 := by kernel_rfl
  have f0 : DataW.trod enc Tryd.prog W 0 (fun _ => true) true n 3 (([c0, c1, c2, c3, c4, c5].drop 0).take (Tryd.prog.cellsOf 3)) = some x0 := hf 0 _ rfl
  have f1 : DataW.trod enc Tryd.prog W 0 (fun _ => true) true n 3 (([c0, c1, c2, c3, c4, c5].drop 1).take (Tryd.prog.cellsOf 3)) = some x1 := hf 1 _ rfl
  have f2 : DataW.trod enc Tryd.prog W 0 (fun _ => true) true n 3 (([c0, c1, c2, c3, c4, c5].drop 2).take (Tryd.prog.cellsOf 3)) = some x2 := hf 2 _ rfl
  have f3 : DataW.trod enc Tryd.prog W 0 (fun _ => true) true n 3 (([c0, c1, c2, c3, c4, c5].drop 3).take (Tryd.prog.cellsOf 3)) = some x3 := hf 3 _ rfl
  have f4 : DataW.trod enc Tryd.prog W 0 (fun _ => true) true n 9 (([c0, c1, c2, c3, c4, c5].drop 4).take (Tryd.prog.cellsOf 9)) = some x4 := hf 4 _ rfl
  have f5 : DataW.trod enc Tryd.prog W 0 (fun _ => true) true n 39 (([c0, c1, c2, c3, c4, c5].drop 5).take (Tryd.prog.cellsOf 39)) = some x5 := hf 5 _ rfl
  rw [k3] at f0 f1 f2 f3
  rw [k9] at f4
  rw [k39] at f5
  obtain ⟨z0, e0, _, w0⟩ := DataW.trod_int Tryd.underlying3 f0
  obtain ⟨z1, e1, _, w1⟩ := DataW.trod_int Tryd.underlying3 f1
  obtain ⟨z2, e2, _, w2⟩ := DataW.trod_int Tryd.underlying3 f2
  obtain ⟨z3, e3, _, w3⟩ := DataW.trod_int Tryd.underlying3 f3
  obtain ⟨s, e4, _, w4⟩ := DataW.trod_string Tryd.underlying9 f4
  obtain ⟨a, zs, cap, e5, hr, w5⟩ := ints_of f5
  simp only [List.drop_zero, List.drop_succ_cons, List.take_succ_cons, List.take_zero, List.cons.injEq, and_true] at e0 e1 e2 e3 e4 e5
  subst e0; subst e1; subst e2; subst e3; subst e4; subst e5
  exact ⟨⟨z0, z1, z2, z3, s.data.toList, zs⟩, ⟨a, cap, rfl, hr⟩, wf_i64 w0, wf_i64 w1, wf_i64 w2, wf_i64 w3, w5⟩
theorem asks_build {I : Imm} {C : Nat → List Value} : ∀ (n : Nat), (∀ i, i < n → ∃ q : Sp.Qn, AskAt I q (C i) ∧ q.fits) → ∃ qs : List Sp.Qn, qs.length = n ∧ AsksAt I qs ((List.range n).flatMap C) ∧ ∀ q ∈ qs, q.fits
  | 0, _ => ⟨[], rfl, rfl, fun q hq => by cases hq⟩
  | n + 1, h => by
    obtain ⟨qs, h1, h2, h3⟩ := asks_build n (fun i hi => h i (by omega))
    obtain ⟨q, g1, g2⟩ := h n (by omega)
    refine ⟨qs ++ [q], by rw [List.length_append, h1]; rfl, ?_, fun x hx => ?_⟩
    · rw [List.range_succ, List.flatMap_append]
      have := AsksAt.snoc g1 h2
      simpa using this
    · rcases List.mem_append.1 hx with hx | hx
      · exact h3 x hx
      · obtain rfl := List.mem_singleton.1 hx
        exact g2
set_option maxRecDepth 100000 in
theorem open_asks {v : Value} {d : DataW H} {p : List MemPlace} {b0 : Nat} (hval : Value.okWide Tryd.prog W .any b0 37 v) (h : DataW.Trod enc Tryd.prog W 0 (fun _ => true) true 37 v d p) :
    ∃ (a : Option Addr) (qs : List Sp.Qn) (cap : Nat) (xs : List Value), v = .slice a qs.length cap ∧ RowI (immOf W) 41 6 (.slice a qs.length cap) qs.length xs ∧ AsksAt (immOf W) qs xs ∧ (∀ q ∈ qs, q.fits) ∧ qs.length ≤ Rows.uptoBulk d := by
  obtain ⟨a0, len, cap, rfl⟩ := okWide_slice Tryd.underlying37 hval
  obtain ⟨fuel, hf⟩ := h
  have k41 : Tryd.prog.cellsOf 41 = 6 := by kernel_rfl
  rcases Go.Deep.open_slice Tryd.underlying37 hf with ⟨hcs, hx⟩ | ⟨a, len', cap', m, n, D, Pl, hcs, _, hl, hm, hmm, hx, hel⟩
  · simp [Value.cells] at hcs
    obtain ⟨rfl, rfl, rfl⟩ := hcs
    exact ⟨none, [], 0, [], rfl, rowI_nil _ _ _ _ _, rfl, fun q hq => (by cases hq), Nat.zero_le _⟩
  · simp [Value.cells] at hcs
    obtain ⟨rfl, rfl, rfl⟩ := hcs
    simp only [if_true] at hmm
    rw [k41] at hel
    have hC : ∀ i, ∃ c : List Value, c.length = 6 ∧ (i < len → (∀ j u, c[j]? = some u → W.cell? ((a.add (i * 6)).add j) = some u) ∧ ∃ q : Sp.Qn, AskAt (immOf W) q c ∧ q.fits) := fun i => by
      by_cases hi : i < len
      · obtain ⟨cs', g1, g2⟩ := hel i (by omega)
        obtain ⟨_, g3, g4⟩ := World.cells?_some g1
        refine ⟨cs', g3, fun _ => ⟨fun j u hj => ?_, ask_of g2 g3⟩⟩
        rw [g4 j (by have := (List.getElem?_eq_some_iff.1 hj).1; omega)]
        exact hj
      · exact ⟨List.replicate 6 (.bool false), by simp, fun h => absurd h hi⟩
    have ⟨C, hC⟩ := Classical.axiomOfChoice hC
    obtain ⟨qs, q1, q2, q3⟩ := asks_build (I := immOf W) (C := C) len (fun i hi => ((hC i).2 hi).2)
    subst q1
    refine ⟨some a, qs, cap, _, rfl, rowI_cells (by rw [q2.len]) (by decide) hl (fun j u hj => ?_), q2, q3, ?_⟩
    · have hjl := (List.getElem?_eq_some_iff.1 hj).1
      rw [q2.len] at hjl
      have hi : j / 6 < qs.length := by omega
      have hfl := flat_drop C 6 (fun i => (hC i).1) (List.range qs.length) (j / 6) (j / 6) (List.getElem?_range hi)
      have hju : (C (j / 6))[j % 6]? = some u := by
        rw [← hfl, List.getElem?_take, if_pos (Nat.mod_lt _ (by decide)), List.getElem?_drop, show j / 6 * 6 + j % 6 = j by omega]
        exact hj
      have h7 := ((hC (j / 6)).2 hi).1 _ _ hju
      obtain ⟨b, off, sp⟩ := a
      have e1 : ((⟨b, off, sp⟩ : Addr).add (j / 6 * 6)).add (j % 6) = (⟨b, off, sp⟩ : Addr).add j := by
        unfold Addr.add
        by_cases h1 : j / 6 * 6 = 0
        · rw [if_pos h1, show j % 6 = j by omega]
        · rw [if_neg h1, if_neg (show ¬ j = 0 by omega)]
          by_cases h2 : j % 6 = 0
          · rw [if_pos h2, show j / 6 * 6 = j by omega]
          · rw [if_neg h2]
            simp only [Addr.mk.injEq, true_and, and_true]
            omega
      rw [← e1]; exact h7
    · simp only [Prod.mk.injEq] at hx
      rw [hx.1]
      have h4 := bulkAll_len ((List.range qs.length).map D)
      rw [List.length_map, List.length_range] at h4
      simp only [Rows.uptoBulk]
      omega
end
theorem kept_below {W W' : World} (h : Kept [] W W') : Below W.heap.size W W' := ⟨h.os, h.tape, h.output, h.size, fun k hk => h.blk k hk (by simp)⟩
theorem post_kept2 {H : Type} {enc : TypeId × Value → H} {P : Program} {f : Func} {s : ChangeSpec} {apart fresh handsOn : Bool} {W W' : World} {args : Array Value} {v : Value} {ds gs : List (DataW H)} {before pa pv : List MemPlace}
    (hW : DataW.Whole enc P f.params.toList s.vars apart W args.toList ds gs before)
    (hres : ∀ (b : Nat) (sp : Nat → Bool) (hd : Bool), DataW.TrodAll enc P W' b sp hd f.resultTypes.toList (v.resultList f.resultTypes.size) (s.fn H (ds ++ gs)).results [])
    (hargs : DataW.TrodAll enc P W' 0 (fun b => decide (b < W.heap.size)) true f.params.toList args.toList (s.fn H (ds ++ gs)).args pa)
    (hvars : ∀ sp : Nat → Bool, (∀ p ∈ before, sp p.block = true) → DataW.TrodVars enc P W' sp s.vars (s.fn H (ds ++ gs)).vars pv)
    (hk : Kept [] W W') : s.post enc P f apart fresh handsOn false W args v W' := by
  have hold : ∀ p ∈ before, (fun b => decide (b < W.heap.size)) p.block = true := fun p hp => by simpa using hW.lt p hp
  exact ⟨ds, gs, before, [], pa, pv, hW, hres _ _ _, hargs, hvars _ hold, kept_but hk _, fun h => by cases h⟩
theorem laidOutF : laidOutB Tryd.prog = true := by kernel_rfl
theorem run_keptF {f : FuncId} {args : Array Value} {v : Value} {W : World} (h : CalM Tryd.prog f args (immOf W) [] (fun u _ H' => u = v ∧ H' = [])) : Cal Tryd.prog f args W (fun u W' => u = v ∧ Kept [] W W') :=
  (h.run W (Mem.start (immOf_inv W))).mono (fun _ _ ⟨_, _, ⟨h1, _⟩, h2⟩ => ⟨h1, h2.kept⟩)
end Go.Proofs.YtkbiakajlfmakaaDoor
end
section
namespace Go.Sp
theorem take_byte {b : List UInt8} {p j : Nat} (h : p + j < b.length) : (b.drop p).take (j + 1) = (b.drop p).take j ++ [b[p + j]] := by
  rw [List.take_add_one, List.getElem?_drop, List.getElem?_eq_getElem h]; rfl
theorem slice_byte {b : List UInt8} {k : Nat} (h : k < b.length) : (b.drop k).take 1 = [b[k]] := by
  rw [List.drop_eq_getElem_cons h]; rfl
end Go.Sp
namespace Go.Fw
open Go
section
variable {P : Program} {N : Nat} {ds : List Deferred} {Q : Exit → Act → World → Prop} {l : Log} {w : World} {ops : Array Oper} {os : List Oper}
variable {d : Nat} {ty : TypeId} {pos : String} {af : Array Edge} {g : Option (Nat × Bool)} {t t' : TypeId} {x y z : Operand} {E : Ent} {I : Imm} {H : List HItem}
theorem op_ifq_held {te : TypeId} {pe : Value} {c : Value} (hw : want ops l ⟨some d, .binOp .eql t x (.const c) t', ty, pos, af, g⟩ = some true) (hN : Nat.blt d N = true)
    (hx : ev l x = some (.iface te pe)) (hc : c = .nilIface) (ht : P.underlying t = some (.interface (P.methodsAt t))) (k : WL P N ds ops Q os ((d, .bool false) :: l) w) :
    WL P N ds ops Q (⟨some d, .binOp .eql t x (.const c) t', ty, pos, af, g⟩ :: os) l w :=
  wl_value rfl hw hN (fun a ha => by
    subst hc
    have h := run_eql_held_nil (P := P) w t te pe ht
    have e2 : a.eval (.const .nilIface) = .nilIface := rfl
    simp [execOp, ha.ev hx, e2, eqGuard, h]) k
theorem op_ifq_none {c : Value} (hw : want ops l ⟨some d, .binOp .eql t x (.const c) t', ty, pos, af, g⟩ = some true) (hN : Nat.blt d N = true)
    (hx : ev l x = some .nilIface) (hc : c = .nilIface) (ht : P.underlying t = some (.interface (P.methodsAt t))) (k : WL P N ds ops Q os ((d, .bool true) :: l) w) :
    WL P N ds ops Q (⟨some d, .binOp .eql t x (.const c) t', ty, pos, af, g⟩ :: os) l w :=
  wl_value rfl hw hN (fun a ha => by
    subst hc
    have h := run_equal_nil_nil (P := P) w t ht
    have e2 : a.eval (.const .nilIface) = .nilIface := rfl
    simp [execOp, ha.ev hx, e2, eqGuard, binOp, h]) k
theorem at_ret3 {fn : Func} {t u s : Nat} {v x z : Value} {Post : Value → World → Prop} (hr : fn.results = #[.tmp t, .tmp u, .tmp s]) (hv : lk l t = some v) (hx : lk l u = some x) (hz : lk l s = some z)
    (h : Post (.tuple #[v, x, z]) w) : At N [] (bodyPost P fn (Ret Post)) .ret l w := ⟨fun a ha =>
  ⟨ha.defs, _, by simp [results, hr, Array.getD_eq_getD_getElem?, ha.vals t v hv, ha.vals u x hx, ha.vals s z hz], h⟩⟩
theorem i_sliceFT {e : TypeId} {sz by_ : Nat} [TySlice P t e] [Elem P e sz by_] {n p q cp b off : Nat} {xs : List Value} (hr : RowI I e sz (.slice (some ⟨b, off, none⟩) n cp) n xs)
    (hw : want ops l ⟨some d, .slice t x (some y) (some z) none, ty, pos, af, g⟩ = some true) (hN : Nat.blt d N = true)
    (hx : ev l x = some (.slice (some ⟨b, off, none⟩) n cp)) (hy : ev l y = some (.int .i64 (p : Int))) (hz : ev l z = some (.int .i64 (q : Int))) (hpq : p ≤ q) (hqn : q ≤ n)
    (k : ∀ o', RowI I e sz (.slice (some ⟨b, o', none⟩) (q - p) (cp - p)) (q - p) ((xs.drop (p * sz)).take ((q - p) * sz)) → WL P N ds ops Q os ((d, .slice (some ⟨b, o', none⟩) (q - p) (cp - p)) :: l) w) :
    WL P N ds ops Q (⟨some d, .slice t x (some y) (some z) none, ty, pos, af, g⟩ :: os) l w := by
  have h2 : n ≤ cp := by
    obtain ⟨_, a', cap, h1, h2, _⟩ := hr
    obtain ⟨_, _, rfl⟩ := Value.slice.inj h1
    exact h2
  have hr2 : RowI I e sz (.slice (some ⟨b, if cp = p then off else off + p * sz, none⟩) (q - p) (cp - p)) (q - p) ((xs.drop (p * sz)).take ((q - p) * sz)) := by
    split
    · rename_i hc
      obtain rfl : q = p := by omega
      rw [Nat.sub_self, Nat.zero_mul, List.take_zero]
      exact ⟨by simp, _, _, rfl, Nat.zero_le _, fun h => by omega⟩
    · exact (hr.drop (by omega)).take (by omega)
  refine wl_value (w' := w) (v := .slice (some ⟨b, if cp = p then off else off + p * sz, none⟩) (q - p) (cp - p)) rfl hw hN (fun c hc => ?_) (k _ hr2)
  obtain ⟨inf, zz, hinf, _, hs, _, _, _⟩ := Elem.out (P := P) (e := e)
  have h6 := run_underlying (P := P) (w := w) (TySlice.out (P := P) (t := t))
  have h7 : p ≤ cp := by omega
  have h8 : q ≤ cp := by omega
  simp [execOp, Instr.sliceAt, Instr.slice, Instr.sliceBounds, Instr.sliceBound, hc.ev hx, hc.ev hy, hc.ev hz, h6, asIntOf, h7, h8, hpq, sizeOf, typeInfo, hinf, hs, Addr.add]
  split
  · rfl
  · split
    · rename_i h9
      have : p = 0 ∨ sz = 0 := Nat.mul_eq_zero.1 h9
      rcases this with h | h <;> simp [h]
    · rfl
end
end Go.Fw
namespace Go.Proofs.YtkbiakajlfmakaaDoor
open Go.Fw
set_option maxHeartbeats 4000000 in
theorem fr_wrongAsk (q : Sp.Qn) (a : Option Addr) (cp : Nat) (I : Imm) : CalR Tryd.prog 17 #[.agg (askV q.id q.kind q.fr q.to q.text a q.args.length cp).toArray] I [] (nt (Sp.qErr q)) := by
  refine CalM.rd (CalM.of fun w E hm => enter (N := 19) Tryd.func17 rfl [(0, .agg (askV q.id q.kind q.fr q.to q.text a q.args.length cp).toArray)] args1 rfl ?_)
  have h0 : Sp.qErr q = if q.kind < 1 ∨ 9 < q.kind then 1 else if 5 < q.args.length then 5 else if 4000 < q.text.length then 4 else 0 := rfl
  generalize Sp.qErr q = r at h0
  repeat' (first
    | (refine m_box (d := 1) hm (by rfl) (by rfl) (by rfl) (by rfl) ?_; clear hm; intro b1 _ hm)
    | refine m_load1 hm (by rfl) (by rfl) (by rfl) (by first | exact gt0 | exact gt1 | exact gt2 | exact gt3 | exact gt4 | exact gt5 | exact gt6) (by rfl) ?_
    | refine op_move (by rfl) (by rfl) (by rfl) ?_
    | refine op_assign (by rfl) (by rfl) (by rfl) ?_
    | refine op_pick_true (by rfl) (by rfl) (by rfl) (by rfl) ?_
    | refine op_pick_false (by rfl) (by rfl) (by rfl) (by rfl) ?_
    | refine op_lss (by rfl) (by rfl) (by rfl) (by rfl) ?_
    | refine op_gtr (by rfl) (by rfl) (by rfl) (by rfl) ?_
    | refine op_len_str (by rfl) (by rfl) (by rfl) ?_
    | refine op_len_slice (by rfl) (by rfl) (by rfl) ?_
    | refine op_fieldAddr (by rfl) (by rfl) (by rfl) ?_
    | refine wl_skip (by rfl) (by rfl) (by rfl) ?_
    | (refine wl_split_dec (by rfl) (by rfl) (by rfl) (fun _ => ?_) (fun _ => ?_) <;> (try first | contradiction | (exfalso; omega)))
    | refine wl_nil ?_
    | refine at_then_normal ?_
    | refine at_then_ret ?_
    | refine wc_seq ?_
    | refine wc_region ?_
    | refine wc_skip ?_
    | refine wc_ret ?_
    | refine at_ret1 (by rfl) (by rfl) ?_
    | refine wc_cond_true (by rfl) ?_
    | (refine wc_cond_dec (by rfl) (fun _ => ?_) (fun _ => ?_) <;> (try first | contradiction | (exfalso; omega))))
  all_goals refine ⟨I, [], ⟨?_, rfl⟩, hm.left (H := [])⟩
  all_goals rw [h0]
  all_goals repeat' split
  all_goals first | rfl | (exfalso; omega)
/-- what 'num' answers. -/
def ToRNum (b : List UInt8) (p : Nat) (e : UInt8) : Value → Imm → List HItem → Prop := fun v _ H' => H' = [] ∧ ∃ (n k : Int) (ok : Bool), v = .tuple #[.int .i64 n, .int .i64 k, .bool ok] ∧
  match Sp.numAt b p e with
  | some (v', q) => n = v' ∧ k = (q : Int) ∧ ok = true
  | none => ok = false
set_option maxHeartbeats 8000000 in
theorem fr_rnum {I : Imm} {b : List UInt8} {ba : Option Addr} {cp : Nat} (hr : RowI I 5 1 (.slice ba b.length cp) b.length (b.flatMap encB)) (hl : b.length ≤ 1099511627776) (hI : ConvF I) {p : Nat} (hp : p ≤ b.length) (e : UInt8) :
    CalM Tryd.prog 52 #[.slice ba b.length cp, nt p, byteV e] I [] (ToRNum b p e) := by
  refine CalM.of fun w E hm => enter (N := 57) Tryd.func52 rfl [(0, .slice ba b.length cp), (1, nt p), (2, byteV e)] args3 rfl ?_
  have hfl := Sp.field_le b p e
  have hlong := Sp.numAt_long (b := b) (p := p) (e := e)
  have hopen := Sp.numAt_open (b := b) (p := p) (e := e)
  have hokk := Sp.numAt_ok (b := b) (p := p) (e := e)
  have hft := Sp.field_take (b := b) (p := p) (e := e)
  have hfe := Sp.field_end (b := b) (p := p) (e := e)
  have hflt := fun k => Sp.field_lt (b := b) (p := p) (e := e) (k := k)
  have hbad : ∀ n k : Int, Sp.numAt b p e = none → ∀ I', ToRNum b p e (.tuple #[.int .i64 n, .int .i64 k, .bool false]) I' [] := fun n k h I' => ⟨rfl, n, k, false, rfl, by rw [h]⟩
  generalize Sp.fieldAt b p e = s at hfl hlong hopen hokk hft hfe hflt
  repeat' (first
    | refine op_move (by rfl) (by rfl) (by rfl) ?_
    | refine op_assign (by rfl) (by rfl) (by rfl) ?_
    | refine wl_nil ?_
    | refine at_then_normal ?_
    | refine wc_seq ?_
    | refine wc_region ?_
    | refine wc_block ?_)
  refine wc_loop (fun j : Nat => [(0, .slice ba b.length cp), (1, nt p), (2, byteV e), (9, str ((b.drop p).take j)), (10, nt (p + j))])
    (fun j w' => Mem E I [] w' ∧ j ≤ s.length ∧ j ≤ 21) (fun j => s.length - j) 0
    (by exact ⟨rfl, rfl, rfl, rfl, rfl, trivial⟩) ⟨hm, Nat.zero_le _, by decide⟩ ?_
  clear hm
  rintro j w1 ⟨hm, hj, hj21⟩
  try dsimp only at hm hj hj21 ⊢
  by_cases hin : p + j < b.length ∧ j ≤ 20
  · obtain ⟨hlt2, h20⟩ := hin
    obtain ⟨b0, o0, rfl⟩ := hr.addr (by omega)
    by_cases hlt : j < s.length
    · obtain ⟨hne, _⟩ := hflt j hlt
      have hg : b[((p + j : Nat) : Int).toNat]? = some b[p + j] := List.getElem?_eq_getElem hlt2
      have hne2 : b[p + j] ≠ e := fun h => hne (by rw [List.getElem?_eq_getElem hlt2, h])
      have hne3 := byte_ne hne2
      have htb := Sp.take_byte hlt2
      have hsb := Sp.slice_byte hlt2
      have hrs : ((b.flatMap encB).drop ((p + j) * 1)).take ((p + j + 1 - (p + j)) * 1) = ([b[p + j]]).map byteV := by
        rw [flat_sing byteV b, Nat.mul_one, Nat.mul_one, ← List.map_drop, ← List.map_take, show p + j + 1 - (p + j) = 1 by omega, hsb]
      have hlen : ((b.drop p).take j).length ≤ j := by rw [List.length_take]; omega
      generalize b[p + j] = c at hg hne2 hne3 htb hrs
      generalize (b.drop p).take j = u at htb hlen
      repeat' (first
        | (refine i_indexFlat (d := 28) (enc := encB) (z := c) (by rfl) (by rfl) (by rfl) (by rfl) hr (fun _ => rfl) (by omega) (by omega) hg ?_; intro bt ot hpt)
        | (refine i_sliceFT (d := 53) (p := p + j) (q := p + j + 1) hr (by rfl) (by rfl) (by rfl) (by rfl) (by rfl) (by omega) (by omega) ?_; intro o53 h53; rw [hrs] at h53)
        | (refine i_bytesStr (d := 54) hm (by rfl) (by rfl) (by rfl) h53 (by simp) ?_)
        | (refine op_add_str (d := 55) (by rfl) (by rfl) (by rfl) (by rfl) (by simp only [List.length_append, List.length_singleton]; omega) ?_)
        | refine i_load1z hm (by rfl) (by rfl) (by rfl) (by assumption) (by rfl) ?_
        | refine op_move (by rfl) (by rfl) (by rfl) ?_
        | refine op_assign (by rfl) (by rfl) (by rfl) ?_
        | refine op_pick_true (by rfl) (by rfl) (by rfl) (by rfl) ?_
        | refine op_lss (by rfl) (by rfl) (by rfl) (by rfl) ?_
        | refine op_leq (by rfl) (by rfl) (by rfl) (by rfl) ?_
        | refine op_eql (by rfl) (by rfl) (by rfl) (by rfl) ?_
        | refine op_len_slice (by rfl) (by rfl) (by rfl) ?_
        | refine op_add (by rfl) (by rfl) (by rfl) (by rfl) (by omega) ?_
        | (refine wl_split_dec (by rfl) (by rfl) (by rfl) (fun _ => ?_) (fun _ => ?_) <;> (try first | contradiction | (exfalso; omega)))
        | refine wl_nil ?_
        | refine at_then_normal ?_
        | refine at_block_normal ?_
        | refine wc_seq ?_
        | refine wc_region ?_
        | refine wc_block ?_
        | refine wc_skip ?_
        | (refine wc_cond_dec (by rfl) (fun _ => ?_) (fun _ => ?_) <;> (try first | contradiction | (exfalso; omega))))
      all_goals try (exfalso; omega)
      exact at_round (j + 1 : Nat) (by exact ⟨rfl, rfl, rfl, by rw [htb]; rfl, rfl, trivial⟩) ⟨hm, by omega, by omega⟩ (by omega)
    · obtain rfl : j = s.length := by omega
      have he := hfe hlt2
      have hnum := hokk hlt2
      have hg : b[((p + s.length : Nat) : Int).toNat]? = some e := he
      rw [← hft]
      by_cases hA : ∃ v, Lib.atoiAll s = .ok v
      · obtain ⟨v, hv⟩ := hA
        have hv64 := Sp.atoi_i64 hv
        have hcan := Sp.canon_ok hv
        have hat := r_atoi_ok (I := I) hv (by omega) hI
        have hit := r_itoa (I := I) v hv64 hI
        repeat' (first
          | (refine i_indexFlat (d := 28) (enc := encB) (z := e) (by rfl) (by rfl) (by rfl) (by rfl) hr (fun _ => rfl) (by omega) (by omega) hg ?_; intro bt ot hpt)
          | (refine at_ret3 (by rfl) (by rfl) (by rfl) (by rfl) ?_)
          | (refine m_call (d := 34) hm (by rfl) (by rfl) (by rfl) (by first | exact pm0 | exact pm1_0 | exact pm1_1 | exact pm1_2 | exact pm1_3 | exact pm2_0 | exact pm2_1 | exact pm2_2 | exact pm2_3 | exact pm2_4 | exact pm3_0 | exact pm3_1 | exact pm3_2) (hat) ?_; clear hm; rintro _ I2 _ _ ⟨rfl, rfl, rfl⟩ hle hm; have hleI2 := hle; try simp only [setn] at hm)
          | (refine m_call (d := 44) hm (by rfl) (by rfl) (by rfl) (by first | exact pm0 | exact pm1_0 | exact pm1_1 | exact pm1_2 | exact pm1_3 | exact pm2_0 | exact pm2_1 | exact pm2_2 | exact pm2_3 | exact pm2_4 | exact pm3_0 | exact pm3_1 | exact pm3_2) (hit) ?_; clear hm; rintro _ I3 _ _ ⟨rfl, rfl, rfl⟩ hle hm; have hleI3 := hle; try simp only [setn] at hm)
          | (refine op_ifq_none (by rfl) (by rfl) (by rfl) (by rfl) (by kernel_rfl) ?_)
          | refine i_load1z hm (by rfl) (by rfl) (by rfl) (by assumption) (by rfl) ?_
          | refine op_move (by rfl) (by rfl) (by rfl) ?_
          | refine op_assign (by rfl) (by rfl) (by rfl) ?_
          | refine op_pick_true (by rfl) (by rfl) (by rfl) (by rfl) ?_
          | refine op_lss (by rfl) (by rfl) (by rfl) (by rfl) ?_
          | refine op_leq (by rfl) (by rfl) (by rfl) (by rfl) ?_
          | refine op_eql (by rfl) (by rfl) (by rfl) (by rfl) ?_
          | refine op_eql_str (by rfl) (by rfl) (by rfl) (by rfl) ?_
          | refine op_len_slice (by rfl) (by rfl) (by rfl) ?_
          | refine op_extract (by rfl) (by rfl) (by rfl) (by rfl) ?_
          | refine op_add (by rfl) (by rfl) (by rfl) (by rfl) (by omega) ?_
          | (refine wl_split_dec (by rfl) (by rfl) (by rfl) (fun _ => ?_) (fun _ => ?_) <;> (try first | contradiction | (exfalso; omega)))
          | refine wl_nil ?_
          | refine at_then_normal ?_
          | refine at_then_ret ?_
          | refine at_block_ret ?_
          | refine wc_seq ?_
          | refine wc_region ?_
          | refine wc_block ?_
          | refine wc_skip ?_
          | refine wc_ret ?_
          | (refine wc_cond_dec (by rfl) (fun _ => ?_) (fun _ => ?_) <;> (try first | contradiction | (exfalso; omega))))
        all_goals try (exfalso; first | omega | contradiction)
        refine ⟨I3, [], ⟨rfl, _, _, _, rfl, ?_⟩, hm⟩
        rw [hnum, hcan]
        by_cases hsame : Lib.itoa v = s
        · rw [if_pos hsame, decide_eq_true hsame]
          exact ⟨rfl, by omega, rfl⟩
        · rw [if_neg hsame]
          exact decide_eq_false hsame
      · have hno : ∀ v, Lib.atoiAll s ≠ .ok v := fun v hv => hA ⟨v, hv⟩
        have hcan := Sp.canon_bad hno
        rw [hcan] at hnum
        have hat := r_atoi_bad (I := I) hno (by omega) hI
        repeat' (first
          | (refine i_indexFlat (d := 28) (enc := encB) (z := e) (by rfl) (by rfl) (by rfl) (by rfl) hr (fun _ => rfl) (by omega) (by omega) hg ?_; intro bt ot hpt)
          | (refine at_ret3 (by rfl) (by rfl) (by rfl) (by rfl) ?_)
          | (refine m_call (d := 34) hm (by rfl) (by rfl) (by rfl) (by first | exact pm0 | exact pm1_0 | exact pm1_1 | exact pm1_2 | exact pm1_3 | exact pm2_0 | exact pm2_1 | exact pm2_2 | exact pm2_3 | exact pm2_4 | exact pm3_0 | exact pm3_1 | exact pm3_2) (hat) ?_; clear hm; rintro _ I2 _ _ ⟨rfl, rfl, n, te, pe, rfl⟩ hle hm; have hleI2 := hle; try simp only [setn] at hm)
          | (refine op_ifq_held (by rfl) (by rfl) (by rfl) (by rfl) (by kernel_rfl) ?_)
          | refine i_load1z hm (by rfl) (by rfl) (by rfl) (by assumption) (by rfl) ?_
          | refine op_move (by rfl) (by rfl) (by rfl) ?_
          | refine op_assign (by rfl) (by rfl) (by rfl) ?_
          | refine op_pick_true (by rfl) (by rfl) (by rfl) (by rfl) ?_
          | refine op_pick_false (by rfl) (by rfl) (by rfl) (by rfl) ?_
          | refine op_lss (by rfl) (by rfl) (by rfl) (by rfl) ?_
          | refine op_leq (by rfl) (by rfl) (by rfl) (by rfl) ?_
          | refine op_eql (by rfl) (by rfl) (by rfl) (by rfl) ?_
          | refine op_len_slice (by rfl) (by rfl) (by rfl) ?_
          | refine op_extract (by rfl) (by rfl) (by rfl) (by rfl) ?_
          | refine op_add (by rfl) (by rfl) (by rfl) (by rfl) (by omega) ?_
          | refine wl_skip (by rfl) (by rfl) (by rfl) ?_
          | (refine wl_split_dec (by rfl) (by rfl) (by rfl) (fun _ => ?_) (fun _ => ?_) <;> (try first | contradiction | (exfalso; omega)))
          | refine wl_nil ?_
          | refine at_then_normal ?_
          | refine at_then_ret ?_
          | refine at_block_ret ?_
          | refine wc_seq ?_
          | refine wc_region ?_
          | refine wc_block ?_
          | refine wc_skip ?_
          | refine wc_ret ?_
          | (refine wc_cond_dec (by rfl) (fun _ => ?_) (fun _ => ?_) <;> (try first | contradiction | (exfalso; omega))))
        all_goals try (exfalso; first | omega | contradiction)
        exact ⟨_, [], hbad _ _ hnum _, hm⟩
  · have hnone : Sp.numAt b p e = none := by
      rcases Nat.lt_or_ge (p + j) b.length with h | h
      · exact hlong (by omega)
      · exact hopen (by omega)
    repeat' (first
      | (refine at_ret3 (by rfl) (by rfl) (by rfl) (by rfl) ?_)
      | refine op_move (by rfl) (by rfl) (by rfl) ?_
      | refine op_assign (by rfl) (by rfl) (by rfl) ?_
      | refine op_pick_true (by rfl) (by rfl) (by rfl) (by rfl) ?_
      | refine op_pick_false (by rfl) (by rfl) (by rfl) (by rfl) ?_
      | refine op_lss (by rfl) (by rfl) (by rfl) (by rfl) ?_
      | refine op_leq (by rfl) (by rfl) (by rfl) (by rfl) ?_
      | refine op_len_slice (by rfl) (by rfl) (by rfl) ?_
      | refine op_add (by rfl) (by rfl) (by rfl) (by rfl) (by omega) ?_
      | refine wl_skip (by rfl) (by rfl) (by rfl) ?_
      | (refine wl_split_dec (by rfl) (by rfl) (by rfl) (fun _ => ?_) (fun _ => ?_) <;> (try first | contradiction | (exfalso; omega)))
      | refine wl_nil ?_
      | refine at_then_normal ?_
      | refine at_then_exit ?_
      | refine at_block_exit ?_
      | refine wc_seq ?_
      | refine wc_region ?_
      | refine wc_exit ?_
      | refine wc_ret ?_
      | refine wc_cond_false (by rfl) ?_
      | (refine wc_cond_dec (by rfl) (fun _ => ?_) (fun _ => ?_) <;> (try first | contradiction | (exfalso; omega))))
    all_goals try (exfalso; omega)
    all_goals exact ⟨I, [], hbad _ _ hnone I, hm⟩
end Go.Proofs.YtkbiakajlfmakaaDoor
end
