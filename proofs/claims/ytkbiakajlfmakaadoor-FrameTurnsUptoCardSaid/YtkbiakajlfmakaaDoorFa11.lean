/-
  THE STATEMENT of the law FrameTurns, where what it reads is small: it returns true, whatever it is given; the listed variables as the program lays them. By the prover.
-/
import Derived.Test.YtkbiakajlfmakaaDoorFa10
import Derived.Test.YtkbiakajlfmakaaDoorCards
import Derived.Test.YtkbiakajlfmakaaDoorTie
import Derived.Deep.DeepHandedRow
import Derived.Lay
section
namespace Go.Proofs.YtkbiakajlfmakaaDoor.frameTurnsTop
open Go.ChangeShapes Go.WideShapes Go.ChangeAt Go.RowKit
open Go.Fw (Kept Cal str Ret)
open Go.ChangeMaps (open_string shut_string)

set_option maxRecDepth 100000 in
theorem contract (H : Type) (enc : TypeId × Value → H) (W : World) (base : Nat) (args : Array Value) (ds gs : List (DataW H)) (before : List MemPlace)
    (hval : ∀ (j : Nat) t v, Tryd.f5.params[j]? = some t → args[j]? = some v → Value.okWide Tryd.prog W .any base t v)
    (hW : DataW.Whole enc Tryd.prog Tryd.f5.params.toList Rows.frameTurnsSpec.vars false W args.toList ds gs before) (hk : Rows.uptoSmall H (ds ++ gs) = true) (hL : laidMetH Tryd.prog Rows.frameTurnsUptoRow.laid W) :
    Calls Tryd.prog 5 args W fun e W' => ∃ v, e = .returned v ∧ Rows.frameTurnsSpec.post enc Tryd.prog Tryd.f5 false true false false W args v W' := by
  have hC : ConvF (Go.Fw.immOf W) := ⟨rng_of hL (by kernel_rfl) (by kernel_rfl), syn_of hL (by kernel_rfl) (by kernel_rfl), tab_of hL (by kernel_rfl) (by kernel_rfl)⟩
  clear hL
  have hW' := hW
  obtain ⟨p, q, hA0, hV, rfl, hfz, hnd⟩ := hW
  have hA : DataW.TrodAll enc Tryd.prog W 0 (fun _ => true) true Tryd.f5.params.toList args.toList ds p := hA0
  rw [Tryd.params5] at hA hval
  obtain ⟨v0, vs0, d0, ds0, p0, q0, hargs, rfl, rfl, h0, r0⟩ := trodAll_cons hA
  obtain ⟨v1, vs1, d1, ds1, p1, q1, hx1, rfl, rfl, h1, r1⟩ := trodAll_cons r0
  obtain ⟨rfl, rfl, rfl⟩ := trodAll_nil r1
  obtain rfl : args = #[v0, v1] := by cases args; simp_all
  obtain ⟨rfl, rfl⟩ := trodVars_none hV
  have hv0 := hval 0 37 v0 rfl rfl
  have hv1 := hval 1 38 v1 rfl rfl
  have hlt := hW'.lt
  obtain ⟨a0, qs0, c0, xs0, rfl, hr0, ht0, hf0, hb0⟩ := open_asks hv0 h0
  obtain ⟨a1, bs1, c1, rfl, hr1, hb1⟩ := open_bytes hv1 h1
  clear hA0
  simp only [List.append_nil] at hW' hk
  have hk0 : Rows.uptoBulk d0 ≤ 1048576 := Nat.le_trans (bulk_part (l := [d0, d1]) (by simp)) (by simpa [Rows.uptoSmall] using hk)
  have hk1 : Rows.uptoBulk d1 ≤ 1048576 := Nat.le_trans (bulk_part (l := [d0, d1]) (by simp)) (by simpa [Rows.uptoSmall] using hk)
  refine ((run_keptF (sp_fturns (Go.Fw.immOf W) hC hr0 ht0 hf0 hr1 (by omega) (by omega))).run).mono fun e W' he => ?_
  cases e
  case returned v =>
    obtain ⟨rfl, hg⟩ := he
    refine ⟨_, rfl, post_kept2 (pv := []) hW' (fun _ _ _ => trodAll_cons_mk (shut_bool Tryd.underlying4 _) trodAll_mk0) (trodAll_cons_mk (Below.trod laidOutF (by kernel_rfl) (of_decide_eq_true (by kernel_rfl)) h0 (kept_below hg) (fun x hx => hlt x (by simp [hx]))) (trodAll_cons_mk (Below.trod laidOutF (by kernel_rfl) (of_decide_eq_true (by kernel_rfl)) h1 (kept_below hg) (fun x hx => hlt x (by simp [hx]))) trodAll_mk0)) (fun _ _ => rfl) hg⟩
  all_goals exact he.elim

/-- A world for the witness: the settled one, the listed variables holding what they are laid with. -/
noncomputable def laidWorld (os : Os) : World := World.laidAll Tryd.prog os Rows.frameTurnsUptoRow.laid
theorem laid_met (os : Os) : laidMet Tryd.prog Rows.frameTurnsUptoRow.laid ((laidWorld os).forCall (fun _ _ => 0) ⟨#[], #[.slice none 0 0, .slice none 0 0], []⟩).memory :=
  laidMet_laidAll _ (by kernel_rfl) (by kernel_rfl)
theorem reads (os : Os) {H : Type} (enc : TypeId × Value → H) : ∃ places, DataW.whole enc Tryd.prog ((laidWorld os).forCall (fun _ _ => 0) ⟨#[], #[.slice none 0 0, .slice none 0 0], []⟩).memory Tryd.f5.params.toList Rows.frameTurnsSpec.vars false (#[.slice none 0 0, .slice none 0 0] : Array Value).toList 8 = some ([.nil, .nil], [], places) :=
  ⟨[], by kernel_rfl⟩

set_option maxRecDepth 100000 in
theorem lifted (os : Os) (started : os.Started) (H : Type) (enc : TypeId × Value → H) (F : Stop.Interp) :
    ReturnsInHanded {} Tryd.checked os 5 .any ((Rows.OpenSpec.upto Rows.frameTurnsSpec).preRow enc Tryd.prog Tryd.f5 Rows.frameTurnsUptoRow.domain false Rows.frameTurnsUptoRow.laid) (((Rows.OpenSpec.upto Rows.frameTurnsSpec).at F).post enc Tryd.prog Tryd.f5 false true false false) := by
  obtain ⟨places, hx⟩ := reads os enc
  refine returnsInHanded_of_row (C := Tryd.checked) (s := Rows.OpenSpec.upto Rows.frameTurnsSpec) ownKnobNone started (by kernel_rfl) Tryd.func5
    (witness_row_at (enc := enc) (C := Tryd.checked) false (laidWorld os) #[.slice none 0 0, .slice none 0 0] (World.laidAll_os _ _ _) (by kernel_rfl) (by kernel_rfl) (by kernel_rfl)
      (OpenSpec.preRow_of_cond 8 hx (by kernel_rfl) (fun k hk => by cases hk; kernel_rfl) (by kernel_rfl) (laid_met os))) ?_
  intro W base args ds gs before hval hW _ hcond _ hL _ _
  exact contract H enc W base args ds gs before hval hW (hcond _ rfl) hL

theorem said : Rows.FrameTurnsUptoSaid :=
  OpenClaim.holds_of_cond 5 Tryd.f5 rfl rfl rfl rfl rfl rfl rfl ⟨rfl, rfl, rfl, rfl, rfl⟩ rfl rfl rfl rfl rfl (by kernel_rfl) Tryd.func5 (by kernel_rfl)
    (of_decide_eq_true (by kernel_rfl)) (by unfold Func.isWrapper; first | (rw [if_pos (by decide +kernel)]; kernel_rfl) | (rw [if_neg (by decide +kernel)]; exact ⟨rfl, rfl⟩))
    (fun os started H enc _ F => by rw [OpenClaim.pre_eq_preRow]; exact lifted os started H enc F)

theorem plain (f : FuncId) (fn : Func) (hf : Tryd.pinned.checked.prog.funcNamed "undertone/underlaw11.FrameTurns" = some f) (hfn : Tryd.pinned.checked.prog.funcs[f]? = some fn) :
    true = Tryd.pinned.checked.prog.looks [] ∧ ∀ (j : Nat) t, fn.params[j]? = some t → Tryd.pinned.checked.prog.wantsStandIn t = false := by
  obtain rfl : f = 5 := Option.some.inj ((show Tryd.prog.funcNamed "undertone/underlaw11.FrameTurns" = some 5 by kernel_rfl).symm.trans hf) |>.symm
  obtain rfl : fn = Tryd.f5 := (Option.some.inj (Tryd.func5.symm.trans hfn)).symm
  refine ⟨by kernel_rfl, fun j t ht => ?_⟩
  rw [Tryd.params5] at ht
  have hm := Array.mem_of_getElem? ht
  simp only [List.mem_toArray, List.mem_cons, List.not_mem_nil, or_false] at hm
  rcases hm with rfl | rfl
  · exact (show Tryd.prog.wantsStandIn 37 = false by kernel_rfl)
  · exact (show Tryd.prog.wantsStandIn 38 = false by kernel_rfl)

theorem proved : Rows.FrameTurnsUptoCardSaid :=
  Claim7.holds_tied_plain_at .later [] _ _ _ _ said (fun _ h => by cases h) (by kernel_rfl) (fun _ h => by cases h) frameTurnsUpto_row_tie rfl ⟨rfl, rfl⟩ (by kernel_rfl) rfl plain (by kernel_rfl)
end Go.Proofs.YtkbiakajlfmakaaDoor.frameTurnsTop
end
