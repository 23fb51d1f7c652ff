/-
  THE STATEMENT of the law ParseTells, where what it reads is small: it returns true, whatever it is given; the listed variables as the program lays them. By the prover.
-/
import Derived.Test.YtjfkjpbkmpofkaaGreatDoorMt30
import Derived.Test.YtjfkjpbkmpofkaaGreatDoorCards
import Derived.Test.YtjfkjpbkmpofkaaGreatDoorTie
import Derived.Deep.DeepHandedRow
import Derived.Lib.SmallJoins
import Derived.Lay
section
namespace Go.Proofs.YtjfkjpbkmpofkaaGreatDoor.parseTellsTop
open Go.ChangeShapes Go.WideShapes Go.ChangeAt Go.RowKit
open Go.Fw (Kept Cal str Ret)
open Go.ChangeMaps (open_string shut_string)
open Go.Joins (open_agg3 shut_agg3)

set_option maxRecDepth 100000 in
theorem contract (H : Type) (enc : TypeId × Value → H) (W : World) (base : Nat) (args : Array Value) (ds gs : List (DataW H)) (before : List MemPlace)
    (hval : ∀ (j : Nat) t v, Tryz.f3.params[j]? = some t → args[j]? = some v → Value.okWide Tryz.prog W .any base t v)
    (hW : DataW.Whole enc Tryz.prog Tryz.f3.params.toList Rows.parseTellsSpec.vars false W args.toList ds gs before) (hk : Rows.uptoSmall H (ds ++ gs) = true) (hL : laidMetH Tryz.prog Rows.parseTellsUptoRow.laid W) :
    Calls Tryz.prog 3 args W fun e W' => ∃ v, e = .returned v ∧ Rows.parseTellsSpec.post enc Tryz.prog Tryz.f3 false true false false W args v W' := by
  have hC := conv_of hL (by kernel_rfl) (by kernel_rfl)
  clear hL
  have hW' := hW
  obtain ⟨p, q, hA0, hV, rfl, hfz, hnd⟩ := hW
  have hA : DataW.TrodAll enc Tryz.prog W 0 (fun _ => true) true Tryz.f3.params.toList args.toList ds p := hA0
  rw [Tryz.params3] at hA hval
  obtain ⟨v0, vs0, d0, ds0, p0, q0, hargs, rfl, rfl, h0, r0⟩ := trodAll_cons hA
  obtain ⟨v1, vs1, d1, ds1, p1, q1, hx1, rfl, rfl, h1, r1⟩ := trodAll_cons r0
  obtain ⟨v2, vs2, d2, ds2, p2, q2, hx2, rfl, rfl, h2, r2⟩ := trodAll_cons r1
  obtain ⟨rfl, rfl, rfl⟩ := trodAll_nil r2
  obtain rfl : args = #[v0, v1, v2] := by cases args; simp_all
  obtain ⟨rfl, rfl⟩ := trodVars_none hV
  obtain ⟨s0, rfl, rfl, rfl, hm0⟩ := open_string Tryz.underlying9 (hval 0 9 v0 rfl rfl) h0
  obtain ⟨s1, rfl, rfl, rfl, hm1⟩ := open_int Tryz.underlying3 (hval 1 3 v1 rfl rfl) h1
  obtain ⟨e20, e21, e22, y20, y21, y22, _, rfl, rfl, rfl, hy20, hy21, hy22⟩ := open_agg3 Tryz.underlying23 (by kernel_rfl) (by kernel_rfl) (hval 2 23 v2 rfl rfl) h2
  obtain ⟨f2, k20, rfl, wf2⟩ := DataW.trod_int Tryz.underlying3 hy20
  obtain ⟨u2, k21, rfl, wu2⟩ := DataW.trod_int Tryz.underlying3 hy21
  obtain ⟨s2, k22, rfl, wx2⟩ := DataW.trod_string Tryz.underlying9 hy22
  simp only [List.cons.injEq, and_true] at k20 k21 k22
  subst k20; subst k21; subst k22
  clear hA0
  simp only [List.append_nil] at hW' hk
  have hb0 : s0.data.toList.length ≤ 1048576 := bulk_str hk (by simp)
  have hb2 : s2.data.toList.length ≤ 1048576 := bulk_agg_str hk (parts := [.lit (.int .i64 f2), .lit (.int .i64 u2), .lit (.string s2.data.toList)]) (by simp) (by simp)
  refine ((run_kept (sp_ptells s0.data.toList s1 f2 u2 s2.data.toList (by omega) (by omega) (Go.Fw.immOf W) hC)).run).mono fun e W' he => ?_
  cases e
  case returned v =>
    obtain ⟨rfl, hg⟩ := he
    refine ⟨_, rfl, post_kept (pa := []) (pv := []) hW' (fun _ _ _ => trodAll_cons_mk (shut_bool Tryz.underlying4 _) trodAll_mk0) (fun _ _ => ?_) (fun _ _ => rfl) hg⟩
    exact trodAll_cons_mk (shut_string Tryz.underlying9 hm0) (trodAll_cons_mk (shut_int Tryz.underlying3 hm1) (trodAll_cons_mk (shut_agg3 Tryz.underlying23 (by kernel_rfl) (by kernel_rfl) ⟨1, trod_int_mk 0 Tryz.underlying3 wf2⟩ ⟨1, trod_int_mk 0 Tryz.underlying3 wu2⟩ (Go.Deep.shut_string_cell Tryz.underlying9 wx2)) trodAll_mk0))
  all_goals exact he.elim

/-- A world for the witness: the settled one, the listed variables holding what they are laid with. -/
noncomputable def laidWorld (os : Os) : World := World.laidAll Tryz.prog os Rows.parseTellsUptoRow.laid
theorem laid_met (os : Os) : laidMet Tryz.prog Rows.parseTellsUptoRow.laid ((laidWorld os).forCall (fun _ _ => 0) ⟨#[], #[.string .empty, .int .i64 0, .agg #[.int .i64 0, .int .i64 0, .string .empty]], []⟩).memory :=
  laidMet_laidAll _ (by kernel_rfl) (by kernel_rfl)
theorem reads (os : Os) {H : Type} (enc : TypeId × Value → H) : ∃ places, DataW.whole enc Tryz.prog ((laidWorld os).forCall (fun _ _ => 0) ⟨#[], #[.string .empty, .int .i64 0, .agg #[.int .i64 0, .int .i64 0, .string .empty]], []⟩).memory Tryz.f3.params.toList Rows.parseTellsSpec.vars false (#[.string .empty, .int .i64 0, .agg #[.int .i64 0, .int .i64 0, .string .empty]] : Array Value).toList 8 = some ([.lit (.string []), .lit (.int .i64 0), .agg [.lit (.int .i64 0), .lit (.int .i64 0), .lit (.string [])]], [], places) :=
  ⟨[], by kernel_rfl⟩

set_option maxRecDepth 100000 in
theorem lifted (os : Os) (started : os.Started) (H : Type) (enc : TypeId × Value → H) (F : Stop.Interp) :
    ReturnsInHanded {} Tryz.checked os 3 .any ((Rows.OpenSpec.upto Rows.parseTellsSpec).preRow enc Tryz.prog Tryz.f3 Rows.parseTellsUptoRow.domain false Rows.parseTellsUptoRow.laid) (((Rows.OpenSpec.upto Rows.parseTellsSpec).at F).post enc Tryz.prog Tryz.f3 false true false false) := by
  obtain ⟨places, hx⟩ := reads os enc
  refine returnsInHanded_of_row (C := Tryz.checked) (s := Rows.OpenSpec.upto Rows.parseTellsSpec) ownKnobNone started (by kernel_rfl) Tryz.func3
    (witness_row_at (enc := enc) (C := Tryz.checked) false (laidWorld os) #[.string .empty, .int .i64 0, .agg #[.int .i64 0, .int .i64 0, .string .empty]] (World.laidAll_os _ _ _) (by kernel_rfl) (by kernel_rfl) (by kernel_rfl)
      (OpenSpec.preRow_of_cond 8 hx (by kernel_rfl) (fun k hk => by cases hk; kernel_rfl) (by kernel_rfl) (laid_met os))) ?_
  intro W base args ds gs before hval hW _ hcond _ hL _ _
  exact contract H enc W base args ds gs before hval hW (hcond _ rfl) hL

theorem said : Rows.ParseTellsUptoSaid :=
  OpenClaim.holds_of_cond 3 Tryz.f3 rfl rfl rfl rfl rfl rfl rfl ⟨rfl, rfl, rfl, rfl, rfl⟩ rfl rfl rfl rfl rfl (by kernel_rfl) Tryz.func3 (by kernel_rfl)
    (of_decide_eq_true (by kernel_rfl)) (by unfold Func.isWrapper; first | (rw [if_pos (by decide +kernel)]; kernel_rfl) | (rw [if_neg (by decide +kernel)]; exact ⟨rfl, rfl⟩))
    (fun os started H enc _ F => by rw [OpenClaim.pre_eq_preRow]; exact lifted os started H enc F)

theorem plain (f : FuncId) (fn : Func) (hf : Tryz.pinned.checked.prog.funcNamed "undertone/underlaw3.ParseTells" = some f) (hfn : Tryz.pinned.checked.prog.funcs[f]? = some fn) :
    true = Tryz.pinned.checked.prog.looks [] ∧ ∀ (j : Nat) t, fn.params[j]? = some t → Tryz.pinned.checked.prog.wantsStandIn t = false := by
  obtain rfl : f = 3 := Option.some.inj ((show Tryz.prog.funcNamed "undertone/underlaw3.ParseTells" = some 3 by kernel_rfl).symm.trans hf) |>.symm
  obtain rfl : fn = Tryz.f3 := (Option.some.inj (Tryz.func3.symm.trans hfn)).symm
  refine ⟨by kernel_rfl, fun j t ht => ?_⟩
  rw [Tryz.params3] at ht
  have hm := Array.mem_of_getElem? ht
  simp only [List.mem_toArray, List.mem_cons, List.not_mem_nil, or_false] at hm
  rcases hm with rfl | rfl | rfl
  · exact (show Tryz.prog.wantsStandIn 9 = false by kernel_rfl)
  · exact (show Tryz.prog.wantsStandIn 3 = false by kernel_rfl)
  · exact (show Tryz.prog.wantsStandIn 23 = false by kernel_rfl)

theorem proved : Rows.ParseTellsUptoCardSaid :=
  Claim7.holds_tied_plain_at .later [] _ _ _ _ said (fun _ h => by cases h) (by kernel_rfl) (fun _ h => by cases h) parseTellsUpto_row_tie rfl ⟨rfl, rfl⟩ (by kernel_rfl) rfl plain (by kernel_rfl)
end Go.Proofs.YtjfkjpbkmpofkaaGreatDoor.parseTellsTop
end
