/-
  THE STATEMENT of the law NamesTells, where what it reads is small: it returns true, whatever it is given; the listed variables as the program lays them. By the prover.
-/
import Derived.Test.YtkbiakajlfmakaaGreatDoorNt28
import Derived.Test.YtkbiakajlfmakaaGreatDoorCards
import Derived.Test.YtkbiakajlfmakaaGreatDoorTie
import Derived.Deep.DeepHandedRow
import Derived.Lay
section
namespace Go.Proofs.YtkbiakajlfmakaaGreatDoor
open Go.Fw
theorem sp_ntellsT (s : List UInt8) (kind : Int) (name : List UInt8) (at_ : Int) (hs : s.length ≤ 9223372036854775807) (_hn : name.length ≤ 9223372036854775807) (I : Imm) (hC : Conv I) :
    CalM Tryz.prog 3 #[str s, .int .i64 kind, str name, .int .i64 at_] I [] (fun v _ H' => v = .bool true ∧ H' = []) := sp_ntells s kind name at_ hs I hC
end Go.Proofs.YtkbiakajlfmakaaGreatDoor
end
section
namespace Go.Proofs.YtkbiakajlfmakaaGreatDoor.namesTellsTop
open Go.ChangeShapes Go.WideShapes Go.ChangeAt Go.RowKit
open Go.Fw (Kept Cal str Ret)
open Go.ChangeMaps (open_string shut_string)

set_option maxRecDepth 100000 in
theorem contract (H : Type) (enc : TypeId × Value → H) (W : World) (base : Nat) (args : Array Value) (ds gs : List (DataW H)) (before : List MemPlace)
    (hval : ∀ (j : Nat) t v, Tryz.f3.params[j]? = some t → args[j]? = some v → Value.okWide Tryz.prog W .any base t v)
    (hW : DataW.Whole enc Tryz.prog Tryz.f3.params.toList Rows.namesTellsSpec.vars false W args.toList ds gs before) (hk : Rows.uptoSmall H (ds ++ gs) = true) (hL : laidMetH Tryz.prog Rows.namesTellsUptoRow.laid W) :
    Calls Tryz.prog 3 args W fun e W' => ∃ v, e = .returned v ∧ Rows.namesTellsSpec.post enc Tryz.prog Tryz.f3 false true false false W args v W' := by
  have hC := conv_of hL (by kernel_rfl) (by kernel_rfl)
  clear hL
  have hW' := hW
  obtain ⟨p, q, hA0, hV, rfl, hfz, hnd⟩ := hW
  have hA : DataW.TrodAll enc Tryz.prog W 0 (fun _ => true) true Tryz.f3.params.toList args.toList ds p := hA0
  rw [Tryz.params3] at hA hval
  obtain ⟨v0, vs0, d0, ds0, p0, q0, hargs, rfl, rfl, h0, r0⟩ := trodAll_cons hA
  obtain ⟨v1, vs1, d1, ds1, p1, q1, hx1, rfl, rfl, h1, r1⟩ := trodAll_cons r0
  obtain ⟨v2, vs2, d2, ds2, p2, q2, hx2, rfl, rfl, h2, r2⟩ := trodAll_cons r1
  obtain ⟨v3, vs3, d3, ds3, p3, q3, hx3, rfl, rfl, h3, r3⟩ := trodAll_cons r2
  obtain ⟨rfl, rfl, rfl⟩ := trodAll_nil r3
  obtain rfl : args = #[v0, v1, v2, v3] := by cases args; simp_all
  obtain ⟨rfl, rfl⟩ := trodVars_none hV
  obtain ⟨s0, rfl, rfl, rfl, hm0⟩ := open_string Tryz.underlying9 (hval 0 9 v0 rfl rfl) h0
  obtain ⟨s1, rfl, rfl, rfl, hm1⟩ := open_int Tryz.underlying3 (hval 1 3 v1 rfl rfl) h1
  obtain ⟨s2, rfl, rfl, rfl, hm2⟩ := open_string Tryz.underlying9 (hval 2 9 v2 rfl rfl) h2
  obtain ⟨s3, rfl, rfl, rfl, hm3⟩ := open_int Tryz.underlying3 (hval 3 3 v3 rfl rfl) h3
  clear hA0
  simp only [List.append_nil] at hW' hk
  have hb0 : s0.data.toList.length ≤ 1048576 := bulk_str hk (by simp)
  have hb2 : s2.data.toList.length ≤ 1048576 := bulk_str hk (by simp)
  refine ((run_kept (sp_ntellsT s0.data.toList s1 s2.data.toList s3 (by omega) (by omega) (Go.Fw.immOf W) hC)).run).mono fun e W' he => ?_
  cases e
  case returned v =>
    obtain ⟨rfl, hg⟩ := he
    refine ⟨_, rfl, post_kept (pa := []) (pv := []) hW' (fun _ _ _ => trodAll_cons_mk (shut_bool Tryz.underlying4 _) trodAll_mk0) (fun _ _ => ?_) (fun _ _ => rfl) hg⟩
    exact trodAll_cons_mk (shut_string Tryz.underlying9 hm0) (trodAll_cons_mk (shut_int Tryz.underlying3 hm1) (trodAll_cons_mk (shut_string Tryz.underlying9 hm2) (trodAll_cons_mk (shut_int Tryz.underlying3 hm3) trodAll_mk0)))
  all_goals exact he.elim

/-- A world for the witness: the settled one, the listed variables holding what they are laid with. -/
noncomputable def laidWorld (os : Os) : World := World.laidAll Tryz.prog os Rows.namesTellsUptoRow.laid
theorem laid_met (os : Os) : laidMet Tryz.prog Rows.namesTellsUptoRow.laid ((laidWorld os).forCall (fun _ _ => 0) ⟨#[], #[.string .empty, .int .i64 0, .string .empty, .int .i64 0], []⟩).memory :=
  laidMet_laidAll _ (by kernel_rfl) (by kernel_rfl)
theorem reads (os : Os) {H : Type} (enc : TypeId × Value → H) : ∃ places, DataW.whole enc Tryz.prog ((laidWorld os).forCall (fun _ _ => 0) ⟨#[], #[.string .empty, .int .i64 0, .string .empty, .int .i64 0], []⟩).memory Tryz.f3.params.toList Rows.namesTellsSpec.vars false (#[.string .empty, .int .i64 0, .string .empty, .int .i64 0] : Array Value).toList 8 = some ([.lit (.string []), .lit (.int .i64 0), .lit (.string []), .lit (.int .i64 0)], [], places) :=
  ⟨[], by kernel_rfl⟩

set_option maxRecDepth 100000 in
theorem lifted (os : Os) (started : os.Started) (H : Type) (enc : TypeId × Value → H) (F : Stop.Interp) :
    ReturnsInHanded {} Tryz.checked os 3 .any ((Rows.OpenSpec.upto Rows.namesTellsSpec).preRow enc Tryz.prog Tryz.f3 Rows.namesTellsUptoRow.domain false Rows.namesTellsUptoRow.laid) (((Rows.OpenSpec.upto Rows.namesTellsSpec).at F).post enc Tryz.prog Tryz.f3 false true false false) := by
  obtain ⟨places, hx⟩ := reads os enc
  refine returnsInHanded_of_row (C := Tryz.checked) (s := Rows.OpenSpec.upto Rows.namesTellsSpec) ownKnobNone started (by kernel_rfl) Tryz.func3
    (witness_row_at (enc := enc) (C := Tryz.checked) false (laidWorld os) #[.string .empty, .int .i64 0, .string .empty, .int .i64 0] (World.laidAll_os _ _ _) (by kernel_rfl) (by kernel_rfl) (by kernel_rfl)
      (OpenSpec.preRow_of_cond 8 hx (by kernel_rfl) (fun k hk => by cases hk; kernel_rfl) (by kernel_rfl) (laid_met os))) ?_
  intro W base args ds gs before hval hW _ hcond _ hL _ _
  exact contract H enc W base args ds gs before hval hW (hcond _ rfl) hL

theorem said : Rows.NamesTellsUptoSaid :=
  OpenClaim.holds_of_cond 3 Tryz.f3 rfl rfl rfl rfl rfl rfl rfl ⟨rfl, rfl, rfl, rfl, rfl⟩ rfl rfl rfl rfl rfl (by kernel_rfl) Tryz.func3 (by kernel_rfl)
    (of_decide_eq_true (by kernel_rfl)) (by unfold Func.isWrapper; first | (rw [if_pos (by decide +kernel)]; kernel_rfl) | (rw [if_neg (by decide +kernel)]; exact ⟨rfl, rfl⟩))
    (fun os started H enc _ F => by rw [OpenClaim.pre_eq_preRow]; exact lifted os started H enc F)

theorem plain (f : FuncId) (fn : Func) (hf : Tryz.pinned.checked.prog.funcNamed "undertone/underlaw4.NamesTells" = some f) (hfn : Tryz.pinned.checked.prog.funcs[f]? = some fn) :
    true = Tryz.pinned.checked.prog.looks [] ∧ ∀ (j : Nat) t, fn.params[j]? = some t → Tryz.pinned.checked.prog.wantsStandIn t = false := by
  obtain rfl : f = 3 := Option.some.inj ((show Tryz.prog.funcNamed "undertone/underlaw4.NamesTells" = some 3 by kernel_rfl).symm.trans hf) |>.symm
  obtain rfl : fn = Tryz.f3 := (Option.some.inj (Tryz.func3.symm.trans hfn)).symm
  refine ⟨by kernel_rfl, fun j t ht => ?_⟩
  rw [Tryz.params3] at ht
  have hm := Array.mem_of_getElem? ht
  simp only [List.mem_toArray, List.mem_cons, List.not_mem_nil, or_false] at hm
  rcases hm with rfl | rfl | rfl | rfl
  · exact (show Tryz.prog.wantsStandIn 9 = false by kernel_rfl)
  · exact (show Tryz.prog.wantsStandIn 3 = false by kernel_rfl)
  · exact (show Tryz.prog.wantsStandIn 9 = false by kernel_rfl)
  · exact (show Tryz.prog.wantsStandIn 3 = false by kernel_rfl)

theorem proved : Rows.NamesTellsUptoCardSaid :=
  Claim7.holds_tied_plain_at .later [] _ _ _ _ said (fun _ h => by cases h) (by kernel_rfl) (fun _ h => by cases h) namesTellsUpto_row_tie rfl ⟨rfl, rfl⟩ (by kernel_rfl) rfl plain (by kernel_rfl)
end Go.Proofs.YtkbiakajlfmakaaGreatDoor.namesTellsTop
end
