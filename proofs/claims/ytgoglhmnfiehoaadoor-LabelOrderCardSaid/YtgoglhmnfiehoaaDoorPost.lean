/-
  WHAT A LAW'S WALK GIVES TO ITS STATEMENT: a call that returns true and keeps every block answers as stated. By the prover.
-/
import Derived.Test.YtgoglhmnfiehoaaDoorRows
import Derived.Test.YtgoglhmnfiehoaaDoorFwMem4
import Derived.WalkKit
import Derived.ProofKit
import Derived.OpenShut
import Derived.ShutString
import Derived.JoinedCond
namespace Go.Proofs.YtgoglhmnfiehoaaDoor
open Go.ChangeShapes Go.WideShapes Go.ChangeAt Go.RowKit
open Go.Fw (Kept Cal str Ret)
open Go.ChangeMaps (open_string shut_string)

theorem ownKnobNone : ownKnob Tryd.prog.godebug = none := by kernel_rfl

theorem kept_but {W W' : World} (h : Kept [] W W') (may : MemPlace → Prop) : W.keptBut W' may := by
  refine ⟨h.os, h.output, fun i hi => ?_⟩
  rw [h.blk i hi (by simp)]
  rcases hh : W.heap[i]? with _ | o
  · trivial
  · cases o
    case cells c t fr => exact ⟨rfl, rfl, rfl, fun _ _ => rfl⟩
    case map es clock => exact Or.inr ⟨rfl, rfl⟩
    all_goals rfl

theorem post_kept {H : Type} {enc : TypeId × Value → H} {P : Program} {f : Func} {s : ChangeSpec} {apart fresh handsOn : Bool} {W W' : World} {args : Array Value} {v : Value} {ds gs : List (DataW H)} {before pa pv : List MemPlace}
    (hW : DataW.Whole enc P f.params.toList s.vars apart W args.toList ds gs before)
    (hres : ∀ (b : Nat) (sp : Nat → Bool) (hd : Bool), DataW.TrodAll enc P W' b sp hd f.resultTypes.toList (v.resultList f.resultTypes.size) (s.fn H (ds ++ gs)).results [])
    (hargs : ∀ sp : Nat → Bool, (∀ p ∈ before, sp p.block = true) → DataW.TrodAll enc P W' 0 sp true f.params.toList args.toList (s.fn H (ds ++ gs)).args pa)
    (hvars : ∀ sp : Nat → Bool, (∀ p ∈ before, sp p.block = true) → DataW.TrodVars enc P W' sp s.vars (s.fn H (ds ++ gs)).vars pv)
    (hk : Kept [] W W') : s.post enc P f apart fresh handsOn false W args v W' := by
  have hold : ∀ p ∈ before, (fun b => decide (b < W.heap.size)) p.block = true := fun p hp => by simpa using hW.lt p hp
  exact ⟨ds, gs, before, [], pa, pv, hW, hres _ _ _, hargs _ hold, hvars _ hold, kept_but hk _, fun h => by cases h⟩

theorem bulk_one {H : Type} (d : DataW H) : 1 ≤ Rows.uptoBulk d := by
  cases d with
  | lit l => cases l <;> simp [Rows.uptoBulk]
  | nil => simp [Rows.uptoBulk]
  | ptr d => simp [Rows.uptoBulk]
  | slice elems spare => simp [Rows.uptoBulk]
  | agg parts => simp [Rows.uptoBulk]
  | iface t d => simp [Rows.uptoBulk]
  | map entries => simp [Rows.uptoBulk]
  | held h => simp [Rows.uptoBulk]

theorem bulk_part {H : Type} {d : DataW H} {l : List (DataW H)} (h : d ∈ l) : Rows.uptoBulk d ≤ Rows.uptoBulkAll l := by
  induction l with
  | nil => cases h
  | cons x r ih =>
    simp only [Rows.uptoBulkAll]
    cases List.mem_cons.1 h with
    | inl e => subst e; omega
    | inr e => have := ih e; omega

theorem bulk_str {H : Type} {l : List (DataW H)} (hk : Rows.uptoSmall H l = true) {s : List UInt8} (h : DataW.lit (.string s) ∈ l) : s.length ≤ 1048576 := by
  have h1 : Rows.uptoBulkAll l ≤ 1048576 := by simpa [Rows.uptoSmall] using hk
  have h2 := bulk_part h
  simp only [Rows.uptoBulk] at h2
  omega

theorem str_of (s : ByteArray) : Value.string s = str s.data.toList := rfl
end Go.Proofs.YtgoglhmnfiehoaaDoor
