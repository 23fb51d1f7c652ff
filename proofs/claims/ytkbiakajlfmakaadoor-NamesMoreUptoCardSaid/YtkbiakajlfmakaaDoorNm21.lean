/- Own work: texts NsG, FwApp, NsH, NsI, NsJ, LawNu, SpecJoin, one behind the other. -/
import Derived.Test.YtkbiakajlfmakaaDoorNm20
section
namespace Go.Sp
/-- what is asked of an item. -/
structure ItN (src : List UInt8) (it : Itm) : Prop where
  small : it.small
  cnt : stmsCnt it.body ≤ 400000000
  st : ItS0 src it
def same (it x : Itm) : Bool := decide (x.kind = it.kind) && decide (x.name = it.name)
theorem any_take_none {its : List Itm} {i : Nat} {F : Itm → Bool} (hi : i ≤ its.length) (h : ∀ j x, j < i → its[j]? = some x → F x = false) : (its.take i).any F = false := by
  rw [List.any_eq_false]
  intro x hx
  obtain ⟨j, hj, rfl⟩ := List.getElem_of_mem hx
  rw [List.length_take] at hj
  rw [List.getElem_take, h j _ (by omega) (List.getElem?_eq_getElem (by omega))]
  simp
theorem any_take_some {its : List Itm} {i k : Nat} {F : Itm → Bool} {x : Itm} (hk : k < i) (hg : its[k]? = some x) (h : F x = true) : (its.take i).any F = true := by
  rw [List.any_eq_true]
  refine ⟨x, ?_, h⟩
  refine List.mem_of_getElem? (i := k) ?_
  rw [List.getElem?_take, if_pos hk, hg]
theorem drop_take10 {α : Type} (xs : List α) {i k : Nat} (hk : k < i) : (((xs.take (i * 10)).drop (k * 10)).take 10) = (xs.drop (k * 10)).take 10 := by
  rw [List.drop_take, List.take_take, Nat.min_eq_left (by omega)]
end Go.Sp
namespace Go.Proofs.YtkbiakajlfmakaaDoor
open Go.Fw
section
variable {src : List UInt8} {its : List Sp.Itm} {a : Option Addr} {cp : Nat} {xs : List Value}
set_option maxHeartbeats 32000000 in
theorem n_walk (i : Nat) (hi : i < its.length) (bf : Nat) (I : Imm) (hfile : PtrI I bf 0 24 [.slice a its.length cp]) (h : FE I its a cp xs) (hlen : src.length ≤ 4000) (hN : ∀ x ∈ its, Sp.ItN src x) :
    CalM Tryd.prog 57 #[ptr bf, nt i] I [] (fun v _ H' => ∃ bc pi sc sa sp da dp ua up, v = ptr bc ∧ H' = NSt bc bf pi sc sa sp (Sp.walkN its i) da dp ua up) := by
  refine CalM.of fun w E hm => enter (N := 80) Tryd.func57 rfl [(0, ptr bf), (1, nt i)] args2 rfl ?_
  have hfew := h.few
  have hg := Sp.itNo_get hi
  obtain ⟨ci, hci, hat, hlc⟩ := h.get hg
  have hri := h.row
  have hIt := hN _ (Sp.itNo_mem hi)
  have hw : Sp.walkN its i = if (Sp.itNo its i).kind = 2 then Sp.fnN its (Sp.itNo its i) (if Sp.taken its i (Sp.itNo its i) = true then Sp.NW0.tell (Sp.itNo its i).mark 7 (Sp.itNo its i).name else Sp.NW0) else (if Sp.taken its i (Sp.itNo its i) = true then Sp.NW0.tell (Sp.itNo its i).mark 7 (Sp.itNo its i).name else Sp.NW0) := rfl
  generalize Sp.walkN its i = fin at hw ⊢
  generalize Sp.itNo its i = it at hg hat hIt hw
  obtain ⟨s0, hs0⟩ : ∃ s0, s0 = if Sp.taken its i it = true then Sp.NW0.tell it.mark 7 it.name else Sp.NW0 := ⟨_, rfl⟩
  rw [← hs0] at hw
  have hs0n : s0.n ≤ 1 := by
    rw [hs0]
    split
    · rw [Sp.tell_n]; exact Nat.le_refl _
    · exact Nat.zero_le _
  have htk : Sp.taken its i it = (decide (it.kind ≠ 3) && (decide (it.name ≠ []) && (its.take i).any (Sp.same it))) := rfl
  have hat0 := hat
  obtain ⟨pa, pc, sa9, sc9, ba, bc9, da9, dc9, xb, rfl, hpar, hsnd, hrb, hbs, _⟩ := hat
  obtain ⟨p, q, hst⟩ := hIt.st
  have hbd := (hst.sub _ _ hst.mark).1
  repeat' (first
    | (refine i_indexAddr (d := 15) (by rfl) (by rfl) (by rfl) (by rfl) hri (by omega) (by omega) ?_; intro bt ot hpt; rw [show ((i : Int).toNat * 10) = i * 10 from rfl, hci] at hpt)
    | (refine wc_cut_regN 3 (fun _ : NX => [(0, ptr bf), (1, nt i), (5, ptr b17), (6, .pointer (some ⟨bt, ot, none⟩))]) (fun x w' => Mem E x.I (NSt b17 bf (.pointer (some ⟨bt, ot, none⟩)) [] x.sa x.sp s0 x.da x.dp x.ua x.up) w' ∧ Le I x.I) ?_ ?_)
    | (refine m_box (d := 17) hm (by rfl) (by rfl) (by rfl) (by rfl) ?_; clear hm; intro b17 _ hm)
    | refine m_load1 hm (by rfl) (by rfl) (by rfl) (by first | exact gt0 | exact gt1 | exact gt2 | exact gt3 | exact gt4 | exact gt5 | exact gt6) (by rfl) ?_
    | refine i_load1 hm (by rfl) (by rfl) (by rfl) (by assumption) (by rfl) ?_
    | refine op_move (by rfl) (by rfl) (by rfl) ?_
    | refine op_assign (by rfl) (by rfl) (by rfl) ?_
    | refine op_nilCheck (by rfl) (by rfl) (by rfl) ?_
    | refine op_fieldAddr (by rfl) (by rfl) (by rfl) ?_
    | refine op_struct (by rfl) (by rfl) (by rfl) (by rfl) ?_
    | refine wl_nil ?_
    | refine at_then_normal ?_
    | refine wc_seq ?_
    | refine wc_region ?_)
  · have hm : Mem E I (NSt b17 bf (.pointer (some ⟨bt, ot, none⟩)) [] none 0 Sp.NW0 none 0 none 0) _ := (((hm.nil 116 4).swap.nil 225 2).swap.nil 56 3).swap
    refine ⟨?_⟩
    by_cases hk : it.kind ≠ 3 ∧ it.name ≠ []
    case neg =>
      have : s0 = Sp.NW0 := by
        rw [hs0, if_neg]
        rw [htk]
        intro h1
        simp only [Bool.and_eq_true, decide_eq_true_eq] at h1
        exact hk ⟨h1.1, h1.2.1⟩
      subst this
      by_cases h3 : it.kind = 3
      · skip
        repeat' (first
          | refine i_load1 hm (by rfl) (by rfl) (by rfl) (by assumption) (by rfl) ?_
          | refine op_move (by rfl) (by rfl) (by rfl) ?_
          | refine op_pick_false (by rfl) (by rfl) (by rfl) (by rfl) ?_
          | refine op_neq (by rfl) (by rfl) (by rfl) (by rfl) ?_
          | refine op_nilCheck (by rfl) (by rfl) (by rfl) ?_
          | refine op_fieldAddr (by rfl) (by rfl) (by rfl) ?_
          | refine wl_skip (by rfl) (by rfl) (by rfl) ?_
          | (refine wl_split_dec (by rfl) (by rfl) (by rfl) (fun _ => ?_) (fun _ => ?_) <;> (try first | contradiction | (exfalso; omega)))
          | refine wl_nil ?_
          | refine at_then_normal ?_
          | refine wc_seq ?_
          | refine wc_region ?_
          | refine wc_skip ?_
          | refine wc_cond_false (by rfl) ?_)
        all_goals try (exfalso; first | omega | contradiction)
        exact at_cut (⟨0, I, none, 0, none, 0, none, 0⟩ : NX) (by exact ⟨rfl, rfl, rfl, rfl, trivial⟩) ⟨hm, Le.refl _⟩
      · have hnn : it.name = [] := Classical.byContradiction fun h1 => hk ⟨h3, h1⟩
        repeat' (first
          | refine i_load1 hm (by rfl) (by rfl) (by rfl) (by assumption) (by rfl) ?_
          | refine op_move (by rfl) (by rfl) (by rfl) ?_
          | refine op_pick_true (by rfl) (by rfl) (by rfl) (by rfl) ?_
          | refine op_neq (by rfl) (by rfl) (by rfl) (by rfl) ?_
          | refine op_neq_str (by rfl) (by rfl) (by rfl) (by rfl) ?_
          | refine op_nilCheck (by rfl) (by rfl) (by rfl) ?_
          | refine op_fieldAddr (by rfl) (by rfl) (by rfl) ?_
          | (refine wl_split_dec (by rfl) (by rfl) (by rfl) (fun _ => ?_) (fun _ => ?_) <;> (try first | contradiction | (exfalso; omega)))
          | refine wl_nil ?_
          | refine at_then_normal ?_
          | refine wc_seq ?_
          | refine wc_region ?_
          | refine wc_skip ?_
          | (refine wc_cond_dec (by rfl) (fun _ => ?_) (fun _ => ?_) <;> (try first | contradiction | (exfalso; omega))))
        all_goals try (exfalso; first | omega | contradiction)
        exact at_cut (⟨0, I, none, 0, none, 0, none, 0⟩ : NX) (by exact ⟨rfl, rfl, rfl, rfl, trivial⟩) ⟨hm, Le.refl _⟩
    obtain ⟨hk3, hnn⟩ := hk
    repeat' (first
      | (refine i_sliceTo (d := 39) hri (by rfl) (by rfl) (by rfl) (by rfl) (by omega) ?_; intro hrs)
      | refine i_load1 hm (by rfl) (by rfl) (by rfl) (by assumption) (by rfl) ?_
      | refine op_move (by rfl) (by rfl) (by rfl) ?_
      | refine op_pick_true (by rfl) (by rfl) (by rfl) (by rfl) ?_
      | refine op_neq (by rfl) (by rfl) (by rfl) (by rfl) ?_
      | refine op_neq_str (by rfl) (by rfl) (by rfl) (by rfl) ?_
      | refine op_len_slice (by rfl) (by rfl) (by rfl) ?_
      | refine op_nilCheck (by rfl) (by rfl) (by rfl) ?_
      | refine op_fieldAddr (by rfl) (by rfl) (by rfl) ?_
      | (refine wl_split_dec (by rfl) (by rfl) (by rfl) (fun _ => ?_) (fun _ => ?_) <;> (try first | contradiction | (exfalso; omega)))
      | refine wl_nil ?_
      | refine at_then_normal ?_
      | refine wc_seq ?_
      | refine wc_region ?_
      | refine wc_block ?_
      | (refine wc_cond_dec (by rfl) (fun _ => ?_) (fun _ => ?_) <;> (try first | contradiction | (exfalso; omega))))
    all_goals try (exfalso; first | omega | contradiction)
    refine wc_loop (fun k : Nat => [(0, ptr bf), (1, nt i), (5, ptr b17), (6, .pointer (some ⟨bt, ot, none⟩)), (39, .slice a i cp), (40, nt i), (41, nt k)])
      (fun k w' => Mem E I (NSt b17 bf (.pointer (some ⟨bt, ot, none⟩)) [] none 0 Sp.NW0 none 0 none 0) w' ∧ k ≤ i ∧ ∀ j x, j < k → its[j]? = some x → Sp.same it x = false) (fun k => i - k) 0
      (by exact ⟨rfl, rfl, rfl, rfl, rfl, rfl, rfl, trivial⟩) ⟨hm, Nat.zero_le _, fun j _ hj => absurd hj (Nat.not_lt_zero j)⟩ ?_
    clear hm
    rintro k w1 ⟨hm, hk, hno⟩
    try dsimp only at hm hk hno ⊢
    by_cases hlt : k < i
    · have hgk : its[k]? = some its[k] := List.getElem?_eq_getElem (by omega)
      obtain ⟨cz, hcz, hatz, hl10⟩ := h.get hgk
      have hdt := Sp.drop_take10 xs hlt
      generalize its[k] = y at hgk hatz
      obtain ⟨pa3, pc3, sa3, sc3, ba3, bc3, da3, dc3, xb3, rfl, _⟩ := hatz
      cases hsm : Sp.same it y with
      | true =>
        have hsk := hsm
        simp only [Sp.same, Bool.and_eq_true, decide_eq_true_eq] at hsk
        obtain ⟨e1, e2⟩ := hsk
        have : s0 = Sp.NW0.tell it.mark 7 it.name := by
          rw [hs0, if_pos]
          rw [htk, Sp.any_take_some hlt hgk hsm, decide_eq_true hk3, decide_eq_true hnn]; rfl
        subst this
        have hT := n_tell (I := I) (bc := b17) (bf := bf) (pi := .pointer (some ⟨bt, ot, none⟩)) (sc := []) (sa := none) (sp := 0) (s := Sp.NW0) (da := none) (dp := 0) (ua := none) (up := 0) it.name it.mark 7 (by omega) (by decide)
        repeat' (first
          | (refine i_indexAddr (d := 43) (by rfl) (by rfl) (by rfl) (by rfl) hrs (by omega) (by omega) ?_; intro bu ou hpu; rw [show ((k : Int).toNat * 10) = k * 10 from rfl, hdt, hcz] at hpu)
          | (refine wc_quiet_tail (id := 8) 9 (by kernel_rfl) ?_)
          | (refine m_call (d := 70) hm (by rfl) (by rfl) (by rfl) pm4_1 hT ?_; clear hm; rintro _ I2 _ _ ⟨rfl, sa2, sp2, da2, dp2, ua2, up2, rfl⟩ hleI2 hm; try simp only [setn] at hm)
          | (refine m_varS (d := 8) hm (by rfl) (by rfl) (by rfl) (by rfl) (by rfl) ?_; clear hm; intro b8 _ hm)
          | refine i_loadN hm (by rfl) (by rfl) (by rfl) (by assumption) (by rfl) ?_
          | refine mq_load1 hm (by rfl) (by rfl) (by rfl) (by first | exact gt0 | exact gt1 | exact gt2 | exact gt3 | exact gt4 | exact gt5 | exact gt6) (by rfl) ?_
          | refine iq_load1 hm (by rfl) (by rfl) (by rfl) (by assumption) (by rfl) ?_
          | refine op_lss (by rfl) (by rfl) (by rfl) (by rfl) ?_
          | refine wl_nil ?_
          | refine at_then_normal ?_
          | refine at_then_exit ?_
          | refine at_block_exit ?_
          | refine at_block_other (by rfl) ?_
          | refine wc_seq ?_
          | refine wc_region ?_
          | refine wc_block ?_
          | refine wc_skip ?_
          | refine wc_exit ?_
          | refine wc_quiet (by kernel_rfl) ?_
          | (refine wq_nil ?_; intro _ hkq; replace hm := hm.kept0 hkq; clear hkq)
          | (refine wq_nil_tail ?_; intro _ hkq; replace hm := hm.kept0 hkq; clear hkq)
          | (refine wc_cond_dec (by rfl) (fun _ => ?_) (fun _ => ?_) <;> (try first | contradiction | (exfalso; omega)))
          | refine q_move (by rfl) (by rfl) (by rfl) ?_
          | refine q_pick_true (by rfl) (by rfl) (by rfl) (by rfl) ?_
          | refine q_eql (by rfl) (by rfl) (by rfl) (by rfl) ?_
          | refine q_eql_str (by rfl) (by rfl) (by rfl) (by rfl) ?_
          | refine q_nilCheck (by rfl) (by rfl) (by rfl) ?_
          | refine q_fieldAddr (by rfl) (by rfl) (by rfl) ?_
          | (refine wq_split_dec (by rfl) (by rfl) (by rfl) (fun _ => ?_) (fun _ => ?_) <;> (try first | contradiction | (exfalso; omega))))
        all_goals try (exfalso; first | omega | contradiction)
        exact at_cut (⟨0, I2, sa2, sp2, da2, dp2, ua2, up2⟩ : NX) (by exact ⟨rfl, rfl, rfl, rfl, trivial⟩) ⟨hm.left, hleI2⟩
      | false =>
        have hne : ¬ (y.kind = it.kind ∧ y.name = it.name) := fun h1 => by
          rw [Sp.same, decide_eq_true h1.1, decide_eq_true h1.2] at hsm
          cases hsm
        repeat' (first
          | (refine i_indexAddr (d := 43) (by rfl) (by rfl) (by rfl) (by rfl) hrs (by omega) (by omega) ?_; intro bu ou hpu; rw [show ((k : Int).toNat * 10) = k * 10 from rfl, hdt, hcz] at hpu)
          | (refine m_varS (d := 8) hm (by rfl) (by rfl) (by rfl) (by rfl) (by rfl) ?_; clear hm; intro b8 _ hm)
          | refine i_loadN hm (by rfl) (by rfl) (by rfl) (by assumption) (by rfl) ?_
          | refine mq_load1 hm (by rfl) (by rfl) (by rfl) (by first | exact gt0 | exact gt1 | exact gt2 | exact gt3 | exact gt4 | exact gt5 | exact gt6) (by rfl) ?_
          | refine iq_load1 hm (by rfl) (by rfl) (by rfl) (by assumption) (by rfl) ?_
          | refine op_move (by rfl) (by rfl) (by rfl) ?_
          | refine op_lss (by rfl) (by rfl) (by rfl) (by rfl) ?_
          | refine op_add (by rfl) (by rfl) (by rfl) (by rfl) (by omega) ?_
          | refine wl_nil ?_
          | refine at_then_normal ?_
          | refine at_block_normal ?_
          | refine wc_seq ?_
          | refine wc_region ?_
          | refine wc_block ?_
          | refine wc_skip ?_
          | refine wc_quiet (by kernel_rfl) ?_
          | (refine wq_nil ?_; intro _ hkq; replace hm := hm.kept0 hkq; clear hkq)
          | refine wc_cond_false (by rfl) ?_
          | (refine wc_cond_dec (by rfl) (fun _ => ?_) (fun _ => ?_) <;> (try first | contradiction | (exfalso; omega)))
          | refine q_move (by rfl) (by rfl) (by rfl) ?_
          | refine q_pick_true (by rfl) (by rfl) (by rfl) (by rfl) ?_
          | refine q_pick_false (by rfl) (by rfl) (by rfl) (by rfl) ?_
          | refine q_eql (by rfl) (by rfl) (by rfl) (by rfl) ?_
          | refine q_eql_str (by rfl) (by rfl) (by rfl) (by rfl) ?_
          | refine q_nilCheck (by rfl) (by rfl) (by rfl) ?_
          | refine q_fieldAddr (by rfl) (by rfl) (by rfl) ?_
          | refine wq_skip (by rfl) (by rfl) (by rfl) ?_
          | (refine wq_split_dec (by rfl) (by rfl) (by rfl) (fun _ => ?_) (fun _ => ?_) <;> (try first | contradiction | (exfalso; omega))))
        all_goals try (exfalso; first | omega | contradiction | (exact hne ⟨by omega, by assumption⟩))
        all_goals refine at_round (k + 1 : Nat) (by exact ⟨rfl, rfl, rfl, rfl, rfl, rfl, rfl, trivial⟩) ⟨hm.tl, by omega, fun j x hj hg' => ?_⟩ (by omega)
        all_goals
          rcases Nat.lt_or_ge j k with hjk | hjk
          · exact hno j x hjk hg'
          · obtain rfl : j = k := by omega
            rw [hgk] at hg'
            obtain rfl := Option.some.inj hg'
            exact hsm
    · obtain rfl : k = i := by omega
      have : s0 = Sp.NW0 := by
        rw [hs0, if_neg]
        rw [htk, Sp.any_take_none (by omega) hno]
        simp
      subst this
      repeat' (first
        | refine op_lss (by rfl) (by rfl) (by rfl) (by rfl) ?_
        | refine wl_nil ?_
        | refine at_then_normal ?_
        | refine at_then_exit ?_
        | refine at_block_exit ?_
        | refine wc_seq ?_
        | refine wc_region ?_
        | refine wc_exit ?_
        | (refine wc_cond_dec (by rfl) (fun _ => ?_) (fun _ => ?_) <;> (try first | contradiction | (exfalso; omega))))
      all_goals try (exfalso; first | omega | contradiction)
      exact at_cut (⟨0, I, none, 0, none, 0, none, 0⟩ : NX) (by exact ⟨rfl, rfl, rfl, rfl, trivial⟩) ⟨hm, Le.refl _⟩
  · clear hm
    rintro ⟨_, I1, sa1, sp1, da1, dp1, ua1, up1⟩ w1 ⟨hm, hle1⟩
    dsimp only at hm hle1 ⊢
    have hpt1 := hpt.le hle1
    by_cases k2 : it.kind = 2
    · rw [if_pos k2] at hw
      have hC : NC I1 src p q its it bf a cp xs (.pointer (some ⟨bt, ot, none⟩)) := ⟨hfile.le hle1, h.le hle1, ⟨bt, ot, _, _, rfl, hpt1, hat0.le hle1⟩, hlen, hst, fun x hx => (hN x hx).st⟩
      have hF := n_fn (bc := b17) (s := s0) (sa := sa1) (sp := sp1) (da := da1) (dp := dp1) (ua := ua1) (up := up1) hC hIt.small hIt.cnt (by omega)
      rw [← hw] at hF
      repeat' (first
        | (refine m_call (d := 78) hm (by rfl) (by rfl) (by rfl) pm4_0 hF ?_; clear hm; rintro _ I2 _ _ ⟨rfl, sa2, sp2, da2, dp2, ua2, up2, rfl⟩ hleI2 hm; try simp only [setn] at hm)
        | refine i_load1 hm (by rfl) (by rfl) (by rfl) (by assumption) (by rfl) ?_
        | refine op_move (by rfl) (by rfl) (by rfl) ?_
        | refine op_assign (by rfl) (by rfl) (by rfl) ?_
        | refine op_eql (by rfl) (by rfl) (by rfl) (by rfl) ?_
        | refine op_nilCheck (by rfl) (by rfl) (by rfl) ?_
        | refine op_fieldAddr (by rfl) (by rfl) (by rfl) ?_
        | refine wl_nil ?_
        | refine at_then_normal ?_
        | refine wc_seq ?_
        | refine wc_region ?_
        | refine wc_ret ?_
        | refine at_ret1 (by rfl) (by rfl) ?_
        | (refine wc_cond_dec (by rfl) (fun _ => ?_) (fun _ => ?_) <;> (try first | contradiction | (exfalso; omega))))
      all_goals try (exfalso; first | omega | contradiction)
      exact ⟨I2, _, ⟨_, _, _, _, _, _, _, _, _, rfl, rfl⟩, hm⟩
    · rw [if_neg k2] at hw
      subst hw
      repeat' (first
        | refine i_load1 hm (by rfl) (by rfl) (by rfl) (by assumption) (by rfl) ?_
        | refine op_move (by rfl) (by rfl) (by rfl) ?_
        | refine op_assign (by rfl) (by rfl) (by rfl) ?_
        | refine op_eql (by rfl) (by rfl) (by rfl) (by rfl) ?_
        | refine op_nilCheck (by rfl) (by rfl) (by rfl) ?_
        | refine op_fieldAddr (by rfl) (by rfl) (by rfl) ?_
        | refine wl_nil ?_
        | refine at_then_normal ?_
        | refine wc_seq ?_
        | refine wc_region ?_
        | refine wc_skip ?_
        | refine wc_ret ?_
        | refine at_ret1 (by rfl) (by rfl) ?_
        | (refine wc_cond_dec (by rfl) (fun _ => ?_) (fun _ => ?_) <;> (try first | contradiction | (exfalso; omega))))
      all_goals try (exfalso; first | omega | contradiction)
      exact ⟨I1, _, ⟨_, _, _, _, _, _, _, _, _, rfl, rfl⟩, hm⟩
end
end Go.Proofs.YtkbiakajlfmakaaDoor
end
section
namespace Go.Fw
open Go
section
variable {P : Program} {N : Nat} {ds : List Deferred} {Q : Exit → Act → World → Prop} {l : Log} {w : World} {ops : Array Oper} {os : List Oper}
variable {d : Nat} {ty : TypeId} {pos : String} {af : Array Edge} {g : Option (Nat × Bool)} {t : TypeId} {x y : Operand} {E : Ent} {I : Imm} {H : List HItem}
theorem run_append_none {e : TypeId} {sz by_ : Nat} [TySlice P t e] [he : Elem P e sz by_] {b : Option Addr} {n c c2 : Nat} (hc : n ≤ c) (ty : TypeId) :
    (Builtin.append_ #[t, t] ty #[.slice b n c, .slice none 0 c2]).run P w = .ok (.slice b n c) w := by
  obtain ⟨i, z, hi, hz, hs, hby, hzc, hpos⟩ := he.out
  have ht := run_underlying (P := P) (w := w) (TySlice.out (P := P) (t := t))
  cases b <;> simp [Builtin.append_, Builtin.firstCells, Builtin.lenOf, storeCells, ht, sizeOf, typeInfo, hi, hc]
theorem m_appendI {e : TypeId} {sz by_ : Nat} [TySlice P t e] [Elem P e sz by_] {i n m cp : Nat} {v : Value} {a : Option Addr} {xs ys : List Value} (hm : Mem E I H w)
    (hw : want ops l ⟨some d, .call ⟨.builtin .append, #[x, y], #[t, t]⟩, ty, pos, af, g⟩ = some true) (hN : Nat.blt d N = true)
    (hx : ev l x = some v) (hy : ev l y = some (.slice a m cp)) (hi : H[i]? = some (.row v e sz n xs)) (hr : RowI I e sz (.slice a m cp) m ys) (h1 : ∀ u ∈ ys, u.oneCell' = true)
    (hlen : (n + m) * by_ ≤ 140737488355328) (h63 : n + m ≤ 9223372036854775807)
    (k : ∀ a' cp' w', Mem E I (H.set i (.row (.slice a' (n + m) cp') e sz (n + m) (xs ++ ys))) w' → WL P N ds ops Q os ((d, .slice a' (n + m) cp') :: l) w') :
    WL P N ds ops Q (⟨some d, .call ⟨.builtin .append, #[x, y], #[t, t]⟩, ty, pos, af, g⟩ :: os) l w := by
  have ho := hm.getRow hi
  obtain ⟨hl0, a', cap, hv, hmc, h3⟩ := hr
  obtain ⟨rfl, _, rfl⟩ := Value.slice.inj hv
  cases a with
  | none =>
    obtain rfl : m = 0 := Classical.byContradiction fun h => by obtain ⟨_, _, _, _, e1, _⟩ := h3 (by omega); cases e1
    obtain rfl : ys = [] := List.eq_nil_of_length_eq_zero (by simpa using hl0)
    obtain ⟨b, c, rfl⟩ := own_val ho
    have hnc := (own_cut ho (Nat.le_refl _)).2.1
    have hm' := hm.turn (h' := .row (.slice b (n + 0) c) e sz (n + 0) (xs ++ [])) hi (Kept.refl _ w) (by rw [Nat.add_zero, List.append_nil]; exact hm.ok _ (List.mem_of_getElem? hi)) (.inl rfl)
    refine wl_value (w' := w) (v := .slice b n c) rfl hw hN (fun c2 hc => ?_) (k b c w hm')
    have hr := run_append_none (P := P) (t := t) (w := w) (e := e) (b := b) (c2 := cp) hnc ty
    simp [execOp, resolve, invoke, builtin, hc.ev hx, hc.ev hy, hr]
  | some ad =>
    obtain ⟨v', w', hr, ho', hk, hb⟩ := run_append (P := P) (t := t) ho ad m cp ys hl0 (fun j u hj => by
        have hm0 : 0 < m := by
          rcases Nat.eq_zero_or_pos m with h | h
          · subst h
            rw [List.eq_nil_of_length_eq_zero (l := ys) (by simpa using hl0)] at hj
            cases hj
          · exact h
        obtain ⟨b, off, c, fr, e1, e2, e3⟩ := h3 hm0
        obtain rfl := Option.some.inj e1
        rw [Addr.add_lit]
        exact cell_of (hm.inv _ _ e2) (e3 j u hj)) h1 h63 hlen (Nat.zero_le _) ty
    obtain ⟨a2, c2, rfl⟩ := own_val ho'
    refine wl_value (w' := w') (v := .slice a2 (n + m) c2) rfl hw hN (fun c3 hc => ?_) (k a2 c2 w' (hm.turn hi hk ho' (hb.imp_right fun ⟨g, h1, h2⟩ => ⟨g, h1, h2⟩)))
    simp [execOp, resolve, invoke, builtin, hc.ev hx, hc.ev hy, hr]
end
end Go.Fw
end
section
namespace Go.Sp
theorem walk_few {src : List UInt8} {its : List Itm} (h : ∀ x ∈ its, ItN src x) {i : Nat} (hi : i < its.length) : (walkN its i).n ≤ 900000000 := by
  have hm := itNo_mem hi
  have hN := h _ hm
  rw [walkN]
  generalize itNo its i = it at hN
  have h0 : (if taken its i it = true then NW0.tell it.mark 7 it.name else NW0).n ≤ 1 := by
    split
    · rw [tell_n]; exact Nat.le_refl _
    · exact Nat.zero_le _
  generalize (if taken its i it = true then NW0.tell it.mark 7 it.name else NW0) = s0 at h0
  split
  · rw [fnN]
    have h1 := parN_n it.params [] s0
    generalize parN it.params [] s0 = r at h1
    have h2 := sndN_n its it.at_ it.sends [] r.2
    generalize sndN its it.at_ [] it.sends r.2 = s1 at h2
    have h3 := stmsN_n its it.at_ it.body r.1 s1
    have h4 := hN.small.params
    have h5 := hN.small.sends
    have h6 := hN.cnt
    omega
  · omega
end Go.Sp
namespace Go.Proofs.YtkbiakajlfmakaaDoor
open Go.Fw
theorem us_one (l : List Sp.Us) : ∀ u ∈ l.flatMap encUs, u.oneCell' = true := by
  intro u hu
  obtain ⟨z, _, hz⟩ := List.mem_flatMap.1 hu
  simp only [encUs, List.mem_cons, List.not_mem_nil, or_false] at hz
  rcases hz with rfl | rfl | rfl <;> rfl
section
variable {src : List UInt8} {its : List Sp.Itm} {a : Option Addr} {cp : Nat} {xs : List Value}
set_option maxHeartbeats 32000000 in
theorem n_uses (I : Imm) (h : FE I its a cp xs) (hlen : src.length ≤ 4000) (hN : ∀ x ∈ its, Sp.ItN src x) :
    CalM Tryd.prog 26 #[.agg [.slice a its.length cp].toArray] I [] (fun v I' H' => H' = [] ∧ ∃ ua up, v = .slice ua (Sp.usesN its).length up ∧ RowI I' 56 3 (.slice ua (Sp.usesN its).length up) (Sp.usesN its).length ((Sp.usesN its).flatMap encUs)) := by
  refine CalM.of fun w E hm => enter (N := 20) Tryd.func26 rfl [(0, .agg [.slice a its.length cp].toArray)] args1 rfl ?_
  have hfew := h.few
  repeat' (first
    | (refine m_box (d := 1) hm (by rfl) (by rfl) (by rfl) (by rfl) ?_; clear hm; intro b1 _ hm)
    | refine m_load1 hm (by rfl) (by rfl) (by rfl) (by first | exact gt0 | exact gt1 | exact gt2 | exact gt3 | exact gt4 | exact gt5 | exact gt6) (by rfl) ?_
    | refine op_move (by rfl) (by rfl) (by rfl) ?_
    | refine op_assign (by rfl) (by rfl) (by rfl) ?_
    | refine op_len_slice (by rfl) (by rfl) (by rfl) ?_
    | refine op_fieldAddr (by rfl) (by rfl) (by rfl) ?_
    | refine wl_nil ?_
    | refine at_then_normal ?_
    | refine wc_seq ?_
    | refine wc_region ?_
    | refine wc_block ?_)
  all_goals try (exfalso; omega)
  obtain ⟨I2, hle2, hm2, hpf⟩ := hm.freezeO
  clear hm
  have hm := hm2
  clear hm2
  refine wc_loop (fun x : NX => [(1, ptr b1), (3, .slice x.ua (Sp.usesTo its x.k).length x.up), (7, nt its.length), (8, nt x.k)])
    (fun x w' => Mem E x.I [.row (.slice x.ua (Sp.usesTo its x.k).length x.up) 56 3 (Sp.usesTo its x.k).length ((Sp.usesTo its x.k).flatMap encUs)] w' ∧ Le I2 x.I ∧ x.k ≤ its.length ∧ (Sp.usesTo its x.k).length ≤ x.k * 900000000) (fun x => its.length - x.k) ⟨0, I2, none, 0, none, 0, none, 0⟩
    (by exact ⟨rfl, rfl, rfl, rfl, trivial⟩) ⟨hm.nil 56 3, Le.refl _, Nat.zero_le _, Nat.zero_le _⟩ ?_
  clear hm
  rintro ⟨k, I3, _, _, _, _, ua1, up1⟩ w1 ⟨hm, hle3, hk, hn⟩
  dsimp only at hm hle3 hk hn ⊢
  have hpf3 := hpf.le hle3
  by_cases hlt : k < its.length
  · have hus := Sp.usesTo_succ its k
    have hwn := Sp.walk_few hN hlt
    have hwl : (Sp.walkN its k).us.length ≤ (Sp.walkN its k).n := by rw [Sp.NW.n]; omega
    have hc := n_walk k hlt b1 I3 hpf3 ((h.le hle2).le hle3) hlen hN
    generalize Sp.usesTo its k = us at hm hn hus ⊢
    generalize Sp.walkN its k = r at hc hus hwn hwl
    repeat' (first
      | (refine m_call (d := 13) hm (by rfl) (by rfl) (by rfl) pm0 hc ?_; clear hm; rintro _ I4 _ _ ⟨bc, pi, sc, sa, sp, da, dp, ua, up, rfl, rfl⟩ hleI4 hm; try simp only [setn] at hm; obtain ⟨I5, hle5, hm5, hobj⟩ := hm.freezeO; obtain ⟨I6, hle6, hm6, husr⟩ := hm5.freeze; clear hm hm5; have hm := hm6; clear hm6; have hobj6 := hobj.le hle6)
      | (refine m_appendI (d := 17) hm (by rfl) (by rfl) (by rfl) (by rfl) (by first | exact gt0 | exact gt1 | exact gt2 | exact gt3 | exact gt4 | exact gt5 | exact gt6) husr (us_one _) (by omega) (by omega) ?_; clear hm; intro a17 cp17 _ hm; try simp only [setn] at hm)
      | refine i_load1 hm (by rfl) (by rfl) (by rfl) (by assumption) (by rfl) ?_
      | refine op_move (by rfl) (by rfl) (by rfl) ?_
      | refine op_assign (by rfl) (by rfl) (by rfl) ?_
      | refine op_lss (by rfl) (by rfl) (by rfl) (by rfl) ?_
      | refine op_nilCheck (by rfl) (by rfl) (by rfl) ?_
      | refine op_add (by rfl) (by rfl) (by rfl) (by rfl) (by omega) ?_
      | refine op_fieldAddr (by rfl) (by rfl) (by rfl) ?_
      | refine wl_nil ?_
      | refine at_then_normal ?_
      | refine at_block_normal ?_
      | refine wc_seq ?_
      | refine wc_region ?_
      | refine wc_block ?_
      | refine wc_skip ?_
      | (refine wc_cond_dec (by rfl) (fun _ => ?_) (fun _ => ?_) <;> (try first | contradiction | (exfalso; omega))))
    all_goals try (exfalso; omega)
    refine at_round (⟨k + 1, I6, none, 0, none, 0, a17, cp17⟩ : NX) (by exact ⟨rfl, by rw [hus, List.length_append]; rfl, rfl, rfl, trivial⟩) ⟨?_, (((hle3.trans hleI4).trans hle5).trans hle6), by dsimp only; omega, by dsimp only; rw [hus, List.length_append]; omega⟩ (by dsimp only; omega)
    dsimp only
    rw [hus, List.length_append, List.flatMap_append]
    exact hm.tl.tl
  · obtain rfl : k = its.length := by omega
    repeat' (first
      | refine op_move (by rfl) (by rfl) (by rfl) ?_
      | refine op_assign (by rfl) (by rfl) (by rfl) ?_
      | refine op_lss (by rfl) (by rfl) (by rfl) (by rfl) ?_
      | refine wl_nil ?_
      | refine at_then_normal ?_
      | refine at_then_exit ?_
      | refine at_block_exit ?_
      | refine wc_seq ?_
      | refine wc_region ?_
      | refine wc_exit ?_
      | refine wc_ret ?_
      | refine at_ret1 (by rfl) (by rfl) ?_
      | (refine wc_cond_dec (by rfl) (fun _ => ?_) (fun _ => ?_) <;> (try first | contradiction | (exfalso; omega))))
    all_goals try (exfalso; omega)
    obtain ⟨I4, hle4, hm4, hrow⟩ := hm.freeze
    exact ⟨I4, [], ⟨rfl, _, _, rfl, hrow⟩, hm4.left (H := [])⟩
end
end Go.Proofs.YtkbiakajlfmakaaDoor
end
section
namespace Go.Proofs.YtkbiakajlfmakaaDoor
open Go.Fw
section
variable {src : List UInt8} {its : List Sp.Itm} {a : Option Addr} {cp : Nat} {xs : List Value}
set_option maxHeartbeats 16000000 in
theorem n_diags (i : Nat) (hi : i < its.length) (I : Imm) (h : FE I its a cp xs) (hlen : src.length ≤ 4000) (hN : ∀ x ∈ its, Sp.ItN src x) :
    CalM Tryd.prog 54 #[.agg [.slice a its.length cp].toArray, nt i] I [] (fun v I' H' => H' = [] ∧ ∃ da dp, v = .slice da (Sp.walkN its i).ds.length dp ∧ RowI I' 116 4 (.slice da (Sp.walkN its i).ds.length dp) (Sp.walkN its i).ds.length ((Sp.walkN its i).ds.flatMap encDg)) := by
  refine CalM.of fun w E hm => enter (N := 19) Tryd.func54 rfl [(0, .agg [.slice a its.length cp].toArray), (1, nt i)] args2 rfl ?_
  have hfew := h.few
  repeat' (first
    | (refine m_box (d := 2) hm (by rfl) (by rfl) (by rfl) (by rfl) ?_; clear hm; intro b2 _ hm)
    | refine m_load1 hm (by rfl) (by rfl) (by rfl) (by first | exact gt0 | exact gt1 | exact gt2 | exact gt3 | exact gt4 | exact gt5 | exact gt6) (by rfl) ?_
    | refine op_move (by rfl) (by rfl) (by rfl) ?_
    | refine op_assign (by rfl) (by rfl) (by rfl) ?_
    | refine op_pick_false (by rfl) (by rfl) (by rfl) (by rfl) ?_
    | refine op_lss (by rfl) (by rfl) (by rfl) (by rfl) ?_
    | refine op_geq (by rfl) (by rfl) (by rfl) (by rfl) ?_
    | refine op_len_slice (by rfl) (by rfl) (by rfl) ?_
    | refine op_fieldAddr (by rfl) (by rfl) (by rfl) ?_
    | refine wl_nil ?_
    | refine at_then_normal ?_
    | refine wc_seq ?_
    | refine wc_region ?_
    | refine wc_skip ?_
    | (refine wc_cond_dec (by rfl) (fun _ => ?_) (fun _ => ?_) <;> (try first | contradiction | (exfalso; omega))))
  all_goals try (exfalso; omega)
  obtain ⟨I2, hle2, hm2, hpf⟩ := hm.freezeO
  clear hm
  have hm := hm2
  clear hm2
  have hck := n_walk i hi b2 I2 hpf (h.le hle2) hlen hN
  generalize Sp.walkN its i = fin at hck ⊢
  repeat' (first
    | (refine m_call (d := 15) hm (by rfl) (by rfl) (by rfl) pm0 hck ?_; clear hm; rintro _ I4 _ _ ⟨bc, pi, sc, sa, sp, da, dp, ua, up, rfl, rfl⟩ hleI4 hm; try simp only [setn] at hm)
    | refine m_load1 hm (by rfl) (by rfl) (by rfl) (by first | exact gt0 | exact gt1 | exact gt2 | exact gt3 | exact gt4 | exact gt5 | exact gt6) (by rfl) ?_
    | refine op_assign (by rfl) (by rfl) (by rfl) ?_
    | refine op_nilCheck (by rfl) (by rfl) (by rfl) ?_
    | refine op_fieldAddr (by rfl) (by rfl) (by rfl) ?_
    | refine wl_nil ?_
    | refine at_then_normal ?_
    | refine wc_ret ?_
    | refine at_ret1 (by rfl) (by rfl) ?_)
  all_goals try (exfalso; omega)
  obtain ⟨I6, hle6, hm6, hrow⟩ := (hm.front 3 rfl).freeze
  exact ⟨I6, [], ⟨rfl, _, _, rfl, hrow⟩, hm6.left (H := [])⟩
end
end Go.Proofs.YtkbiakajlfmakaaDoor
end
section
namespace Go.Sp
theorem useAt_cons (u : Us) (l : List Us) (at_ : Int) : useAt (u :: l) at_ = match decide (u.fr ≤ at_) && decide (at_ < u.to) with | true => some u | false => useAt l at_ := by
  rw [useAt, List.find?_cons]; rfl
end Go.Sp
namespace Go.Proofs.YtkbiakajlfmakaaDoor
open Go.Fw
def useV : Option Sp.Us → Value
  | some u => .tuple #[.agg (encUs u).toArray, .bool true]
  | none => .tuple #[.agg [.int .i64 0, .int .i64 0, .int .i64 0].toArray, .bool false]
section
variable {src : List UInt8} {its : List Sp.Itm} {a : Option Addr} {cp : Nat} {xs : List Value}
set_option maxHeartbeats 16000000 in
theorem n_at (at_ : Int) (I : Imm) (h : FE I its a cp xs) (hlen : src.length ≤ 4000) (hN : ∀ x ∈ its, Sp.ItN src x) (hfw : (Sp.usesN its).length ≤ 100000000000) :
    CalM Tryd.prog 53 #[.agg [.slice a its.length cp].toArray, .int .i64 at_] I [] (fun v _ H' => v = useV (Sp.useAt (Sp.usesN its) at_) ∧ H' = []) := by
  refine CalM.of fun w E hm => enter (N := 28) Tryd.func53 rfl [(0, .agg [.slice a its.length cp].toArray), (1, .int .i64 at_)] args2 rfl ?_
  have hc := n_uses I h hlen hN
  generalize Sp.usesN its = us at hc hfw ⊢
  repeat' (first
    | (refine m_call (d := 9) hm (by rfl) (by rfl) (by rfl) pm0 hc ?_; clear hm; rintro _ I2 _ _ ⟨rfl, ua, up, rfl, hrow⟩ hleI2 hm; try simp only [setn] at hm)
    | (refine m_box (d := 2) hm (by rfl) (by rfl) (by rfl) (by rfl) ?_; clear hm; intro b2 _ hm)
    | (refine m_allocS (d := 4) hm (by rfl) (by rfl) ?_; clear hm; intro b4 _ hm)
    | refine m_loadAll hm (by rfl) (by rfl) (by rfl) (by first | exact gt0 | exact gt1 | exact gt2 | exact gt3 | exact gt4 | exact gt5 | exact gt6) (by rfl) ?_
    | refine op_move (by rfl) (by rfl) (by rfl) ?_
    | refine op_assign (by rfl) (by rfl) (by rfl) ?_
    | refine op_len_slice (by rfl) (by rfl) (by rfl) ?_
    | refine wl_nil ?_
    | refine at_then_normal ?_
    | refine wc_seq ?_
    | refine wc_region ?_
    | refine wc_block ?_)
  all_goals try (exfalso; omega)
  refine wc_loop (fun k : Nat => [(1, .int .i64 at_), (4, ptr b4), (9, .slice ua us.length up), (10, nt us.length), (11, nt k)])
    (fun k w' => Mem E I2 [.cell b4 [.int .i64 0, .int .i64 0, .int .i64 0] 56] w' ∧ k ≤ us.length ∧ Sp.useAt us at_ = Sp.useAt (us.drop k) at_) (fun k => us.length - k) 0
    (by exact ⟨rfl, rfl, rfl, rfl, rfl, trivial⟩) ⟨hm.snd, Nat.zero_le _, rfl⟩ ?_
  clear hm
  rintro k w1 ⟨hm, hk, hf⟩
  try dsimp only at hm hk hf ⊢
  by_cases hlt : k < us.length
  · have hg : us[k]? = some us[k] := List.getElem?_eq_getElem hlt
    have hd : us.drop k = us[k] :: us.drop (k + 1) := List.drop_eq_getElem_cons hlt
    rw [hd] at hf
    have hgk : us[((k : Nat) : Int).toNat]? = some us[k] := hg
    generalize us[k] = u at hg hf hgk
    rw [Sp.useAt_cons] at hf
    by_cases hu : u.fr ≤ at_ ∧ at_ < u.to
    · rw [decide_eq_true hu.1, decide_eq_true hu.2] at hf
      repeat' (first
        | (refine i_indexFlat (d := 13) (enc := encUs) (z := u) (by rfl) (by rfl) (by rfl) (by rfl) hrow (fun _ => rfl) (by omega) (by omega) hgk ?_; intro bt ot hpt)
        | (refine m_varS (d := 7) hm (by rfl) (by rfl) (by rfl) (by rfl) (by rfl) ?_; clear hm; intro b7 _ hm)
        | refine m_load1 hm (by rfl) (by rfl) (by rfl) (by first | exact gt0 | exact gt1 | exact gt2 | exact gt3 | exact gt4 | exact gt5 | exact gt6) (by rfl) ?_
        | refine m_loadAll hm (by rfl) (by rfl) (by rfl) (by first | exact gt0 | exact gt1 | exact gt2 | exact gt3 | exact gt4 | exact gt5 | exact gt6) (by rfl) ?_
        | refine i_loadN hm (by rfl) (by rfl) (by rfl) (by assumption) (by rfl) ?_
        | (refine m_storeAll hm (by rfl) (by rfl) (by rfl) (by rfl) (by first | exact gt0 | exact gt1 | exact gt2 | exact gt3 | exact gt4 | exact gt5 | exact gt6) (by rfl) (by rfl) (by rfl) ?_; clear hm; intro _ hm; try simp only [setn] at hm)
        | refine m_ret2_agg hm (by rfl) (by rfl) (by rfl) (by first | exact gt0 | exact gt1 | exact gt2 | exact gt3 | exact gt4 | exact gt5 | exact gt6) (by rfl) ?_
        | refine op_move (by rfl) (by rfl) (by rfl) ?_
        | refine op_assign (by rfl) (by rfl) (by rfl) ?_
        | refine op_pick_true (by rfl) (by rfl) (by rfl) (by rfl) ?_
        | refine op_lss (by rfl) (by rfl) (by rfl) (by rfl) ?_
        | refine op_leq (by rfl) (by rfl) (by rfl) (by rfl) ?_
        | refine op_fieldAddr (by rfl) (by rfl) (by rfl) ?_
        | (refine wl_split_dec (by rfl) (by rfl) (by rfl) (fun _ => ?_) (fun _ => ?_) <;> (try first | contradiction | (exfalso; omega)))
        | refine wl_nil ?_
        | refine at_then_normal ?_
        | refine at_then_ret ?_
        | refine at_block_ret ?_
        | refine wc_seq ?_
        | refine wc_region ?_
        | refine wc_block ?_
        | refine wc_skip ?_
        | refine wc_ret ?_
        | (refine wc_cond_dec (by rfl) (fun _ => ?_) (fun _ => ?_) <;> (try first | contradiction | (exfalso; omega))))
      all_goals try (exfalso; omega)
      exact ⟨I2, [], ⟨by rw [hf]; rfl, rfl⟩, hm.left (H := [])⟩
    · have hz : (decide (u.fr ≤ at_) && decide (at_ < u.to)) = false := by
        rw [Bool.and_eq_false_iff, decide_eq_false_iff_not, decide_eq_false_iff_not]
        omega
      rw [hz] at hf
      repeat' (first
        | (refine i_indexFlat (d := 13) (enc := encUs) (z := u) (by rfl) (by rfl) (by rfl) (by rfl) hrow (fun _ => rfl) (by omega) (by omega) hgk ?_; intro bt ot hpt)
        | (refine m_varS (d := 7) hm (by rfl) (by rfl) (by rfl) (by rfl) (by rfl) ?_; clear hm; intro b7 _ hm)
        | refine m_load1 hm (by rfl) (by rfl) (by rfl) (by first | exact gt0 | exact gt1 | exact gt2 | exact gt3 | exact gt4 | exact gt5 | exact gt6) (by rfl) ?_
        | refine i_loadN hm (by rfl) (by rfl) (by rfl) (by assumption) (by rfl) ?_
        | refine op_move (by rfl) (by rfl) (by rfl) ?_
        | refine op_pick_true (by rfl) (by rfl) (by rfl) (by rfl) ?_
        | refine op_pick_false (by rfl) (by rfl) (by rfl) (by rfl) ?_
        | refine op_lss (by rfl) (by rfl) (by rfl) (by rfl) ?_
        | refine op_leq (by rfl) (by rfl) (by rfl) (by rfl) ?_
        | refine op_add (by rfl) (by rfl) (by rfl) (by rfl) (by omega) ?_
        | refine op_fieldAddr (by rfl) (by rfl) (by rfl) ?_
        | refine wl_skip (by rfl) (by rfl) (by rfl) ?_
        | (refine wl_split_dec (by rfl) (by rfl) (by rfl) (fun _ => ?_) (fun _ => ?_) <;> (try first | contradiction | (exfalso; omega)))
        | refine wl_nil ?_
        | refine at_then_normal ?_
        | refine at_block_normal ?_
        | refine wc_seq ?_
        | refine wc_region ?_
        | refine wc_block ?_
        | refine wc_skip ?_
        | refine wc_cond_false (by rfl) ?_
        | (refine wc_cond_dec (by rfl) (fun _ => ?_) (fun _ => ?_) <;> (try first | contradiction | (exfalso; omega))))
      all_goals try (exfalso; omega)
      all_goals exact at_round (k + 1 : Nat) (by exact ⟨rfl, rfl, rfl, rfl, rfl, trivial⟩) ⟨hm.tl, by omega, hf⟩ (by omega)
  · obtain rfl : k = us.length := by omega
    rw [List.drop_length] at hf
    repeat' (first
      | (refine m_storeAll hm (by rfl) (by rfl) (by rfl) (by rfl) (by first | exact gt0 | exact gt1 | exact gt2 | exact gt3 | exact gt4 | exact gt5 | exact gt6) (by rfl) (by rfl) (by rfl) ?_; clear hm; intro _ hm; try simp only [setn] at hm)
      | refine m_ret2_agg hm (by rfl) (by rfl) (by rfl) (by first | exact gt0 | exact gt1 | exact gt2 | exact gt3 | exact gt4 | exact gt5 | exact gt6) (by rfl) ?_
      | refine op_assign (by rfl) (by rfl) (by rfl) ?_
      | refine op_lss (by rfl) (by rfl) (by rfl) (by rfl) ?_
      | refine op_struct (by rfl) (by rfl) (by rfl) (by rfl) ?_
      | refine wl_nil ?_
      | refine at_then_normal ?_
      | refine at_then_exit ?_
      | refine at_block_exit ?_
      | refine wc_seq ?_
      | refine wc_region ?_
      | refine wc_exit ?_
      | refine wc_ret ?_
      | (refine wc_cond_dec (by rfl) (fun _ => ?_) (fun _ => ?_) <;> (try first | contradiction | (exfalso; omega))))
    all_goals try (exfalso; omega)
    exact ⟨I2, [], ⟨by rw [hf]; rfl, rfl⟩, hm.left (H := [])⟩
end
end Go.Proofs.YtkbiakajlfmakaaDoor
end
section
namespace Go.Sp
theorem file_itN (s : List UInt8) : ∀ x ∈ fileItems s, ItN s x := by
  intro x hx
  have hst := file_its s x hx
  by_cases h0 : fileErr s = 0
  · have hl : s.length ≤ 4000 := by
      rw [fileErr] at h0
      split at h0
      · cases h0
      · omega
    rw [fileItems, if_pos h0, items] at hx
    obtain ⟨j, _, rfl⟩ := List.mem_map.1 hx
    have hp : (piece s (cuts s) j).length ≤ 4000 := by rw [piece, List.length_take, List.length_drop]; omega
    have hc := item_cnt (piece s (cuts s) j) ((cuts s).getD j 0 : Nat)
    exact ⟨item_small _ _ (by omega), by rw [itemAt]; omega, hst⟩
  · rw [fileItems, if_neg h0] at hx
    simp at hx
def namesT : List UInt8 := [102, 110, 32, 102, 40, 120, 58, 32, 123, 125, 41, 58, 32, 123, 125, 32, 123, 32, 108, 101, 116, 32, 121, 32, 61, 32, 120, 59, 32, 121, 32, 61, 32, 102, 40, 121, 41, 59, 32, 125]
theorem names_err : fileErr namesT = 0 := by decide +kernel
theorem names_len : (fileItems namesT).length = 1 := by decide +kernel
theorem names_at : (useAt (usesN (fileItems namesT)) 26).map (·.df) = some 5 := by decide +kernel
theorem names_uses : (usesN (fileItems namesT)).length = 4 := by decide +kernel
theorem names_ds : (walkN (fileItems namesT) 0).ds.length = 0 := by decide +kernel
theorem names_find : findV (fileItems namesT) 2 [102] = 0 := by decide +kernel
theorem usesN_len {src : List UInt8} {its : List Itm} (h : ∀ x ∈ its, ItN src x) (hf : its.length ≤ 64) : (usesN its).length ≤ 100000000000 := by
  have key : ∀ k, k ≤ its.length → (usesTo its k).length ≤ k * 900000000 := by
    intro k
    induction k with
    | zero => intro _; simp [usesTo]
    | succ k ih =>
      intro hk
      rw [usesTo_succ, List.length_append]
      have h1 := ih (by omega)
      have h2 := walk_few h (i := k) (by omega)
      have h3 : (walkN its k).us.length ≤ (walkN its k).n := by rw [NW.n]; omega
      omega
  have := key its.length (Nat.le_refl _)
  rw [usesN]
  omega
end Go.Sp
namespace Go.Proofs.YtkbiakajlfmakaaDoor
open Go.Fw
theorem fe_nm {I : Imm} {its : List Sp.Itm} {a : Option Addr} {cp : Nat} {xs : List Value} (h1 : RowI I 33 10 (.slice a its.length cp) its.length xs) (h2 : ItsAt I its xs) (h3 : its.length ≤ 30) : FE I its a cp xs := ⟨h1, h2, by omega⟩
set_option maxHeartbeats 16000000 in
theorem n_alive (I : Imm) (hC : Conv I) : CalM Tryd.prog 24 #[] I [] (fun v _ H' => v = .bool true ∧ H' = []) := by
  refine CalM.of fun w E hm => enter (N := 41) Tryd.func24 rfl [] args0 rfl ?_
  have h1 := fun (J : Imm) (m : Le I J) => p_file Sp.namesT J (hC.le m) (by decide)
  rw [Sp.names_err] at h1
  have g1 := Sp.file_itN Sp.namesT
  have l1 := Sp.names_len
  have e1 := Sp.names_at
  have e2 := Sp.names_uses
  have e3 := Sp.names_ds
  have e4 := Sp.names_find
  have ln : Sp.namesT.length ≤ 4000 := by decide
  generalize Sp.fileItems Sp.namesT = its at h1 g1 l1 e1 e2 e3 e4
  have hat := fun (J : Imm) (a cp xs) (h : FE J its a cp xs) => n_at 26 J h ln g1 (by omega)
  have hus := fun (J : Imm) (a cp xs) (h : FE J its a cp xs) => n_uses J h ln g1
  have hds := fun (J : Imm) (a cp xs) (h : FE J its a cp xs) => n_diags 0 (by omega) J h ln g1
  have hfi := fun (J : Imm) (a cp xs) (h : FE J its a cp xs) => n_find 2 [102] its J a cp xs h
  rw [e4] at hfi
  rw [e3] at hds
  rw [e2] at hus
  obtain ⟨u, hu, hud⟩ : ∃ u, Sp.useAt (Sp.usesN its) 26 = some u ∧ u.df = 5 := by
    cases h : Sp.useAt (Sp.usesN its) 26 with
    | none => rw [h] at e1; cases e1
    | some u => rw [h] at e1; exact ⟨u, rfl, Option.some.inj e1⟩
  rw [hu] at hat
  dsimp only [useV, encUs] at hat
  rw [hud] at hat
  repeat' (first
    | (refine m_call (d := 6) hm (by rfl) (by rfl) (by rfl) (by first | exact pm0 | exact pm1_0 | exact pm1_1 | exact pm1_2 | exact pm1_3 | exact pm2_0 | exact pm2_1 | exact pm2_2 | exact pm2_3 | exact pm2_4 | exact pm3_0 | exact pm3_1 | exact pm3_2) (h1 I (Le.refl _)) ?_; clear hm; rintro _ I2 _ _ ⟨a1, c1, x1, rfl, hr1, ht1, rfl⟩ hle hm; have hleI2 := hle; try simp only [setn] at hm; have q1 := fe_nm hr1 ht1 (by omega))
    | (refine m_call (d := 11) hm (by rfl) (by rfl) (by rfl) (by first | exact pm0 | exact pm1_0 | exact pm1_1 | exact pm1_2 | exact pm1_3 | exact pm2_0 | exact pm2_1 | exact pm2_2 | exact pm2_3 | exact pm2_4 | exact pm3_0 | exact pm3_1 | exact pm3_2) (hat I2 _ _ _ q1) ?_; clear hm; rintro _ I3 _ _ ⟨rfl, rfl⟩ hle hm; have hleI3 := hle; try simp only [setn] at hm)
    | (refine m_call (d := 26) hm (by rfl) (by rfl) (by rfl) (by first | exact pm0 | exact pm1_0 | exact pm1_1 | exact pm1_2 | exact pm1_3 | exact pm2_0 | exact pm2_1 | exact pm2_2 | exact pm2_3 | exact pm2_4 | exact pm3_0 | exact pm3_1 | exact pm3_2) (hus I3 _ _ _ (q1.le hleI3)) ?_; clear hm; rintro _ I4 _ _ ⟨rfl, ua, up, rfl, _⟩ hle hm; have hleI4 := hle; try simp only [setn] at hm)
    | (refine m_call (d := 32) hm (by rfl) (by rfl) (by rfl) (by first | exact pm0 | exact pm1_0 | exact pm1_1 | exact pm1_2 | exact pm1_3 | exact pm2_0 | exact pm2_1 | exact pm2_2 | exact pm2_3 | exact pm2_4 | exact pm3_0 | exact pm3_1 | exact pm3_2) (hds I4 _ _ _ ((q1.le hleI3).le hleI4)) ?_; clear hm; rintro _ I5 _ _ ⟨rfl, da, dp, rfl, _⟩ hle hm; have hleI5 := hle; try simp only [setn] at hm)
    | (refine m_call (d := 38) hm (by rfl) (by rfl) (by rfl) (by first | exact pm0 | exact pm1_0 | exact pm1_1 | exact pm1_2 | exact pm1_3 | exact pm2_0 | exact pm2_1 | exact pm2_2 | exact pm2_3 | exact pm2_4 | exact pm3_0 | exact pm3_1 | exact pm3_2) (hfi I5 _ _ _ (((q1.le hleI3).le hleI4).le hleI5)) ?_; clear hm; rintro _ I6 _ _ ⟨rfl, rfl⟩ hle hm; have hleI6 := hle; try simp only [setn] at hm)
    | (refine m_varS (d := 1) hm (by rfl) (by rfl) (by rfl) (by rfl) (by rfl) ?_; clear hm; intro b1 _ hm)
    | (refine m_varS (d := 3) hm (by rfl) (by rfl) (by rfl) (by rfl) (by rfl) ?_; clear hm; intro b3 _ hm)
    | refine m_load1 hm (by rfl) (by rfl) (by rfl) (by first | exact gt0 | exact gt1 | exact gt2 | exact gt3 | exact gt4 | exact gt5 | exact gt6) (by rfl) ?_
    | refine m_loadAll hm (by rfl) (by rfl) (by rfl) (by first | exact gt0 | exact gt1 | exact gt2 | exact gt3 | exact gt4 | exact gt5 | exact gt6) (by rfl) ?_
    | refine op_move (by rfl) (by rfl) (by rfl) ?_
    | refine op_assign (by rfl) (by rfl) (by rfl) ?_
    | refine op_pick_true (by rfl) (by rfl) (by rfl) (by rfl) ?_
    | refine op_eql (by rfl) (by rfl) (by rfl) (by rfl) ?_
    | refine op_len_slice (by rfl) (by rfl) (by rfl) ?_
    | refine op_extract (by rfl) (by rfl) (by rfl) (by rfl) ?_
    | refine op_fieldAddr (by rfl) (by rfl) (by rfl) ?_
    | refine wl_nil ?_
    | refine at_then_normal ?_
    | refine wc_seq ?_
    | refine wc_region ?_
    | refine wc_ret ?_
    | refine at_ret1 (by rfl) (by rfl) ?_)
  all_goals try (exfalso; omega)
  exact ⟨I6, [], ⟨rfl, rfl⟩, hm.left (H := [])⟩
end Go.Proofs.YtkbiakajlfmakaaDoor
end
section
namespace Go.Sp
/-- a token, so much further on. -/
def shift (n : Nat) (t : Tok) : Tok := ⟨t.kind, t.text, t.pos + n⟩
def tk (s : List UInt8) (p : Nat) : List Tok := toks s.length s p
theorem tk_step (s : List UInt8) (p : Nat) (hs : s ≠ []) : tk s p = (if (one s).1 > 0 then [⟨(one s).1, s.take (one s).2, p⟩] else []) ++ tk (s.drop (one s).2) (p + (one s).2) := by
  have hl := one_le s hs
  obtain ⟨f, hf⟩ : ∃ f, s.length = f + 1 := ⟨s.length - 1, by omega⟩
  have e : toks f (s.drop (one s).2) (p + (one s).2) = tk (s.drop (one s).2) (p + (one s).2) := toks_fuel _ _ _ _ (by simp; omega) (by simp)
  unfold tk at e ⊢
  rw [hf]
  simp only [toks, hs, if_false]
  rw [e]
  split <;> rfl
theorem tk_blanks (t : List UInt8) (q : Nat) : tk t q = tk (t.drop (t.takeWhile isBlank).length) (q + (t.takeWhile isBlank).length) := by
  cases t with
  | nil => rfl
  | cons c r =>
    by_cases hb : isBlank c = true
    · have h1 : one (c :: r) = (0, (List.takeWhile isBlank (c :: r)).length) := by
        simp only [one, hb, if_true, run, List.takeWhile_cons, List.length_cons, Nat.add_comm 1]
      rw [tk_step _ _ (by simp), h1]
      simp
    · rw [List.takeWhile_cons, if_neg hb]; simp
theorem tk_shift (n : Nat) : ∀ (f : Nat) (s : List UInt8) (p : Nat), toks f s (p + n) = (toks f s p).map (shift n)
  | 0, _, _ => rfl
  | f + 1, s, p => by
    simp only [toks]
    split
    · rfl
    · split
      · rw [List.map_cons, ← tk_shift n f, show p + n + (one s).2 = p + (one s).2 + n by omega]; rfl
      · rw [← tk_shift n f, show p + n + (one s).2 = p + (one s).2 + n by omega]
theorem tw_stop (F : UInt8 → Bool) (a : UInt8) (t : List UInt8) (ha : F a = false) (r : List UInt8) : (r ++ a :: t).takeWhile F = r.takeWhile F := by
  induction r with
  | nil => simp [ha]
  | cons c r ih => rw [List.cons_append, List.takeWhile_cons, List.takeWhile_cons, ih]
theorem tw_go (F : UInt8 → Bool) (m : List UInt8) (r : List UInt8) : (r ++ m).takeWhile F = (if r.all F then r ++ m.takeWhile F else r.takeWhile F) := by
  induction r with
  | nil => simp
  | cons c r ih =>
    rw [List.cons_append, List.takeWhile_cons, List.takeWhile_cons, ih, List.all_cons]
    cases F c <;> simp
    split <;> simp
theorem tk_join (t : List UInt8) : ∀ (n : Nat) (r : List UInt8) (p : Nat), r.length = n → tk (r ++ 10 :: t) p = tk r p ++ tk t (p + r.length + 1) := by
  have hB : isBlank 10 = true := by decide
  have hend : ∀ (r : List UInt8) (p : Nat), r.all isBlank = true → tk (r ++ 10 :: t) p = tk t (p + r.length + 1) := by
    intro r p hr
    rw [tk_blanks, tw_go, if_pos hr, List.takeWhile_cons, if_pos hB, tk_blanks t]
    congr 1
    · rw [List.length_append, List.drop_append, List.length_cons]; simp
    · rw [List.length_append, List.length_cons]; omega
  intro n
  induction n using Nat.strongRecOn with
  | _ n ih =>
    intro r p hn
    by_cases hr : r.all isBlank = true
    · rw [hend r p hr]
      have : tk r p = [] := by
        rw [tk_blanks]
        have h2 := tw_go isBlank [] r
        rw [List.append_nil, if_pos hr, List.takeWhile_nil, List.append_nil] at h2
        rw [h2, List.drop_length]
        rfl
      rw [this, List.nil_append]
    · have hne : r ≠ [] := fun e => hr (by rw [e]; rfl)
      have hl := one_le r hne
      have ho : one (r ++ 10 :: t) = one r := by
        cases r with
        | nil => exact absurd rfl hne
        | cons c r =>
          simp only [List.cons_append, one]
          have h1 := tw_stop noLine 10 t (by decide) r
          have h2 := tw_stop isWord 10 t (by decide) r
          have h3 := tw_stop isDigit 10 t (by decide) r
          by_cases hb : isBlank c = true
          · have h4 := tw_go isBlank (10 :: t) r
            rw [List.all_cons, hb, Bool.true_and] at hr
            rw [if_neg hr] at h4
            simp only [if_pos hb, run, h4]
          · simp only [if_neg hb, run, h1, h2, h3]
      have hd : (r ++ 10 :: t).drop (one r).2 = r.drop (one r).2 ++ 10 :: t := List.drop_append_of_le_length hl.2
      have htk : (r ++ 10 :: t).take (one r).2 = r.take (one r).2 := List.take_append_of_le_length hl.2
      rw [tk_step _ _ (by simp), ho, hd, htk, ih (r.drop (one r).2).length (by simp; omega) _ _ rfl, tk_step r p hne, List.append_assoc, List.length_drop,
        show p + (one r).2 + (r.length - (one r).2) + 1 = p + r.length + 1 by omega]
theorem tokens_join (s t : List UInt8) : tokens (s ++ [10] ++ t) = tokens s ++ (tokens t).map (shift (s.length + 1)) := by
  have h := tk_join t _ s 0 rfl
  have h2 := tk_shift (s.length + 1) t.length t 0
  rw [List.append_assoc, List.singleton_append]
  unfold tk at h
  unfold tokens
  rw [h, ← h2, Nat.zero_add, Nat.zero_add]
end Go.Sp
end
