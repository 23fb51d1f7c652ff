/- Own work: texts NsG, FwApp, NsH, one behind the other. -/
import Derived.Test.YtkbiakajlfmakaaGreatDoorNt24
section
namespace Go.Sp
/-- what is asked of an item. -/
structure ItN (src : List UInt8) (it : Itm) : Prop where
  small : it.small
  cnt : stmsCnt it.body ≤ 400000000
  st : ItS0 src it
def same (it x : Itm) : Bool := decide (x.kind = it.kind) && decide (x.name = it.name)
theorem any_take_none {its : List Itm} {i : Nat} {F : Itm → Bool} (hi : i ≤ its.length) (h : ∀ j x, j < i → its[j]? = some x → F x = false) : (its.take i).any F = false := by
  rw [List.any_eq_false]
  intro x hx
  obtain ⟨j, hj, rfl⟩ := List.getElem_of_mem hx
  rw [List.length_take] at hj
  rw [List.getElem_take, h j _ (by omega) (List.getElem?_eq_getElem (by omega))]
  simp
theorem any_take_some {its : List Itm} {i k : Nat} {F : Itm → Bool} {x : Itm} (hk : k < i) (hg : its[k]? = some x) (h : F x = true) : (its.take i).any F = true := by
  rw [List.any_eq_true]
  refine ⟨x, ?_, h⟩
  refine List.mem_of_getElem? (i := k) ?_
  rw [List.getElem?_take, if_pos hk, hg]
theorem drop_take10 {α : Type} (xs : List α) {i k : Nat} (hk : k < i) : (((xs.take (i * 10)).drop (k * 10)).take 10) = (xs.drop (k * 10)).take 10 := by
  rw [List.drop_take, List.take_take, Nat.min_eq_left (by omega)]
end Go.Sp
namespace Go.Proofs.YtkbiakajlfmakaaGreatDoor
open Go.Fw
section
variable {src : List UInt8} {its : List Sp.Itm} {a : Option Addr} {cp : Nat} {xs : List Value}
set_option maxHeartbeats 32000000 in
theorem n_walk (i : Nat) (hi : i < its.length) (bf : Nat) (I : Imm) (hfile : PtrI I bf 0 24 [.slice a its.length cp]) (h : FE I its a cp xs) (hlen : src.length ≤ 4000) (hN : ∀ x ∈ its, Sp.ItN src x) :
    CalM Tryz.prog 27 #[ptr bf, nt i] I [] (fun v _ H' => ∃ bc pi sc sa sp da dp ua up, v = ptr bc ∧ H' = NSt bc bf pi sc sa sp (Sp.walkN its i) da dp ua up) := by
  refine CalM.of fun w E hm => enter (N := 80) Tryz.func27 rfl [(0, ptr bf), (1, nt i)] args2 rfl ?_
  have hfew := h.few
  have hg := Sp.itNo_get hi
  obtain ⟨ci, hci, hat, hlc⟩ := h.get hg
  have hri := h.row
  have hIt := hN _ (Sp.itNo_mem hi)
  have hw : Sp.walkN its i = if (Sp.itNo its i).kind = 2 then Sp.fnN its (Sp.itNo its i) (if Sp.taken its i (Sp.itNo its i) = true then Sp.NW0.tell (Sp.itNo its i).mark 7 (Sp.itNo its i).name else Sp.NW0) else (if Sp.taken its i (Sp.itNo its i) = true then Sp.NW0.tell (Sp.itNo its i).mark 7 (Sp.itNo its i).name else Sp.NW0) := rfl
  generalize Sp.walkN its i = fin at hw ⊢
  generalize Sp.itNo its i = it at hg hat hIt hw
  obtain ⟨s0, hs0⟩ : ∃ s0, s0 = if Sp.taken its i it = true then Sp.NW0.tell it.mark 7 it.name else Sp.NW0 := ⟨_, rfl⟩
  rw [← hs0] at hw
  have hs0n : s0.n ≤ 1 := by
    rw [hs0]
    split
    · rw [Sp.tell_n]; exact Nat.le_refl _
    · exact Nat.zero_le _
  have htk : Sp.taken its i it = (decide (it.kind ≠ 3) && (decide (it.name ≠ []) && (its.take i).any (Sp.same it))) := rfl
  have hat0 := hat
  obtain ⟨pa, pc, sa9, sc9, ba, bc9, da9, dc9, xb, rfl, hpar, hsnd, hrb, hbs, _⟩ := hat
  obtain ⟨p, q, hst⟩ := hIt.st
  have hbd := (hst.sub _ _ hst.mark).1
  repeat' (first
  | (refine i_indexAddr (d:=15) (hr:=hri) (k:=?_); intro bt ot hpt; rw [show ((i : Int).toNat * 10) = i * 10 from rfl, hci] at hpt)
  | (refine wc_cut_regN 3 (fun _ : NX => [(0, ptr bf), (1, nt i), (5, ptr b17), (6, .pointer (some ⟨bt, ot, none⟩))]) (fun x w' => Mem E x.I (NSt b17 bf (.pointer (some ⟨bt, ot, none⟩)) [] x.sa x.sp s0 x.da x.dp x.ua x.up) w' ∧ Le I x.I) ?_ ?_)
  | (refine m_box (d:=17) hm (k:=?_); clear hm; intro b17 _ hm)
  | refine m_load1 hm (k:=?_)
  | refine i_load1 hm (k:=?_)
  | refine op_move (k:=?_)
  | refine op_assign (k:=?_)
  | refine op_nilCheck (k:=?_)
  | refine op_fieldAddr (k:=?_)
  | refine op_struct (k:=?_)
  | refine wl_nil ?_
  | refine at_then_normal ?_
  | refine wc_seq ?_
  | refine wc_region ?_)
  · have hm : Mem E I (NSt b17 bf (.pointer (some ⟨bt, ot, none⟩)) [] none 0 Sp.NW0 none 0 none 0) _ := (((hm.nil 65 4).swap.nil 142 2).swap.nil 39 3).swap
    refine ⟨?_⟩
    by_cases hk : it.kind ≠ 3 ∧ it.name ≠ []
    case neg =>
      have : s0 = Sp.NW0 := by
        rw [hs0, if_neg]
        rw [htk]
        intro h1
        simp only [Bool.and_eq_true, decide_eq_true_eq] at h1
        exact hk ⟨h1.1, h1.2.1⟩
      subst this
      by_cases h3 : it.kind = 3
      · skip
        repeat' (first
        | refine i_load1 hm (k:=?_)
        | refine op_move (k:=?_)
        | refine op_pick_false (k:=?_)
        | refine op_neq (k:=?_)
        | refine op_nilCheck (k:=?_)
        | refine op_fieldAddr (k:=?_)
        | refine wl_skip (k:=?_)
        | (refine wl_split_dec (h1:=fun _ => ?_) (h0:=fun _ => ?_)<;> (try first | contradiction | (exfalso; omega)))
        | refine wl_nil ?_
        | refine at_then_normal ?_
        | refine wc_seq ?_
        | refine wc_region ?_
        | refine wc_skip ?_
        | refine wc_cond_false (hf:=?_))
        all_goals try (exfalso; first | omega | contradiction)
        exact at_cut (⟨0, I, none, 0, none, 0, none, 0⟩ : NX) (by exact ⟨rfl, rfl, rfl, rfl, trivial⟩) ⟨hm, Le.refl _⟩
      · have hnn : it.name = [] := Classical.byContradiction fun h1 => hk ⟨h3, h1⟩
        repeat' (first
        | refine i_load1 hm (k:=?_)
        | refine op_move (k:=?_)
        | refine op_pick_true (k:=?_)
        | refine op_neq (k:=?_)
        | refine op_neq_str (k:=?_)
        | refine op_nilCheck (k:=?_)
        | refine op_fieldAddr (k:=?_)
        | (refine wl_split_dec (h1:=fun _ => ?_) (h0:=fun _ => ?_)<;> (try first | contradiction | (exfalso; omega)))
        | refine wl_nil ?_
        | refine at_then_normal ?_
        | refine wc_seq ?_
        | refine wc_region ?_
        | refine wc_skip ?_
        | (refine wc_cond_dec (ht:=fun _ => ?_) (hf:=fun _ => ?_)<;> (try first | contradiction | (exfalso; omega))))
        all_goals try (exfalso; first | omega | contradiction)
        exact at_cut (⟨0, I, none, 0, none, 0, none, 0⟩ : NX) (by exact ⟨rfl, rfl, rfl, rfl, trivial⟩) ⟨hm, Le.refl _⟩
    obtain ⟨hk3, hnn⟩ := hk
    repeat' (first
    | (refine i_sliceTo (d:=39) hri (k:=?_); intro hrs)
    | refine i_load1 hm (k:=?_)
    | refine op_move (k:=?_)
    | refine op_pick_true (k:=?_)
    | refine op_neq (k:=?_)
    | refine op_neq_str (k:=?_)
    | refine op_len_slice (k:=?_)
    | refine op_nilCheck (k:=?_)
    | refine op_fieldAddr (k:=?_)
    | (refine wl_split_dec (h1:=fun _ => ?_) (h0:=fun _ => ?_)<;> (try first | contradiction | (exfalso; omega)))
    | refine wl_nil ?_
    | refine at_then_normal ?_
    | refine wc_seq ?_
    | refine wc_region ?_
    | refine wc_block ?_
    | (refine wc_cond_dec (ht:=fun _ => ?_) (hf:=fun _ => ?_)<;> (try first | contradiction | (exfalso; omega))))
    all_goals try (exfalso; first | omega | contradiction)
    refine wc_loop (fun k : Nat => [(0, ptr bf), (1, nt i), (5, ptr b17), (6, .pointer (some ⟨bt, ot, none⟩)), (39, .slice a i cp), (40, nt i), (41, nt k)])
      (fun k w' => Mem E I (NSt b17 bf (.pointer (some ⟨bt, ot, none⟩)) [] none 0 Sp.NW0 none 0 none 0) w' ∧ k ≤ i ∧ ∀ j x, j < k → its[j]? = some x → Sp.same it x = false) (fun k => i - k) 0
      (by exact ⟨rfl, rfl, rfl, rfl, rfl, rfl, rfl, trivial⟩) ⟨hm, Nat.zero_le _, fun j _ hj => absurd hj (Nat.not_lt_zero j)⟩ ?_
    clear hm
    rintro k w1 ⟨hm, hk, hno⟩
    try dsimp only at hm hk hno ⊢
    by_cases hlt : k < i
    · have hgk : its[k]? = some its[k] := List.getElem?_eq_getElem (by omega)
      obtain ⟨cz, hcz, hatz, hl10⟩ := h.get hgk
      have hdt := Sp.drop_take10 xs hlt
      generalize its[k] = y at hgk hatz
      obtain ⟨pa3, pc3, sa3, sc3, ba3, bc3, da3, dc3, xb3, rfl, _⟩ := hatz
      cases hsm : Sp.same it y with
      | true =>
        have hsk := hsm
        simp only [Sp.same, Bool.and_eq_true, decide_eq_true_eq] at hsk
        obtain ⟨e1, e2⟩ := hsk
        have : s0 = Sp.NW0.tell it.mark 7 it.name := by
          rw [hs0, if_pos]
          rw [htk, Sp.any_take_some hlt hgk hsm, decide_eq_true hk3, decide_eq_true hnn]; rfl
        subst this
        have hT := n_tell (I := I) (bc := b17) (bf := bf) (pi := .pointer (some ⟨bt, ot, none⟩)) (sc := []) (sa := none) (sp := 0) (s := Sp.NW0) (da := none) (dp := 0) (ua := none) (up := 0) it.name it.mark 7 (by omega) (by decide)
        repeat' (first
        | (refine i_indexAddr (d:=43) (hr:=hrs) (k:=?_); intro bu ou hpu; rw [show ((k : Int).toNat * 10) = k * 10 from rfl, hdt, hcz] at hpu)
        | (refine wc_quiet_tail (id:=8) 9 (h:=?_))
        | (refine m_call (d:=70) hm (hp:=pm4_1) (hc:=hT) (k:=?_); clear hm; rintro _ I2 _ _ ⟨rfl, sa2, sp2, da2, dp2, ua2, up2, rfl⟩ hleI2 hm; try simp only [setn] at hm)
        | (refine m_varS (d:=8) hm (k:=?_); clear hm; intro b8 _ hm)
        | refine i_loadN hm (k:=?_)
        | refine mq_load1 hm (k:=?_)
        | refine iq_load1 hm (k:=?_)
        | refine op_lss (k:=?_)
        | refine wl_nil ?_
        | refine at_then_normal ?_
        | refine at_then_exit ?_
        | refine at_block_exit ?_
        | refine at_block_other (h:=?_)
        | refine wc_seq ?_
        | refine wc_region ?_
        | refine wc_block ?_
        | refine wc_skip ?_
        | refine wc_exit ?_
        | refine wc_quiet (h:=?_)
        | (refine wq_nil ?_; intro _ hkq; replace hm := hm.kept0 hkq; clear hkq)
        | (refine wq_nil_tail ?_; intro _ hkq; replace hm := hm.kept0 hkq; clear hkq)
        | (refine wc_cond_dec (ht:=fun _ => ?_) (hf:=fun _ => ?_)<;> (try first | contradiction | (exfalso; omega)))
        | refine q_move (k:=?_)
        | refine q_pick_true (k:=?_)
        | refine q_eql (k:=?_)
        | refine q_eql_str (k:=?_)
        | refine q_nilCheck (k:=?_)
        | refine q_fieldAddr (k:=?_)
        | (refine wq_split_dec (h1:=fun _ => ?_) (h0:=fun _ => ?_)<;> (try first | contradiction | (exfalso; omega))))
        all_goals try (exfalso; first | omega | contradiction)
        exact at_cut (⟨0, I2, sa2, sp2, da2, dp2, ua2, up2⟩ : NX) (by exact ⟨rfl, rfl, rfl, rfl, trivial⟩) ⟨hm.left, hleI2⟩
      | false =>
        have hne : ¬ (y.kind = it.kind ∧ y.name = it.name) := fun h1 => by
          rw [Sp.same, decide_eq_true h1.1, decide_eq_true h1.2] at hsm
          cases hsm
        repeat' (first
        | (refine i_indexAddr (d:=43) (hr:=hrs) (k:=?_); intro bu ou hpu; rw [show ((k : Int).toNat * 10) = k * 10 from rfl, hdt, hcz] at hpu)
        | (refine m_varS (d:=8) hm (k:=?_); clear hm; intro b8 _ hm)
        | refine i_loadN hm (k:=?_)
        | refine mq_load1 hm (k:=?_)
        | refine iq_load1 hm (k:=?_)
        | refine op_move (k:=?_)
        | refine op_lss (k:=?_)
        | refine op_add (k:=?_)
        | refine wl_nil ?_
        | refine at_then_normal ?_
        | refine at_block_normal ?_
        | refine wc_seq ?_
        | refine wc_region ?_
        | refine wc_block ?_
        | refine wc_skip ?_
        | refine wc_quiet (h:=?_)
        | (refine wq_nil ?_; intro _ hkq; replace hm := hm.kept0 hkq; clear hkq)
        | refine wc_cond_false (hf:=?_)
        | (refine wc_cond_dec (ht:=fun _ => ?_) (hf:=fun _ => ?_)<;> (try first | contradiction | (exfalso; omega)))
        | refine q_move (k:=?_)
        | refine q_pick_true (k:=?_)
        | refine q_pick_false (k:=?_)
        | refine q_eql (k:=?_)
        | refine q_eql_str (k:=?_)
        | refine q_nilCheck (k:=?_)
        | refine q_fieldAddr (k:=?_)
        | refine wq_skip (k:=?_)
        | (refine wq_split_dec (h1:=fun _ => ?_) (h0:=fun _ => ?_)<;> (try first | contradiction | (exfalso; omega))))
        all_goals try (exfalso; first | omega | contradiction | (exact hne ⟨by omega, by assumption⟩))
        all_goals refine at_round (k + 1 : Nat) (by exact ⟨rfl, rfl, rfl, rfl, rfl, rfl, rfl, trivial⟩) ⟨hm.tl, by omega, fun j x hj hg' => ?_⟩ (by omega)
        all_goals
          rcases Nat.lt_or_ge j k with hjk | hjk
          · exact hno j x hjk hg'
          · obtain rfl : j = k := by omega
            rw [hgk] at hg'
            obtain rfl := Option.some.inj hg'
            exact hsm
    · obtain rfl : k = i := by omega
      have : s0 = Sp.NW0 := by
        rw [hs0, if_neg]
        rw [htk, Sp.any_take_none (by omega) hno]
        simp
      subst this
      repeat' (first
      | refine op_lss (k:=?_)
      | refine wl_nil ?_
      | refine at_then_normal ?_
      | refine at_then_exit ?_
      | refine at_block_exit ?_
      | refine wc_seq ?_
      | refine wc_region ?_
      | refine wc_exit ?_
      | (refine wc_cond_dec (ht:=fun _ => ?_) (hf:=fun _ => ?_)<;> (try first | contradiction | (exfalso; omega))))
      all_goals try (exfalso; first | omega | contradiction)
      exact at_cut (⟨0, I, none, 0, none, 0, none, 0⟩ : NX) (by exact ⟨rfl, rfl, rfl, rfl, trivial⟩) ⟨hm, Le.refl _⟩
  · clear hm
    rintro ⟨_, I1, sa1, sp1, da1, dp1, ua1, up1⟩ w1 ⟨hm, hle1⟩
    dsimp only at hm hle1 ⊢
    have hpt1 := hpt.le hle1
    by_cases k2 : it.kind = 2
    · rw [if_pos k2] at hw
      have hC : NC I1 src p q its it bf a cp xs (.pointer (some ⟨bt, ot, none⟩)) := ⟨hfile.le hle1, h.le hle1, ⟨bt, ot, _, _, rfl, hpt1, hat0.le hle1⟩, hlen, hst, fun x hx => (hN x hx).st⟩
      have hF := n_fn (bc := b17) (s := s0) (sa := sa1) (sp := sp1) (da := da1) (dp := dp1) (ua := ua1) (up := up1) hC hIt.small hIt.cnt (by omega)
      rw [← hw] at hF
      repeat' (first
      | (refine m_call (d:=78) hm (hp:=pm4_0) (hc:=hF) (k:=?_); clear hm; rintro _ I2 _ _ ⟨rfl, sa2, sp2, da2, dp2, ua2, up2, rfl⟩ hleI2 hm; try simp only [setn] at hm)
      | refine i_load1 hm (k:=?_)
      | refine op_move (k:=?_)
      | refine op_assign (k:=?_)
      | refine op_eql (k:=?_)
      | refine op_nilCheck (k:=?_)
      | refine op_fieldAddr (k:=?_)
      | refine wl_nil ?_
      | refine at_then_normal ?_
      | refine wc_seq ?_
      | refine wc_region ?_
      | refine wc_ret ?_
      | refine at_ret1 (h:=?_)
      | (refine wc_cond_dec (ht:=fun _ => ?_) (hf:=fun _ => ?_)<;> (try first | contradiction | (exfalso; omega))))
      all_goals try (exfalso; first | omega | contradiction)
      exact ⟨I2, _, ⟨_, _, _, _, _, _, _, _, _, rfl, rfl⟩, hm⟩
    · rw [if_neg k2] at hw
      subst hw
      repeat' (first
      | refine i_load1 hm (k:=?_)
      | refine op_move (k:=?_)
      | refine op_assign (k:=?_)
      | refine op_eql (k:=?_)
      | refine op_nilCheck (k:=?_)
      | refine op_fieldAddr (k:=?_)
      | refine wl_nil ?_
      | refine at_then_normal ?_
      | refine wc_seq ?_
      | refine wc_region ?_
      | refine wc_skip ?_
      | refine wc_ret ?_
      | refine at_ret1 (h:=?_)
      | (refine wc_cond_dec (ht:=fun _ => ?_) (hf:=fun _ => ?_)<;> (try first | contradiction | (exfalso; omega))))
      all_goals try (exfalso; first | omega | contradiction)
      exact ⟨I1, _, ⟨_, _, _, _, _, _, _, _, _, rfl, rfl⟩, hm⟩
end
end Go.Proofs.YtkbiakajlfmakaaGreatDoor
end
section
namespace Go.Fw
open Go
section
variable {P : Program} {N : Nat} {ds : List Deferred} {Q : Exit → Act → World → Prop} {l : Log} {w : World} {ops : Array Oper} {os : List Oper}
variable {d : Nat} {ty : TypeId} {pos : String} {af : Array Edge} {g : Option (Nat × Bool)} {t : TypeId} {x y : Operand} {E : Ent} {I : Imm} {H : List HItem}
theorem run_append_none {e : TypeId} {sz by_ : Nat} [TySlice P t e] [he : Elem P e sz by_] {b : Option Addr} {n c c2 : Nat} (hc : n ≤ c) (ty : TypeId) :
    (Builtin.append_ #[t, t] ty #[.slice b n c, .slice none 0 c2]).run P w = .ok (.slice b n c) w := by
  obtain ⟨i, z, hi, hz, hs, hby, hzc, hpos⟩ := he.out
  have ht := run_underlying (P := P) (w := w) (TySlice.out (P := P) (t := t))
  cases b <;> simp [Builtin.append_, Builtin.firstCells, Builtin.lenOf, storeCells, ht, sizeOf, typeInfo, hi, hc]
theorem m_appendI {e : TypeId} {sz by_ : Nat} [TySlice P t e] [Elem P e sz by_] {i n m cp : Nat} {v : Value} {a : Option Addr} {xs ys : List Value} (hm : Mem E I H w)
    (hw : want ops l ⟨some d, .call ⟨.builtin .append, #[x, y], #[t, t]⟩, ty, pos, af, g⟩ = some true := by rfl) (hN : Nat.blt d N = true := by rfl)
    (hx : ev l x = some v := by rfl) (hy : ev l y = some (.slice a m cp) := by rfl) (hi : H[i]? = some (.row v e sz n xs) := by first | exact gt0 | exact gt1 | exact gt2 | exact gt3 | exact gt4 | exact gt5 | exact gt6) (hr : RowI I e sz (.slice a m cp) m ys) (h1 : ∀ u ∈ ys, u.oneCell' = true)
    (hlen : (n + m) * by_ ≤ 140737488355328 := by omega) (h63 : n + m ≤ 9223372036854775807 := by omega)
    (k : ∀ a' cp' w', Mem E I (H.set i (.row (.slice a' (n + m) cp') e sz (n + m) (xs ++ ys))) w' → WL P N ds ops Q os ((d, .slice a' (n + m) cp') :: l) w') :
    WL P N ds ops Q (⟨some d, .call ⟨.builtin .append, #[x, y], #[t, t]⟩, ty, pos, af, g⟩ :: os) l w := by
  have ho := hm.getRow hi
  obtain ⟨hl0, a', cap, hv, hmc, h3⟩ := hr
  obtain ⟨rfl, _, rfl⟩ := Value.slice.inj hv
  cases a with
  | none =>
    obtain rfl : m = 0 := Classical.byContradiction fun h => by obtain ⟨_, _, _, _, e1, _⟩ := h3 (by omega); cases e1
    obtain rfl : ys = [] := List.eq_nil_of_length_eq_zero (by simpa using hl0)
    obtain ⟨b, c, rfl⟩ := own_val ho
    have hnc := (own_cut ho (Nat.le_refl _)).2.1
    have hm' := hm.turn (h' := .row (.slice b (n + 0) c) e sz (n + 0) (xs ++ [])) hi (Kept.refl _ w) (by rw [Nat.add_zero, List.append_nil]; exact hm.ok _ (List.mem_of_getElem? hi)) (.inl rfl)
    refine wl_value (w' := w) (v := .slice b n c) rfl hw hN (fun c2 hc => ?_) (k b c w hm')
    have hr := run_append_none (P := P) (t := t) (w := w) (e := e) (b := b) (c2 := cp) hnc ty
    simp [execOp, resolve, invoke, builtin, hc.ev hx, hc.ev hy, hr]
  | some ad =>
    obtain ⟨v', w', hr, ho', hk, hb⟩ := run_append (P := P) (t := t) ho ad m cp ys hl0 (fun j u hj => by
        have hm0 : 0 < m := by
          rcases Nat.eq_zero_or_pos m with h | h
          · subst h
            rw [List.eq_nil_of_length_eq_zero (l := ys) (by simpa using hl0)] at hj
            cases hj
          · exact h
        obtain ⟨b, off, c, fr, e1, e2, e3⟩ := h3 hm0
        obtain rfl := Option.some.inj e1
        rw [Addr.add_lit]
        exact cell_of (hm.inv _ _ e2) (e3 j u hj)) h1 h63 hlen (Nat.zero_le _) ty
    obtain ⟨a2, c2, rfl⟩ := own_val ho'
    refine wl_value (w' := w') (v := .slice a2 (n + m) c2) rfl hw hN (fun c3 hc => ?_) (k a2 c2 w' (hm.turn hi hk ho' (hb.imp_right fun ⟨g, h1, h2⟩ => ⟨g, h1, h2⟩)))
    simp [execOp, resolve, invoke, builtin, hc.ev hx, hc.ev hy, hr]
end
end Go.Fw
end
section
namespace Go.Sp
theorem walk_few {src : List UInt8} {its : List Itm} (h : ∀ x ∈ its, ItN src x) {i : Nat} (hi : i < its.length) : (walkN its i).n ≤ 900000000 := by
  have hm := itNo_mem hi
  have hN := h _ hm
  rw [walkN]
  generalize itNo its i = it at hN
  have h0 : (if taken its i it = true then NW0.tell it.mark 7 it.name else NW0).n ≤ 1 := by
    split
    · rw [tell_n]; exact Nat.le_refl _
    · exact Nat.zero_le _
  generalize (if taken its i it = true then NW0.tell it.mark 7 it.name else NW0) = s0 at h0
  split
  · rw [fnN]
    have h1 := parN_n it.params [] s0
    generalize parN it.params [] s0 = r at h1
    have h2 := sndN_n its it.at_ it.sends [] r.2
    generalize sndN its it.at_ [] it.sends r.2 = s1 at h2
    have h3 := stmsN_n its it.at_ it.body r.1 s1
    have h4 := hN.small.params
    have h5 := hN.small.sends
    have h6 := hN.cnt
    omega
  · omega
end Go.Sp
namespace Go.Proofs.YtkbiakajlfmakaaGreatDoor
open Go.Fw
theorem us_one (l : List Sp.Us) : ∀ u ∈ l.flatMap encUs, u.oneCell' = true := by
  intro u hu
  obtain ⟨z, _, hz⟩ := List.mem_flatMap.1 hu
  simp only [encUs, List.mem_cons, List.not_mem_nil, or_false] at hz
  rcases hz with rfl | rfl | rfl <;> rfl
section
variable {src : List UInt8} {its : List Sp.Itm} {a : Option Addr} {cp : Nat} {xs : List Value}
set_option maxHeartbeats 32000000 in
theorem n_uses (I : Imm) (h : FE I its a cp xs) (hlen : src.length ≤ 4000) (hN : ∀ x ∈ its, Sp.ItN src x) :
    CalM Tryz.prog 12 #[.agg [.slice a its.length cp].toArray] I [] (fun v I' H' => H' = [] ∧ ∃ ua up, v = .slice ua (Sp.usesN its).length up ∧ RowI I' 39 3 (.slice ua (Sp.usesN its).length up) (Sp.usesN its).length ((Sp.usesN its).flatMap encUs)) := by
  refine CalM.of fun w E hm => enter (N := 20) Tryz.func12 rfl [(0, .agg [.slice a its.length cp].toArray)] args1 rfl ?_
  have hfew := h.few
  repeat' (first
  | (refine m_box (d:=1) hm (k:=?_); clear hm; intro b1 _ hm)
  | refine m_load1 hm (k:=?_)
  | refine op_move (k:=?_)
  | refine op_assign (k:=?_)
  | refine op_len_slice (k:=?_)
  | refine op_fieldAddr (k:=?_)
  | refine wl_nil ?_
  | refine at_then_normal ?_
  | refine wc_seq ?_
  | refine wc_region ?_
  | refine wc_block ?_)
  all_goals try (exfalso; omega)
  obtain ⟨I2, hle2, hm2, hpf⟩ := hm.freezeO
  clear hm
  have hm := hm2
  clear hm2
  refine wc_loop (fun x : NX => [(1, ptr b1), (3, .slice x.ua (Sp.usesTo its x.k).length x.up), (7, nt its.length), (8, nt x.k)])
    (fun x w' => Mem E x.I [.row (.slice x.ua (Sp.usesTo its x.k).length x.up) 39 3 (Sp.usesTo its x.k).length ((Sp.usesTo its x.k).flatMap encUs)] w' ∧ Le I2 x.I ∧ x.k ≤ its.length ∧ (Sp.usesTo its x.k).length ≤ x.k * 900000000) (fun x => its.length - x.k) ⟨0, I2, none, 0, none, 0, none, 0⟩
    (by exact ⟨rfl, rfl, rfl, rfl, trivial⟩) ⟨hm.nil 39 3, Le.refl _, Nat.zero_le _, Nat.zero_le _⟩ ?_
  clear hm
  rintro ⟨k, I3, _, _, _, _, ua1, up1⟩ w1 ⟨hm, hle3, hk, hn⟩
  dsimp only at hm hle3 hk hn ⊢
  have hpf3 := hpf.le hle3
  by_cases hlt : k < its.length
  · have hus := Sp.usesTo_succ its k
    have hwn := Sp.walk_few hN hlt
    have hwl : (Sp.walkN its k).us.length ≤ (Sp.walkN its k).n := by rw [Sp.NW.n]; omega
    have hc := n_walk k hlt b1 I3 hpf3 ((h.le hle2).le hle3) hlen hN
    generalize Sp.usesTo its k = us at hm hn hus ⊢
    generalize Sp.walkN its k = r at hc hus hwn hwl
    repeat' (first
    | (refine m_call (d:=13) hm (hp:=pm0) (hc:=hc) (k:=?_); clear hm; rintro _ I4 _ _ ⟨bc, pi, sc, sa, sp, da, dp, ua, up, rfl, rfl⟩ hleI4 hm; try simp only [setn] at hm; obtain ⟨I5, hle5, hm5, hobj⟩ := hm.freezeO; obtain ⟨I6, hle6, hm6, husr⟩ := hm5.freeze; clear hm hm5; have hm := hm6; clear hm6; have hobj6 := hobj.le hle6)
    | (refine m_appendI (d:=17) hm (hr:=husr) (h1:=us_one _) (k:=?_); clear hm; intro a17 cp17 _ hm; try simp only [setn] at hm)
    | refine i_load1 hm (k:=?_)
    | refine op_move (k:=?_)
    | refine op_assign (k:=?_)
    | refine op_lss (k:=?_)
    | refine op_nilCheck (k:=?_)
    | refine op_add (k:=?_)
    | refine op_fieldAddr (k:=?_)
    | refine wl_nil ?_
    | refine at_then_normal ?_
    | refine at_block_normal ?_
    | refine wc_seq ?_
    | refine wc_region ?_
    | refine wc_block ?_
    | refine wc_skip ?_
    | (refine wc_cond_dec (ht:=fun _ => ?_) (hf:=fun _ => ?_)<;> (try first | contradiction | (exfalso; omega))))
    all_goals try (exfalso; omega)
    refine at_round (⟨k + 1, I6, none, 0, none, 0, a17, cp17⟩ : NX) (by exact ⟨rfl, by rw [hus, List.length_append]; rfl, rfl, rfl, trivial⟩) ⟨?_, (((hle3.trans hleI4).trans hle5).trans hle6), by dsimp only; omega, by dsimp only; rw [hus, List.length_append]; omega⟩ (by dsimp only; omega)
    dsimp only
    rw [hus, List.length_append, List.flatMap_append]
    exact hm.tl.tl
  · obtain rfl : k = its.length := by omega
    repeat' (first
    | refine op_move (k:=?_)
    | refine op_assign (k:=?_)
    | refine op_lss (k:=?_)
    | refine wl_nil ?_
    | refine at_then_normal ?_
    | refine at_then_exit ?_
    | refine at_block_exit ?_
    | refine wc_seq ?_
    | refine wc_region ?_
    | refine wc_exit ?_
    | refine wc_ret ?_
    | refine at_ret1 (h:=?_)
    | (refine wc_cond_dec (ht:=fun _ => ?_) (hf:=fun _ => ?_)<;> (try first | contradiction | (exfalso; omega))))
    all_goals try (exfalso; omega)
    obtain ⟨I4, hle4, hm4, hrow⟩ := hm.freeze
    exact ⟨I4, [], ⟨rfl, _, _, rfl, hrow⟩, hm4.left (H := [])⟩
end
end Go.Proofs.YtkbiakajlfmakaaGreatDoor
end
