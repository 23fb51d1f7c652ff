/- Own work: texts NsG, FwApp, NsH, NsI, NsJ, NsK, FwIns, one behind the other. -/
import Derived.Test.YthmdffgiockcbaaGreatDoorRb26
import Derived.Shelf.Spec.SearchS
import Derived.Shelf.Spec.SlicesInsert
import Derived.Shelf.Spec.SlicesInsertGrow
section
namespace Go.Sp
structure ItN (src : List UInt8) (it : Itm) : Prop where
  small : it.small
  cnt : stmsCnt it.body ≤ 400000000
  st : ItS0 src it
def same (it x : Itm) : Bool := decide (x.kind = it.kind) && decide (x.name = it.name)
theorem any_take_none {its : List Itm} {i : Nat} {F : Itm → Bool} (hi : i ≤ its.length) (h : ∀ j x, j < i → its[j]? = some x → F x = false) : (its.take i).any F = false := by
  rw [List.any_eq_false]
  intro x hx
  obtain ⟨j, hj, rfl⟩ := List.getElem_of_mem hx
  rw [List.length_take] at hj
  rw [List.getElem_take, h j _ (by omega) (List.getElem?_eq_getElem (by omega))]
  simp
theorem any_take_some {its : List Itm} {i k : Nat} {F : Itm → Bool} {x : Itm} (hk : k < i) (hg : its[k]? = some x) (h : F x = true) : (its.take i).any F = true := by
  rw [List.any_eq_true]
  refine ⟨x, ?_, h⟩
  refine List.mem_of_getElem? (i := k) ?_
  rw [List.getElem?_take, if_pos hk, hg]
theorem drop_take10 {α : Type} (xs : List α) {i k : Nat} (hk : k < i) : (((xs.take (i * 10)).drop (k * 10)).take 10) = (xs.drop (k * 10)).take 10 := by
  rw [List.drop_take, List.take_take, Nat.min_eq_left (by omega)]
end Go.Sp
namespace Go.Proofs.YthmdffgiockcbaaGreatDoor
open Go.Fw
section
variable {src : List UInt8} {its : List Sp.Itm} {a : Option Addr} {cp : Nat} {xs : List Value}
set_option maxHeartbeats 32000000 in
theorem n_walk (i : Nat) (hi : i < its.length) (bf : Nat) (I : Imm) (hfile : PtrI I bf 0 25 [.slice a its.length cp]) (h : FE I its a cp xs) (hlen : src.length ≤ 4000) (hN : ∀ x ∈ its, Sp.ItN src x) :
    CalM Tryz.prog 52 #[ptr bf, nt i] I [] (fun v _ H' => ∃ bc pi sc sa sp da dp ua up, v = ptr bc ∧ H' = NSt bc bf pi sc sa sp (Sp.walkN its i) da dp ua up) := by
  refine CalM.of fun w E hm => enter (N := 80) Tryz.func52 rfl [(0, ptr bf), (1, nt i)] args2 rfl ?_
  have hfew := h.few
  have hg := Sp.itNo_get hi
  obtain ⟨ci, hci, hat, hlc⟩ := h.get hg
  have hri := h.row
  have hIt := hN _ (Sp.itNo_mem hi)
  have hw : Sp.walkN its i = if (Sp.itNo its i).kind = 2 then Sp.fnN its (Sp.itNo its i) (if Sp.taken its i (Sp.itNo its i) = true then Sp.NW0.tell (Sp.itNo its i).mark 7 (Sp.itNo its i).name else Sp.NW0) else (if Sp.taken its i (Sp.itNo its i) = true then Sp.NW0.tell (Sp.itNo its i).mark 7 (Sp.itNo its i).name else Sp.NW0) := rfl
  generalize Sp.walkN its i = fin at hw ⊢
  generalize Sp.itNo its i = it at hg hat hIt hw
  obtain ⟨s0, hs0⟩ : ∃ s0, s0 = if Sp.taken its i it = true then Sp.NW0.tell it.mark 7 it.name else Sp.NW0 := ⟨_, rfl⟩
  rw [← hs0] at hw
  have hs0n : s0.n ≤ 1 := by
    rw [hs0]
    split
    · rw [Sp.tell_n]; exact Nat.le_refl _
    · exact Nat.zero_le _
  have htk : Sp.taken its i it = (decide (it.kind ≠ 3) && (decide (it.name ≠ []) && (its.take i).any (Sp.same it))) := rfl
  have hat0 := hat
  obtain ⟨pa, pc, sa9, sc9, ba, bc9, da9, dc9, xb, rfl, hpar, hsnd, hrb, hbs, _⟩ := hat
  obtain ⟨p, q, hst⟩ := hIt.st
  have hbd := (hst.sub _ _ hst.mark).1
  repeat' (first|(refine i_indexAddr (d:=15) (hr:=hri) (k:=?_); intro bt ot hpt; rw [show ((i : Int).toNat * 10) = i * 10 from rfl, hci] at hpt)|(refine wc_cut_regN 3 (fun _ : NX => [(0, ptr bf), (1, nt i), (5, ptr b17), (6, .pointer (some ⟨bt, ot, none⟩))]) (fun x w' => Mem E x.I (NSt b17 bf (.pointer (some ⟨bt, ot, none⟩)) [] x.sa x.sp s0 x.da x.dp x.ua x.up) w' ∧ Le I x.I) ?_ ?_)|(refine m_box (d:=17) hm (k:=?_); clear hm; intro b17 _ hm)|refine m_load1 hm (k:=?_)|refine i_load1 hm (k:=?_)|refine op_move (k:=?_)|refine op_assign (k:=?_)|refine op_nilCheck (k:=?_)|refine op_fieldAddr (k:=?_)|refine op_struct (k:=?_)|refine wl_nil ?_|refine at_then_normal ?_|refine wc_seq ?_|refine wc_region ?_)
  · have hm : Mem E I (NSt b17 bf (.pointer (some ⟨bt, ot, none⟩)) [] none 0 Sp.NW0 none 0 none 0) _ := (((hm.nil 154 4).swap.nil 211 2).swap.nil 38 3).swap
    refine ⟨?_⟩
    by_cases hk : it.kind ≠ 3 ∧ it.name ≠ []
    case neg =>
      have : s0 = Sp.NW0 := by
        rw [hs0, if_neg]
        rw [htk]
        intro h1
        simp only [Bool.and_eq_true, decide_eq_true_eq] at h1
        exact hk ⟨h1.1, h1.2.1⟩
      subst this
      by_cases h3 : it.kind = 3
      · skip
        repeat' (first|refine i_load1 hm (k:=?_)|refine op_move (k:=?_)|refine op_pick_false (k:=?_)|refine op_neq (k:=?_)|refine op_nilCheck (k:=?_)|refine op_fieldAddr (k:=?_)|refine wl_skip (k:=?_)|(refine wl_split_dec (h1:=fun _ => ?_) (h0:=fun _ => ?_)<;> (try first | contradiction | (exfalso; omega)))|refine wl_nil ?_|refine at_then_normal ?_|refine wc_seq ?_|refine wc_region ?_|refine wc_skip ?_|refine wc_cond_false (hf:=?_))
        all_goals try (exfalso; first | omega | contradiction)
        exact at_cut (⟨0, I, none, 0, none, 0, none, 0⟩ : NX) (by exact ⟨rfl, rfl, rfl, rfl, trivial⟩) ⟨hm, Le.refl _⟩
      · have hnn : it.name = [] := Classical.byContradiction fun h1 => hk ⟨h3, h1⟩
        repeat' (first|refine i_load1 hm (k:=?_)|refine op_move (k:=?_)|refine op_pick_true (k:=?_)|refine op_neq (k:=?_)|refine op_neq_str (k:=?_)|refine op_nilCheck (k:=?_)|refine op_fieldAddr (k:=?_)|(refine wl_split_dec (h1:=fun _ => ?_) (h0:=fun _ => ?_)<;> (try first | contradiction | (exfalso; omega)))|refine wl_nil ?_|refine at_then_normal ?_|refine wc_seq ?_|refine wc_region ?_|refine wc_skip ?_|(refine wc_cond_dec (ht:=fun _ => ?_) (hf:=fun _ => ?_)<;> (try first | contradiction | (exfalso; omega))))
        all_goals try (exfalso; first | omega | contradiction)
        exact at_cut (⟨0, I, none, 0, none, 0, none, 0⟩ : NX) (by exact ⟨rfl, rfl, rfl, rfl, trivial⟩) ⟨hm, Le.refl _⟩
    obtain ⟨hk3, hnn⟩ := hk
    repeat' (first|(refine i_sliceTo (d:=39) hri (k:=?_); intro hrs)|refine i_load1 hm (k:=?_)|refine op_move (k:=?_)|refine op_pick_true (k:=?_)|refine op_neq (k:=?_)|refine op_neq_str (k:=?_)|refine op_len_slice (k:=?_)|refine op_nilCheck (k:=?_)|refine op_fieldAddr (k:=?_)|(refine wl_split_dec (h1:=fun _ => ?_) (h0:=fun _ => ?_)<;> (try first | contradiction | (exfalso; omega)))|refine wl_nil ?_|refine at_then_normal ?_|refine wc_seq ?_|refine wc_region ?_|refine wc_block ?_|(refine wc_cond_dec (ht:=fun _ => ?_) (hf:=fun _ => ?_)<;> (try first | contradiction | (exfalso; omega))))
    all_goals try (exfalso; first | omega | contradiction)
    refine wc_loop (fun k : Nat => [(0, ptr bf), (1, nt i), (5, ptr b17), (6, .pointer (some ⟨bt, ot, none⟩)), (39, .slice a i cp), (40, nt i), (41, nt k)])
      (fun k w' => Mem E I (NSt b17 bf (.pointer (some ⟨bt, ot, none⟩)) [] none 0 Sp.NW0 none 0 none 0) w' ∧ k ≤ i ∧ ∀ j x, j < k → its[j]? = some x → Sp.same it x = false) (fun k => i - k) 0
      (by exact ⟨rfl, rfl, rfl, rfl, rfl, rfl, rfl, trivial⟩) ⟨hm, Nat.zero_le _, fun j _ hj => absurd hj (Nat.not_lt_zero j)⟩ ?_
    clear hm
    rintro k w1 ⟨hm, hk, hno⟩
    try dsimp only at hm hk hno ⊢
    by_cases hlt : k < i
    · have hgk : its[k]? = some its[k] := List.getElem?_eq_getElem (by omega)
      obtain ⟨cz, hcz, hatz, hl10⟩ := h.get hgk
      have hdt := Sp.drop_take10 xs hlt
      generalize its[k] = y at hgk hatz
      obtain ⟨pa3, pc3, sa3, sc3, ba3, bc3, da3, dc3, xb3, rfl, _⟩ := hatz
      cases hsm : Sp.same it y with
      | true =>
        have hsk := hsm
        simp only [Sp.same, Bool.and_eq_true, decide_eq_true_eq] at hsk
        obtain ⟨e1, e2⟩ := hsk
        have : s0 = Sp.NW0.tell it.mark 7 it.name := by
          rw [hs0, if_pos]
          rw [htk, Sp.any_take_some hlt hgk hsm, decide_eq_true hk3, decide_eq_true hnn]; rfl
        subst this
        have hT := n_tell (I := I) (bc := b17) (bf := bf) (pi := .pointer (some ⟨bt, ot, none⟩)) (sc := []) (sa := none) (sp := 0) (s := Sp.NW0) (da := none) (dp := 0) (ua := none) (up := 0) it.name it.mark 7 (by omega) (by decide)
        repeat' (first|(refine i_indexAddr (d:=43) (hr:=hrs) (k:=?_); intro bu ou hpu; rw [show ((k : Int).toNat * 10) = k * 10 from rfl, hdt, hcz] at hpu)|(refine wc_quiet_tail (id:=8) 9 (h:=?_))|(refine m_call (d:=70) hm (hp:=pm4_1) (hc:=hT) (k:=?_); clear hm; rintro _ I2 _ _ ⟨rfl, sa2, sp2, da2, dp2, ua2, up2, rfl⟩ hleI2 hm; try simp only [setn] at hm)|(refine m_varS (d:=8) hm (k:=?_); clear hm; intro b8 _ hm)|refine i_loadN hm (k:=?_)|refine mq_load1 hm (k:=?_)|refine iq_load1 hm (k:=?_)|refine op_lss (k:=?_)|refine wl_nil ?_|refine at_then_normal ?_|refine at_then_exit ?_|refine at_block_exit ?_|refine at_block_other (h:=?_)|refine wc_seq ?_|refine wc_region ?_|refine wc_block ?_|refine wc_skip ?_|refine wc_exit ?_|refine wc_quiet (h:=?_)|(refine wq_nil ?_; intro _ hkq; replace hm := hm.kept0 hkq; clear hkq)|(refine wq_nil_tail ?_; intro _ hkq; replace hm := hm.kept0 hkq; clear hkq)|(refine wc_cond_dec (ht:=fun _ => ?_) (hf:=fun _ => ?_)<;> (try first | contradiction | (exfalso; omega)))|refine q_move (k:=?_)|refine q_pick_true (k:=?_)|refine q_eql (k:=?_)|refine q_eql_str (k:=?_)|refine q_nilCheck (k:=?_)|refine q_fieldAddr (k:=?_)|(refine wq_split_dec (h1:=fun _ => ?_) (h0:=fun _ => ?_)<;> (try first | contradiction | (exfalso; omega))))
        all_goals try (exfalso; first | omega | contradiction)
        exact at_cut (⟨0, I2, sa2, sp2, da2, dp2, ua2, up2⟩ : NX) (by exact ⟨rfl, rfl, rfl, rfl, trivial⟩) ⟨hm.left, hleI2⟩
      | false =>
        have hne : ¬ (y.kind = it.kind ∧ y.name = it.name) := fun h1 => by
          rw [Sp.same, decide_eq_true h1.1, decide_eq_true h1.2] at hsm
          cases hsm
        repeat' (first|(refine i_indexAddr (d:=43) (hr:=hrs) (k:=?_); intro bu ou hpu; rw [show ((k : Int).toNat * 10) = k * 10 from rfl, hdt, hcz] at hpu)|(refine m_varS (d:=8) hm (k:=?_); clear hm; intro b8 _ hm)|refine i_loadN hm (k:=?_)|refine mq_load1 hm (k:=?_)|refine iq_load1 hm (k:=?_)|refine op_move (k:=?_)|refine op_lss (k:=?_)|refine op_add (k:=?_)|refine wl_nil ?_|refine at_then_normal ?_|refine at_block_normal ?_|refine wc_seq ?_|refine wc_region ?_|refine wc_block ?_|refine wc_skip ?_|refine wc_quiet (h:=?_)|(refine wq_nil ?_; intro _ hkq; replace hm := hm.kept0 hkq; clear hkq)|refine wc_cond_false (hf:=?_)|(refine wc_cond_dec (ht:=fun _ => ?_) (hf:=fun _ => ?_)<;> (try first | contradiction | (exfalso; omega)))|refine q_move (k:=?_)|refine q_pick_true (k:=?_)|refine q_pick_false (k:=?_)|refine q_eql (k:=?_)|refine q_eql_str (k:=?_)|refine q_nilCheck (k:=?_)|refine q_fieldAddr (k:=?_)|refine wq_skip (k:=?_)|(refine wq_split_dec (h1:=fun _ => ?_) (h0:=fun _ => ?_)<;> (try first | contradiction | (exfalso; omega))))
        all_goals try (exfalso; first | omega | contradiction | (exact hne ⟨by omega, by assumption⟩))
        all_goals refine at_round (k + 1 : Nat) (by exact ⟨rfl, rfl, rfl, rfl, rfl, rfl, rfl, trivial⟩) ⟨hm.tl, by omega, fun j x hj hg' => ?_⟩ (by omega)
        all_goals
          rcases Nat.lt_or_ge j k with hjk | hjk
          · exact hno j x hjk hg'
          · obtain rfl : j = k := by omega
            rw [hgk] at hg'
            obtain rfl := Option.some.inj hg'
            exact hsm
    · obtain rfl : k = i := by omega
      have : s0 = Sp.NW0 := by
        rw [hs0, if_neg]
        rw [htk, Sp.any_take_none (by omega) hno]
        simp
      subst this
      repeat' (first|refine op_lss (k:=?_)|refine wl_nil ?_|refine at_then_normal ?_|refine at_then_exit ?_|refine at_block_exit ?_|refine wc_seq ?_|refine wc_region ?_|refine wc_exit ?_|(refine wc_cond_dec (ht:=fun _ => ?_) (hf:=fun _ => ?_)<;> (try first | contradiction | (exfalso; omega))))
      all_goals try (exfalso; first | omega | contradiction)
      exact at_cut (⟨0, I, none, 0, none, 0, none, 0⟩ : NX) (by exact ⟨rfl, rfl, rfl, rfl, trivial⟩) ⟨hm, Le.refl _⟩
  · clear hm
    rintro ⟨_, I1, sa1, sp1, da1, dp1, ua1, up1⟩ w1 ⟨hm, hle1⟩
    dsimp only at hm hle1 ⊢
    have hpt1 := hpt.le hle1
    by_cases k2 : it.kind = 2
    · rw [if_pos k2] at hw
      have hC : NC I1 src p q its it bf a cp xs (.pointer (some ⟨bt, ot, none⟩)) := ⟨hfile.le hle1, h.le hle1, ⟨bt, ot, _, _, rfl, hpt1, hat0.le hle1⟩, hlen, hst, fun x hx => (hN x hx).st⟩
      have hF := n_fn (bc := b17) (s := s0) (sa := sa1) (sp := sp1) (da := da1) (dp := dp1) (ua := ua1) (up := up1) hC hIt.small hIt.cnt (by omega)
      rw [← hw] at hF
      repeat' (first|(refine m_call (d:=78) hm (hp:=pm4_0) (hc:=hF) (k:=?_); clear hm; rintro _ I2 _ _ ⟨rfl, sa2, sp2, da2, dp2, ua2, up2, rfl⟩ hleI2 hm; try simp only [setn] at hm)|refine i_load1 hm (k:=?_)|refine op_move (k:=?_)|refine op_assign (k:=?_)|refine op_eql (k:=?_)|refine op_nilCheck (k:=?_)|refine op_fieldAddr (k:=?_)|refine wl_nil ?_|refine at_then_normal ?_|refine wc_seq ?_|refine wc_region ?_|refine wc_ret ?_|refine at_ret1 (h:=?_)|(refine wc_cond_dec (ht:=fun _ => ?_) (hf:=fun _ => ?_)<;> (try first | contradiction | (exfalso; omega))))
      all_goals try (exfalso; first | omega | contradiction)
      exact ⟨I2, _, ⟨_, _, _, _, _, _, _, _, _, rfl, rfl⟩, hm⟩
    · rw [if_neg k2] at hw
      subst hw
      repeat' (first|refine i_load1 hm (k:=?_)|refine op_move (k:=?_)|refine op_assign (k:=?_)|refine op_eql (k:=?_)|refine op_nilCheck (k:=?_)|refine op_fieldAddr (k:=?_)|refine wl_nil ?_|refine at_then_normal ?_|refine wc_seq ?_|refine wc_region ?_|refine wc_skip ?_|refine wc_ret ?_|refine at_ret1 (h:=?_)|(refine wc_cond_dec (ht:=fun _ => ?_) (hf:=fun _ => ?_)<;> (try first | contradiction | (exfalso; omega))))
      all_goals try (exfalso; first | omega | contradiction)
      exact ⟨I1, _, ⟨_, _, _, _, _, _, _, _, _, rfl, rfl⟩, hm⟩
end
end Go.Proofs.YthmdffgiockcbaaGreatDoor
end
section
namespace Go.Fw
open Go
section
variable {P : Program} {N : Nat} {ds : List Deferred} {Q : Exit → Act → World → Prop} {l : Log} {w : World} {ops : Array Oper} {os : List Oper}
variable {d : Nat} {ty : TypeId} {pos : String} {af : Array Edge} {g : Option (Nat × Bool)} {t : TypeId} {x y : Operand} {E : Ent} {I : Imm} {H : List HItem}
theorem run_append_none {e : TypeId} {sz by_ : Nat} [TySlice P t e] [he : Elem P e sz by_] {b : Option Addr} {n c c2 : Nat} (hc : n ≤ c) (ty : TypeId) :
    (Builtin.append_ #[t, t] ty #[.slice b n c, .slice none 0 c2]).run P w = .ok (.slice b n c) w := by
  obtain ⟨i, z, hi, hz, hs, hby, hzc, hpos⟩ := he.out
  have ht := run_underlying (P := P) (w := w) (TySlice.out (P := P) (t := t))
  cases b <;> simp [Builtin.append_, Builtin.firstCells, Builtin.lenOf, storeCells, ht, sizeOf, typeInfo, hi, hc]
theorem m_appendI {e : TypeId} {sz by_ : Nat} [TySlice P t e] [Elem P e sz by_] {i n m cp : Nat} {v : Value} {a : Option Addr} {xs ys : List Value} (hm : Mem E I H w)
    (hw : want ops l ⟨some d, .call ⟨.builtin .append, #[x, y], #[t, t]⟩, ty, pos, af, g⟩ = some true := by rfl) (hN : Nat.blt d N = true := by rfl)
    (hx : ev l x = some v := by rfl) (hy : ev l y = some (.slice a m cp) := by rfl) (hi : H[i]? = some (.row v e sz n xs) := by first | exact gt0 | exact gt1 | exact gt2 | exact gt3 | exact gt4 | exact gt5 | exact gt6) (hr : RowI I e sz (.slice a m cp) m ys) (h1 : ∀ u ∈ ys, u.oneCell' = true)
    (hlen : (n + m) * by_ ≤ 140737488355328 := by omega) (h63 : n + m ≤ 9223372036854775807 := by omega)
    (k : ∀ a' cp' w', Mem E I (H.set i (.row (.slice a' (n + m) cp') e sz (n + m) (xs ++ ys))) w' → WL P N ds ops Q os ((d, .slice a' (n + m) cp') :: l) w') :
    WL P N ds ops Q (⟨some d, .call ⟨.builtin .append, #[x, y], #[t, t]⟩, ty, pos, af, g⟩ :: os) l w := by
  have ho := hm.getRow hi
  obtain ⟨hl0, a', cap, hv, hmc, h3⟩ := hr
  obtain ⟨rfl, _, rfl⟩ := Value.slice.inj hv
  cases a with
  | none =>
    obtain rfl : m = 0 := Classical.byContradiction fun h => by obtain ⟨_, _, _, _, e1, _⟩ := h3 (by omega); cases e1
    obtain rfl : ys = [] := List.eq_nil_of_length_eq_zero (by simpa using hl0)
    obtain ⟨b, c, rfl⟩ := own_val ho
    have hnc := (own_cut ho (Nat.le_refl _)).2.1
    have hm' := hm.turn (h' := .row (.slice b (n + 0) c) e sz (n + 0) (xs ++ [])) hi (Kept.refl _ w) (by rw [Nat.add_zero, List.append_nil]; exact hm.ok _ (List.mem_of_getElem? hi)) (.inl rfl)
    refine wl_value (w' := w) (v := .slice b n c) rfl hw hN (fun c2 hc => ?_) (k b c w hm')
    have hr := run_append_none (P := P) (t := t) (w := w) (e := e) (b := b) (c2 := cp) hnc ty
    simp [execOp, resolve, invoke, builtin, hc.ev hx, hc.ev hy, hr]
  | some ad =>
    obtain ⟨v', w', hr, ho', hk, hb⟩ := run_append (P := P) (t := t) ho ad m cp ys hl0 (fun j u hj => by
        have hm0 : 0 < m := by
          rcases Nat.eq_zero_or_pos m with h | h
          · subst h
            rw [List.eq_nil_of_length_eq_zero (l := ys) (by simpa using hl0)] at hj
            cases hj
          · exact h
        obtain ⟨b, off, c, fr, e1, e2, e3⟩ := h3 hm0
        obtain rfl := Option.some.inj e1
        rw [Addr.add_lit]
        exact cell_of (hm.inv _ _ e2) (e3 j u hj)) h1 h63 hlen (Nat.zero_le _) ty
    obtain ⟨a2, c2, rfl⟩ := own_val ho'
    refine wl_value (w' := w') (v := .slice a2 (n + m) c2) rfl hw hN (fun c3 hc => ?_) (k a2 c2 w' (hm.turn hi hk ho' (hb.imp_right fun ⟨g, h1, h2⟩ => ⟨g, h1, h2⟩)))
    simp [execOp, resolve, invoke, builtin, hc.ev hx, hc.ev hy, hr]
end
end Go.Fw
end
section
namespace Go.Sp
theorem walk_few {src : List UInt8} {its : List Itm} (h : ∀ x ∈ its, ItN src x) {i : Nat} (hi : i < its.length) : (walkN its i).n ≤ 900000000 := by
  have hm := itNo_mem hi
  have hN := h _ hm
  rw [walkN]
  generalize itNo its i = it at hN
  have h0 : (if taken its i it = true then NW0.tell it.mark 7 it.name else NW0).n ≤ 1 := by
    split
    · rw [tell_n]; exact Nat.le_refl _
    · exact Nat.zero_le _
  generalize (if taken its i it = true then NW0.tell it.mark 7 it.name else NW0) = s0 at h0
  split
  · rw [fnN]
    have h1 := parN_n it.params [] s0
    generalize parN it.params [] s0 = r at h1
    have h2 := sndN_n its it.at_ it.sends [] r.2
    generalize sndN its it.at_ [] it.sends r.2 = s1 at h2
    have h3 := stmsN_n its it.at_ it.body r.1 s1
    have h4 := hN.small.params
    have h5 := hN.small.sends
    have h6 := hN.cnt
    omega
  · omega
end Go.Sp
namespace Go.Proofs.YthmdffgiockcbaaGreatDoor
open Go.Fw
section
variable {src : List UInt8} {its : List Sp.Itm} {a : Option Addr} {cp : Nat} {xs : List Value}
end
end Go.Proofs.YthmdffgiockcbaaGreatDoor
end
section
namespace Go.Proofs.YthmdffgiockcbaaGreatDoor
open Go.Fw
section
variable {src : List UInt8} {its : List Sp.Itm} {a : Option Addr} {cp : Nat} {xs : List Value}
set_option maxHeartbeats 16000000 in
theorem n_diags (i : Nat) (hi : i < its.length) (I : Imm) (h : FE I its a cp xs) (hlen : src.length ≤ 4000) (hN : ∀ x ∈ its, Sp.ItN src x) :
    CalM Tryz.prog 54 #[.agg [.slice a its.length cp].toArray, nt i] I [] (fun v I' H' => H' = [] ∧ ∃ da dp, v = .slice da (Sp.walkN its i).ds.length dp ∧ RowI I' 154 4 (.slice da (Sp.walkN its i).ds.length dp) (Sp.walkN its i).ds.length ((Sp.walkN its i).ds.flatMap encDg)) := by
  refine CalM.of fun w E hm => enter (N := 19) Tryz.func54 rfl [(0, .agg [.slice a its.length cp].toArray), (1, nt i)] args2 rfl ?_
  have hfew := h.few
  repeat' (first|(refine m_box (d:=2) hm (k:=?_); clear hm; intro b2 _ hm)|refine m_load1 hm (k:=?_)|refine op_move (k:=?_)|refine op_assign (k:=?_)|refine op_pick_false (k:=?_)|refine op_lss (k:=?_)|refine op_geq (k:=?_)|refine op_len_slice (k:=?_)|refine op_fieldAddr (k:=?_)|refine wl_nil ?_|refine at_then_normal ?_|refine wc_seq ?_|refine wc_region ?_|refine wc_skip ?_|(refine wc_cond_dec (ht:=fun _ => ?_) (hf:=fun _ => ?_)<;> (try first | contradiction | (exfalso; omega))))
  all_goals try (exfalso; omega)
  obtain ⟨I2, hle2, hm2, hpf⟩ := hm.freezeO
  clear hm
  have hm := hm2
  clear hm2
  have hck := n_walk i hi b2 I2 hpf (h.le hle2) hlen hN
  generalize Sp.walkN its i = fin at hck ⊢
  repeat' (first|(refine m_call (d:=15) hm (hp:=pm0) (hc:=hck) (k:=?_); clear hm; rintro _ I4 _ _ ⟨bc, pi, sc, sa, sp, da, dp, ua, up, rfl, rfl⟩ hleI4 hm; try simp only [setn] at hm)|refine m_load1 hm (k:=?_)|refine op_assign (k:=?_)|refine op_nilCheck (k:=?_)|refine op_fieldAddr (k:=?_)|refine wl_nil ?_|refine at_then_normal ?_|refine wc_ret ?_|refine at_ret1 (h:=?_))
  all_goals try (exfalso; omega)
  obtain ⟨I6, hle6, hm6, hrow⟩ := (hm.front 3 rfl).freeze
  exact ⟨I6, [], ⟨rfl, _, _, rfl, hrow⟩, hm6.left (H := [])⟩
end
end Go.Proofs.YthmdffgiockcbaaGreatDoor
end
section
namespace Go.Sp
end Go.Sp
namespace Go.Proofs.YthmdffgiockcbaaGreatDoor
open Go.Fw
section
variable {src : List UInt8} {its : List Sp.Itm} {a : Option Addr} {cp : Nat} {xs : List Value}
end
end Go.Proofs.YthmdffgiockcbaaGreatDoor
end
section
namespace Go.Sp
theorem file_itN (s : List UInt8) : ∀ x ∈ fileItems s, ItN s x := by
  intro x hx
  have hst := file_its s x hx
  by_cases h0 : fileErr s = 0
  · have hl : s.length ≤ 4000 := by
      rw [fileErr] at h0
      split at h0
      · cases h0
      · omega
    rw [fileItems, if_pos h0, items] at hx
    obtain ⟨j, _, rfl⟩ := List.mem_map.1 hx
    have hp : (piece s (cuts s) j).length ≤ 4000 := by rw [piece, List.length_take, List.length_drop]; omega
    have hc := item_cnt (piece s (cuts s) j) ((cuts s).getD j 0 : Nat)
    exact ⟨item_small _ _ (by omega), by rw [itemAt]; omega, hst⟩
  · rw [fileItems, if_neg h0] at hx
    simp at hx
end Go.Sp
end
section
namespace Go.Fw
open Go
abbrev encS (s : List UInt8) : List Value := [str s]
theorem setCell_heap {w : World} {b o : Nat} {c : Array Value} {e : TypeId} {fr : Nat × Nat} {v : Value} (h : w.heap[b]? = some (.cells c e fr)) : (w.setCell ⟨b, o, none⟩ v).heap[b]? = some (.cells (c.setIfInBounds o v) e fr) := by
  simp [World.setCell, Array.getElem?_modify, h]
theorem setCell_kept (w : World) (b o : Nat) (v : Value) : Kept [b] w (w.setCell ⟨b, o, none⟩ v) :=
  ⟨rfl, rfl, rfl, by simp [World.setCell], fun k _ hk => by
    have : b ≠ k := fun e => hk (by rw [e]; simp)
    simp [World.setCell, Array.getElem?_modify, this]⟩
theorem setCells_kept (b : Nat) : ∀ (vs : List Value) (o : Nat) (w : World), Kept [b] w (w.setCells b o vs)
  | [], _, w => Kept.refl _ w
  | v :: vs, o, w => (setCell_kept w b o v).trans (setCells_kept b vs (o + 1) _)
theorem setCells_heap {b : Nat} {e : TypeId} {fr : Nat × Nat} : ∀ (vs : List Value) (o : Nat) (w : World) (c : List Value), w.heap[b]? = some (.cells c.toArray e fr) → o + vs.length ≤ c.length →
    (w.setCells b o vs).heap[b]? = some (.cells (c.take o ++ (vs ++ c.drop (o + vs.length))).toArray e fr)
  | [], o, w, c, h, _ => by
    show w.heap[b]? = _
    rw [h, List.nil_append, List.length_nil, Nat.add_zero, List.take_append_drop]
  | v :: vs, o, w, c, h, hl => by
    rw [List.length_cons] at hl
    have h1 := setCell_heap (o := o) (v := v) h
    rw [show c.toArray.setIfInBounds o v = (c.set o v).toArray by simp] at h1
    have h2 := setCells_heap vs (o + 1) _ (c.set o v) h1 (by rw [List.length_set]; omega)
    show ((w.setCell ⟨b, o, none⟩ v).setCells b (o + 1) vs).heap[b]? = _
    rw [h2]
    congr 2
    apply congrArg
    have e1 : (c.set o v).take (o + 1) = c.take o ++ [v] := by
      rw [List.take_set, List.take_succ_eq_append_getElem (by omega), List.set_append, if_neg (by rw [List.length_take]; omega), List.length_take, Nat.min_eq_left (by omega), Nat.sub_self]
      rfl
    have e2 : (c.set o v).drop (o + 1 + vs.length) = c.drop (o + 1 + vs.length) := by
      rw [List.drop_set, if_pos (by omega)]
    rw [e1, e2, List.length_cons, show o + (vs.length + 1) = o + 1 + vs.length by omega, List.append_assoc, List.cons_append, List.nil_append, List.cons_append]
theorem Kept.drewN : ∀ (q : Nat) (w : World), Kept [] w (w.drewN q)
  | q, w => ⟨rfl, rfl, rfl, Nat.le_refl _, fun _ _ _ => rfl⟩
theorem cell_row {w : World} {g cap n sz : Nat} {e : TypeId} {cur : Array Value} {xs : List Value} (hg : w.heap[g]? = some (.cells cur e (0, 0))) (ht : cur.toList.take (n * sz) = xs) {j : Nat} {v : Value} (h : xs[j]? = some v) : w.cell? ⟨g, 0 + j, none⟩ = some v := by
  rw [Nat.zero_add]
  refine cell_of hg ?_
  rw [← ht, List.getElem?_take] at h
  split at h
  · simpa using h
  · cases h
theorem flat_one {α : Type} (f : α → Value) (l : List α) : l.flatMap (fun a => [f a]) = l.map f := by
  induction l with
  | nil => rfl
  | cons a l ih => rw [List.flatMap_cons, ih]; rfl
section
open Go.Sp (Srt insT addE)
theorem bytes_lt : ∀ (x y : List UInt8), Op.bytesLess x y = decide (x < y)
  | [], [] => by simp [Op.bytesLess]
  | _ :: _, [] => by simp [Op.bytesLess]
  | [], _ :: _ => by simp [Op.bytesLess]
  | a :: x, b :: y => by
    rw [Op.bytesLess, bytes_lt x y]
    simp only [List.cons_lt_cons_iff]
    by_cases h1 : a < b <;> by_cases h2 : a = b <;> by_cases h3 : x < y <;> simp [h1, h2, h3]
def posE (l : List (List UInt8)) (s : List UInt8) : Nat := (l.takeWhile (fun x => decide (x < s))).length
theorem pos_spec {s : List UInt8} : ∀ {l : List (List UInt8)}, Srt l → (∀ j x, j < posE l s → l[j]? = some x → x < s) ∧ (∀ j x, posE l s ≤ j → l[j]? = some x → ¬ x < s) ∧ posE l s ≤ l.length
  | [], _ => ⟨fun j x _ h => by simp at h, fun j x _ h => by simp at h, Nat.le_refl _⟩
  | a :: l, h => by
    obtain ⟨h1, h2⟩ := List.pairwise_cons.1 h
    obtain ⟨i1, i2, i3⟩ := pos_spec (s := s) h2
    by_cases ha : a < s
    · have e : posE (a :: l) s = posE l s + 1 := by simp [posE, List.takeWhile_cons, ha]
      rw [e]
      refine ⟨fun j x hj hx => ?_, fun j x hj hx => ?_, by rw [List.length_cons]; omega⟩
      · cases j with
        | zero => simp only [List.getElem?_cons_zero, Option.some.injEq] at hx; rw [← hx]; exact ha
        | succ j => exact i1 j x (by omega) (by simpa using hx)
      · cases j with
        | zero => omega
        | succ j => exact i2 j x (by omega) (by simpa using hx)
    · have e : posE (a :: l) s = 0 := by simp [posE, List.takeWhile_cons, ha]
      rw [e]
      refine ⟨fun j x hj hx => by omega, fun j x hj hx => ?_, Nat.zero_le _⟩
      cases j with
      | zero => simp only [List.getElem?_cons_zero, Option.some.injEq] at hx; rw [← hx]; exact ha
      | succ j =>
        have hm := List.mem_of_getElem? (show l[j]? = some x by simpa using hx)
        exact fun hxs => ha (Sp.nlt_trans (h1 x hm) hxs)
theorem pos_found {l : List (List UInt8)} {s : List UInt8} (h : Srt l) : l[posE l s]? = some s ↔ s ∈ l := by
  obtain ⟨h1, h2, h3⟩ := pos_spec (s := s) h
  constructor
  · exact fun e => List.mem_of_getElem? e
  · intro hm
    obtain ⟨j, hj, rfl⟩ := List.getElem_of_mem hm
    have hg := List.getElem?_eq_getElem hj
    have h4 : posE l l[j] ≤ j := by
      rcases Nat.lt_or_ge j (posE l l[j]) with h5 | h5
      · exact absurd (h1 j _ h5 hg) (Sp.nlt_irrefl _)
      · exact h5
    have hk : posE l l[j] < l.length := by omega
    have hgk := List.getElem?_eq_getElem hk
    have h5 := h2 _ _ (Nat.le_refl _) hgk
    rcases Nat.lt_or_ge (posE l l[j]) j with h6 | h6
    · exact absurd (List.pairwise_iff_getElem.1 h _ _ hk hj h6) h5
    · have : posE l l[j] = j := by omega
      rw [this]; exact hg
end
section
variable {P : Program} {ρ : Shelf.Ren}
theorem m_search (L : Proofs.Lays2.n26 P ρ) {I : Imm} {ty : TypeId} {l : List (List UInt8)} {a : Option Addr} {cp : Nat} (s : List UInt8) (hs : Sp.Srt l) (hn : l.length ≤ 1099511627776) :
    CalR P (ρ.f 26) #[.slice a l.length cp, str s] I [.row (.slice a l.length cp) ty 1 l.length (l.flatMap encS)] (.tuple #[.int .i64 (posE l s : Nat), .bool (decide (s ∈ l))]) := by
  refine ⟨fun w hI hH => ?_⟩
  have ho : w.ownsRow 0 ty 1 (.slice a l.length cp) l.length (l.flatMap encS) := hH _ List.mem_cons_self
  rcases ho.2 with ⟨hv, h0⟩ | ⟨g, cap, cur, hv, _, hg, hc, hcm, hsz, ht⟩
  · injection hv with e1 e2 e3
    subst e1; subst e3
    have hl : l = [] := List.eq_nil_of_length_eq_zero h0
    subst hl
    refine ⟨Calls.mono (Proofs.Any2.slices_BinarySearch_string_empty L none 0 ⟨s.toArray⟩ w) (fun e w' q => ?_)⟩
    obtain ⟨rfl, rfl⟩ := q
    exact ⟨rfl, Kept.refl _ _⟩
  · injection hv with e1 e2 e3
    subst e1; subst e3
    rw [Nat.mul_one] at ht
    have hcell : ∀ j, j < l.length → w.cell? ⟨g, 0 + j, none⟩ = some (.string ⟨(l.getD j []).toArray⟩) := fun j hj => by
      refine cell_row (cap := cp) (n := l.length) (sz := 1) (xs := l.flatMap encS) hg (by rw [Nat.mul_one]; exact ht) ?_
      rw [flat_one, List.getElem?_map, List.getElem?_eq_getElem hj, List.getD_eq_getElem?_getD, List.getElem?_eq_getElem hj]; rfl
    obtain ⟨p1, p2, p3⟩ := pos_spec (s := s) hs
    have hless : (fun t => Op.bytesLess (⟨(l.getD t []).toArray⟩ : ByteArray).toList (⟨s.toArray⟩ : ByteArray).toList) = fun t => decide (l.getD t [] < s) := by
      funext t; rw [str_toList, str_toList, bytes_lt]
    have hb := Lib.bsGo_spec (fun t => decide (t < l.length) && decide (l.getD t [] < s)) (posE l s) (fun t ht2 => by
      have hlt : t < l.length := by omega
      have := p1 t _ ht2 (List.getElem?_eq_getElem hlt)
      rw [Bool.and_eq_true, decide_eq_true_eq, decide_eq_true_eq, List.getD_eq_getElem?_getD, List.getElem?_eq_getElem hlt]
      exact ⟨hlt, this⟩) (fun t ht2 => by
      rw [Bool.and_eq_false_iff, decide_eq_false_iff_not, decide_eq_false_iff_not]
      rcases Nat.lt_or_ge t l.length with hlt | hlt
      · right
        rw [List.getD_eq_getElem?_getD, List.getElem?_eq_getElem hlt]
        exact p2 t _ ht2 (List.getElem?_eq_getElem hlt)
      · left; omega) l.length 0 l.length (by omega) (by omega) p3
    have hcongr : ∀ (f lo hi : Nat), hi ≤ l.length → Lib.bsGo (fun t => decide (l.getD t [] < s)) f lo hi = Lib.bsGo (fun t => decide (t < l.length) && decide (l.getD t [] < s)) f lo hi := by
      intro f
      induction f with
      | zero => intro lo hi _; rfl
      | succ f ih =>
        intro lo hi hhi
        unfold Lib.bsGo
        by_cases h : lo < hi
        · rw [if_pos h, if_pos h, ih _ _ hhi, ih _ _ (by omega), decide_eq_true (show (lo + hi) / 2 < l.length by omega), Bool.true_and]
        · rw [if_neg h, if_neg h]
    have hres := Proofs.Any2.slices_BinarySearch_string L g 0 l.length cp (fun j => ⟨(l.getD j []).toArray⟩) ⟨s.toArray⟩ w (by omega) hcell
    rw [hless, hcongr _ _ _ (Nat.le_refl _), hb] at hres
    refine ⟨Calls.mono hres (fun e w' q => ?_)⟩
    obtain ⟨rfl, qq, rfl⟩ := q
    refine ⟨?_, Kept.drewN qq w⟩
    have hfd : decide (posE l s < l.length ∧ (⟨(l.getD (posE l s) []).toArray⟩ : ByteArray) = ⟨s.toArray⟩) = decide (s ∈ l) := by
      rw [decide_eq_decide, ← pos_found hs]
      constructor
      · rintro ⟨h1, h2⟩
        have h3 : l.getD (posE l s) [] = s := by
          have := congrArg ByteArray.toList h2
          rwa [str_toList, str_toList] at this
        rw [List.getElem?_eq_getElem h1]
        rw [List.getD_eq_getElem?_getD, List.getElem?_eq_getElem h1] at h3
        exact congrArg some h3
      · intro h
        obtain ⟨h1, h2⟩ := List.getElem?_eq_some_iff.1 h
        exact ⟨h1, by rw [List.getD_eq_getElem?_getD, h]; rfl⟩
    rw [hfd]
theorem Mem.turn2 {E : Ent} {I : Imm} {w w' : World} {h h' v : HItem} (hm : Mem E I [h, v] w) (k : Kept h.blk.toList w w') (ho : h'.ok w') (hb : h'.blk = h.blk ∨ ∃ g, h'.blk = some g ∧ w.heap.size ≤ g) : Mem E I [h'] w' :=
  (hm.turn (i := 0) rfl k ho hb).hd
theorem zc_len (n : Nat) : (Builtin.zeroCells (Value.string ⟨#[]⟩).cells n).toList.length = n := by simp [Builtin.zeroCells, Value.cells]
theorem m_insert (L : Proofs.Lays2.n22 P ρ) {I : Imm} {ty : TypeId} (hty : ρ.t 9 = ty) {n k vb cp : Nat} {a : Option Addr} {xs : List Value} (u : List UInt8) (hk : k ≤ n) (hn : n ≤ 1000000000000) (h1 : xs.all (·.oneCell') = true) :
    CalM P (ρ.f 22) #[.slice a n cp, .int .i64 k, .slice (some ⟨vb, 0, none⟩) 1 1] I [.row (.slice a n cp) ty 1 n xs, .row (.slice (some ⟨vb, 0, none⟩) 1 1) ty 1 1 [str u]]
      (fun v _ H' => ∃ a' cp', v = .slice a' (n + 1) cp' ∧ H' = [.row (.slice a' (n + 1) cp') ty 1 (n + 1) (xs.take k ++ str u :: xs.drop k)]) := by
  refine CalM.of fun w E hm => ?_
  have hV : w.ownsRow 0 ty 1 (.slice (some ⟨vb, 0, none⟩) 1 1) 1 [str u] := hm.ok _ (List.mem_cons_of_mem _ List.mem_cons_self)
  have hR : w.ownsRow 0 ty 1 (.slice a n cp) n xs := hm.ok _ List.mem_cons_self
  have hxl : xs.length = n := by have := hR.1; omega
  have h1' : ∀ v ∈ xs, v.oneCell' = true := fun v hv => List.all_eq_true.1 h1 v hv
  have hu : ∀ v ∈ [str u], v.oneCell' = true := fun v hv => by
    obtain rfl : v = str u := by simpa using hv
    rfl
  obtain ⟨curv, hvg, hvs, hvt⟩ : ∃ curv : Array Value, w.heap[vb]? = some (.cells curv ty (0, 0)) ∧ curv.size = 1 ∧ curv.toList.take (1 * 1) = [str u] := by
    rcases hV.2 with ⟨h, _⟩ | ⟨g, cap, cur, hv, _, hg, _, _, hs, ht⟩
    · cases h
    · injection hv with e1 _ e3
      injection e1 with e1
      injection e1 with e1
      subst e1; subst e3
      exact ⟨cur, hg, by rw [hs], ht⟩
  have hvc : ∀ (j : Nat) (v : Value), [str u][j]? = some v → w.cell? ⟨vb, 0 + j, none⟩ = some v := fun j v hj => cell_row (cap := 1) (n := 1) (sz := 1) hvg hvt hj
  have hbig : (n + 1) * 16 ≤ 140737488355328 := by omega
  have hml : n + 1 ≤ maxLen := by simp only [maxLen]; omega
  have fresh : ∀ (w' : World) (cap : Nat) (cells : List Value), Kept [] w w' → w'.heap[w.heap.size]? = some (.cells cells.toArray ty (0, 0)) → cells.length = cap → n + 1 ≤ cap → cap ≤ maxLen → cells.take (n + 1) = xs.take k ++ str u :: xs.drop k →
      ∃ I' H', (∃ a' cp', Value.slice (some ⟨w.heap.size, 0, none⟩) (n + 1) cap = .slice a' (n + 1) cp' ∧ H' = [.row (.slice a' (n + 1) cp') ty 1 (n + 1) (xs.take k ++ str u :: xs.drop k)]) ∧ Mem E I' H' w' := fun w' cap cells hk' hh hcl hc1 hc2 ht =>
    ⟨I, _, ⟨_, _, rfl, rfl⟩, hm.turn2 (hk'.mono (fun _ h => by cases h)) ⟨by rw [List.length_append, List.length_cons, List.length_take, List.length_drop]; omega, .inr ⟨w.heap.size, cap, cells.toArray, rfl, Nat.zero_le _, hh, hc1, hc2, by simp [hcl], by simpa using ht⟩⟩ (.inr ⟨w.heap.size, rfl, Nat.le_refl _⟩)⟩
  rcases hR.2 with ⟨hv, h0⟩ | ⟨g, cap, cur, hv, _, hg, hc, hcm, hs, ht⟩
  · -- none
    injection hv with e1 e2 e3
    subst e1; subst e3
    obtain rfl : xs = [] := List.eq_nil_of_length_eq_zero (by omega)
    obtain rfl : k = 0 := by omega
    subst h0
    refine ⟨Calls.mono (Proofs.Any2.slices_Insert_string_end_grow L none 0 0 vb 0 1 1 [] [str u] w (by omega) (by omega) (by omega) (by omega) rfl rfl (fun _ => rfl) (fun _ h => by cases h) hvc hu) (fun e w' q => ?_)⟩
    obtain ⟨rfl, rfl⟩ := q
    rw [hty]
    have hge := grownCap_ge w (0 + 1) 0 ty
    exact fresh _ (grownCap w (0 + 1) 0 ty) ([str u] ++ (Builtin.zeroCells (Value.string ⟨#[]⟩).cells (grownCap w (0 + 1) 0 ty - (0 + 1))).toList) ((Kept.drew w).trans (Kept.alloc _ _)) (by rw [show w.heap.size = w.drew.heap.size from rfl, heap_alloc_new]; simp) (by rw [List.length_append, zc_len, List.length_singleton]; omega) hge (grownCap_le_maxLen w _ _ _ hml) (by simp)
  · injection hv with e1 e2 e3
    subst e1; subst e3
    obtain ⟨cL, rfl⟩ : ∃ cL : List Value, cur = cL.toArray := ⟨cur.toList, by simp⟩
    have hs' : cL.length = cp := by simpa using hs
    have ht' : cL.take n = xs := by simpa using ht
    have hcell : ∀ (j : Nat) (v : Value), xs[j]? = some v → w.cell? ⟨g, 0 + j, none⟩ = some v := fun j v hj => cell_row (cap := cp) (n := n) (sz := 1) hg ht hj
    have hsp : ∀ j, j < cp → (w.cell? ⟨g, 0 + j, none⟩).isSome = true := fun j hj => by
      rw [Nat.zero_add, cell_of (v := cL[j]'(by omega)) hg (by rw [List.getElem?_toArray, List.getElem?_eq_getElem])]; rfl
    have hfz : ∀ b o, (w.heap[b]? = some (.cells cL.toArray ty (0, 0)) ∨ w.heap[b]? = some (.cells curv ty (0, 0))) → w.frozen? ⟨b, o, none⟩ = false := fun b o h => by
      rcases h with h | h <;> simp [World.frozen?, h]
    have hne : vb ≠ g := fun e => by
      have := (List.pairwise_cons.1 hm.dist).1 _ (List.mem_cons_self) g rfl
      exact this (by rw [← e]; rfl)
    rcases Nat.lt_or_ge n cp with hroom | hroom
    · -- room
      have place : ∀ (w' : World) (cells : List Value), Kept [g] w w' → w'.heap[g]? = some (.cells cells.toArray ty (0, 0)) → cells.length = cp → cells.take (n + 1) = xs.take k ++ str u :: xs.drop k →
          ∃ I' H', (∃ a' cp', Value.slice (some ⟨g, 0, none⟩) (n + 1) cp = .slice a' (n + 1) cp' ∧ H' = [.row (.slice a' (n + 1) cp') ty 1 (n + 1) (xs.take k ++ str u :: xs.drop k)]) ∧ Mem E I' H' w' := fun w' cells hk' hh hcl ht =>
        ⟨I, _, ⟨_, _, rfl, rfl⟩, hm.turn2 (h := .row (.slice (some ⟨g, 0, none⟩) n cp) ty 1 n xs) hk' ⟨by rw [List.length_append, List.length_cons, List.length_take, List.length_drop]; omega, .inr ⟨g, cp, cells.toArray, rfl, Nat.zero_le _, hh, by omega, hcm, by simp [hcl], by simpa using ht⟩⟩ (.inl rfl)⟩
      rcases Nat.lt_or_ge k n with hkn | hkn
      · refine ⟨Calls.mono (Proofs.Any2.slices_Insert_string_shift L g 0 n cp k vb 0 1 1 xs [str u] w hkn (by omega) (by omega) (by simp only [maxLen] at hcm; omega) hne hxl rfl hcell (fun j hj => hsp j (by omega)) (fun j _ => hfz _ _ (.inl hg)) hvc h1' hu
          ty ty 1 cp (by simp [World.shape?, hvg, hvs]) (by simp [World.shape?, hg, hs']) (by omega) (hfz _ _ (.inr hvg)) (hfz _ _ (.inr hvg))) (fun e w' q => ?_)⟩
        obtain ⟨rfl, rfl⟩ := q
        have hdl : (xs.drop k).length = n - k := by rw [List.length_drop, hxl]
        have g1 := setCells_heap (xs.drop k) (0 + (k + 1)) w.drew cL hg (by rw [hdl]; omega)
        have g2 := setCells_heap [str u] (0 + k) _ _ g1 (by simp [hdl]; omega)
        refine place _ _ (((Kept.drew w).mono (fun _ h => by cases h)).trans ((setCells_kept g _ _ _).trans (setCells_kept g _ _ _))) g2 ?_ ?_
        · simp only [Nat.zero_add, List.length_append, List.length_take, List.length_drop, List.length_cons, List.length_nil]
          omega
        · have e1 : cL.take (0 + (k + 1)) = xs.take k ++ [cL[k]'(by omega)] := by
            have e0 : xs.take k = cL.take k := by rw [show xs = cL.take n from ht'.symm, List.take_take, Nat.min_eq_left (by omega)]
            rw [Nat.zero_add, List.take_succ_eq_append_getElem (by omega), e0]
          rw [e1, hdl]
          simp only [Nat.zero_add, List.length_singleton]
          have e2 : ((xs.take k ++ [cL[k]'(by omega)]) ++ (xs.drop k ++ cL.drop (k + 1 + (n - k)))).take k = xs.take k := by
            rw [List.append_assoc, List.take_append_of_le_length (by rw [List.length_take]; omega), List.take_take, Nat.min_self]
          have e3 : ((xs.take k ++ [cL[k]'(by omega)]) ++ (xs.drop k ++ cL.drop (k + 1 + (n - k)))).drop (k + 1) = xs.drop k ++ cL.drop (k + 1 + (n - k)) := by
            rw [List.drop_append_of_le_length (by rw [List.length_append, List.length_take]; simp; omega), List.drop_of_length_le (by rw [List.length_append, List.length_take]; simp; omega), List.nil_append]
          rw [e2, e3]
          rw [List.take_append, List.take_of_length_le (by rw [List.length_take]; omega), List.length_take, hxl, Nat.min_eq_left hk]
          congr 1
          rw [show n + 1 - k = (n - k) + 1 by omega, List.singleton_append, List.take_succ_cons, List.take_append_of_le_length (by rw [hdl]; omega), List.take_of_length_le (by rw [hdl]; omega)]
      · obtain rfl : k = n := by omega
        refine ⟨Calls.mono (Proofs.Any2.slices_Insert_string_end_room L g 0 k cp vb 0 1 1 [str u] w (by omega) (by omega) (by simp only [maxLen] at hcm; omega) rfl (fun j hj => by rw [Nat.add_assoc]; exact hsp _ (by omega)) (fun j _ => hfz _ _ (.inl hg)) hvc hu) (fun e w' q => ?_)⟩
        obtain ⟨rfl, rfl⟩ := q
        have g1 := setCells_heap [str u] (0 + k) w cL hg (by simp; omega)
        refine place _ _ (setCells_kept g _ _ _) g1 ?_ ?_
        · simp only [Nat.zero_add, List.length_append, List.length_take, List.length_drop, List.length_cons, List.length_nil]
          omega
        · simp only [Nat.zero_add, List.length_singleton]
          rw [ht', List.take_of_length_le (l := xs) (by omega), List.drop_of_length_le (l := xs) (by omega), ← List.append_assoc, List.take_append_of_le_length (by rw [List.length_append, hxl]; simp), List.take_of_length_le (by rw [List.length_append, hxl]; simp)]
    · -- none
      obtain rfl : n = cp := by omega
      rcases Nat.lt_or_ge k n with hkn | hkn
      · refine ⟨Calls.mono (Proofs.Any2.slices_Insert_string_grow L g 0 n n k vb 0 1 1 xs [str u] w hkn (by omega) (by omega) (by omega) (by omega) hxl rfl hcell hvc h1' hu) (fun e w' q => ?_)⟩
        obtain ⟨rfl, rfl⟩ := q
        rw [hty]
        have hge := grownCap_ge w (n + 1) n ty
        have hdl : (xs.drop k).length = n - k := by rw [List.length_drop, hxl]
        generalize hG : grownCap w (n + 1) n ty = G at hge ⊢
        have hGm : G ≤ maxLen := by rw [← hG]; exact grownCap_le_maxLen w _ _ _ hml
        obtain ⟨zs, hzs⟩ : ∃ zs : List Value, (Builtin.zeroCells (Value.string ⟨#[]⟩).cells (n + 1 - k) ++ Builtin.zeroCells (Value.string ⟨#[]⟩).cells (G - (n + 1))).toList = zs := ⟨_, rfl⟩
        have hzl : zs.length = G - k := by rw [← hzs, Array.toList_append, List.length_append, zc_len, zc_len]; omega
        have hcells : ((xs.take k).toArray ++ Builtin.zeroCells (Value.string ⟨#[]⟩).cells (n + 1 - k) ++ Builtin.zeroCells (Value.string ⟨#[]⟩).cells (G - (n + 1))) = (xs.take k ++ zs).toArray := by
          rw [← hzs]; simp
        rw [hcells]
        have hl0 : (xs.take k ++ zs).length = G := by rw [List.length_append, List.length_take, hzl]; omega
        have g0 := heap_alloc_new w (.cells (xs.take k ++ zs).toArray ty (0, 0))
        have g1 := setCells_heap [str u] k (w.alloc (.cells (xs.take k ++ zs).toArray ty (0, 0))).drew (xs.take k ++ zs) g0 (by simp [hl0]; omega)
        have g2 := setCells_heap (xs.drop k) (k + 1) (((w.alloc (.cells (xs.take k ++ zs).toArray ty (0, 0))).drew.setCells w.heap.size k [str u]).drew) _ g1 (by simp [hzl, hdl]; omega)
        have kk : Kept [] w ((((w.alloc (.cells (xs.take k ++ zs).toArray ty (0, 0))).drew.setCells w.heap.size k [str u]).drew).setCells w.heap.size (k + 1) (xs.drop k)) := by
          refine Kept.step (Y := [w.heap.size]) (Kept.alloc w (.cells (xs.take k ++ zs).toArray ty (0, 0))) ?_ (fun x hx => .inr (by simp at hx; omega))
          exact ((Kept.drew _).mono (fun _ h => by cases h)).trans ((setCells_kept _ _ _ _).trans (((Kept.drew _).mono (fun _ h => by cases h)).trans (setCells_kept _ _ _ _)))
        refine fresh _ G _ kk g2 ?_ hge hGm ?_
        · simp only [List.length_append, List.length_take, List.length_drop, List.length_cons, List.length_nil, hzl]
          omega
        · have e1 : (xs.take k ++ zs).take k = xs.take k := by
            rw [List.take_append_of_le_length (by rw [List.length_take]; omega), List.take_take, Nat.min_self]
          rw [e1]
          have e2 : (xs.take k ++ ([str u] ++ (xs.take k ++ zs).drop (k + [str u].length))).take (k + 1) = xs.take k ++ [str u] := by
            rw [← List.append_assoc, List.take_append_of_le_length (by rw [List.length_append, List.length_take]; simp; omega), List.take_of_length_le (by rw [List.length_append, List.length_take]; simp; omega)]
          rw [e2, ← List.append_assoc, List.take_append_of_le_length (by simp only [List.length_append, List.length_take, hdl, List.length_singleton]; omega), List.take_of_length_le (by simp only [List.length_append, List.length_take, hdl, List.length_singleton]; omega), List.append_assoc]; rfl
      · obtain rfl : k = n := by omega
        refine ⟨Calls.mono (Proofs.Any2.slices_Insert_string_end_grow L (some ⟨g, 0, none⟩) k k vb 0 1 1 xs [str u] w (by omega) (by omega) (by omega) (by omega) hxl rfl (fun h => by cases h) (fun ad had j v hj => by cases had; rw [Addr.add_lit]; exact hcell j v hj) hvc hu) (fun e w' q => ?_)⟩
        obtain ⟨rfl, rfl⟩ := q
        rw [hty]
        have hge := grownCap_ge w (k + 1) k ty
        exact fresh _ (grownCap w (k + 1) k ty) ((xs ++ [str u]) ++ (Builtin.zeroCells (Value.string ⟨#[]⟩).cells (grownCap w (k + 1) k ty - (k + 1))).toList) ((Kept.drew w).trans (Kept.alloc _ _)) (by rw [show w.heap.size = w.drew.heap.size from rfl, heap_alloc_new]; simp) (by rw [List.length_append, zc_len]; simp [hxl]; omega) hge (grownCap_le_maxLen w _ _ _ hml)
          (by rw [List.take_append_of_le_length (by simp [hxl]), List.take_of_length_le (by simp [hxl]), List.take_of_length_le (l := xs) (by omega), List.drop_of_length_le (l := xs) (by omega)])
end
end Go.Fw
end
