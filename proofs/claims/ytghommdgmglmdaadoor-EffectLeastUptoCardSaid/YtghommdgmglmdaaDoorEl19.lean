/- Own work: texts ReI, RFind, PpD, PpE, PpF, PpG, one behind the other. -/
import Derived.Test.YtghommdgmglmdaaDoorEl18
import Derived.WideLaws
import Derived.Lib.MinMax
section
namespace Go.Fw
open Go
section
variable {P : Program} {N : Nat} {ds : List Deferred} {Q : Exit → Act → World → Prop} {l : Log} {w : World} {ops : Array Oper} {os : List Oper}
variable {d : Nat} {ty : TypeId} {pos : String} {af : Array Edge} {g : Option (Nat × Bool)} {t : TypeId} {x : Operand} {E : Ent} {I : Imm} {H : List HItem}
abbrev HItem.itN (r : Nat) : HItem := .obj r (.mapIter none 0 #[] 0)
theorem m_rangeNil {kt et : TypeId} [TyMap P t kt et] (hm : Mem E I H w) (hw : want ops l ⟨some d, .range t x, ty, pos, af, g⟩ = some true) (hN : Nat.blt d N = true)
    (hx : ev l x = some (.map none)) (k : ∀ r w', Mem E I (.itN r :: H) w' → WL P N ds ops Q os ((d, .pointer (some ⟨r, 0, none⟩)) :: l) w') :
    WL P N ds ops Q (⟨some d, .range t x, ty, pos, af, g⟩ :: os) l w :=
  wl_value (w' := w.alloc (.mapIter none 0 #[] 0)) rfl hw hN (fun a ha => by
    have h1 := run_range_nilMap (P := P) w t kt et (TyMap.out (P := P) (t := t))
    simp [execOp, ha.ev hx, h1])
    (k w.heap.size _ (hm.add (Kept.alloc w _) (heap_alloc_new w _) (fun b' hb' => by simp only [HItem.blk, Option.some.injEq] at hb'; omega)))
theorem m_nextNil {i r : Nat} (hm : Mem E I H w) (hw : want ops l ⟨some d, .next x false, ty, pos, af, g⟩ = some true) (hN : Nat.blt d N = true)
    (hx : ev l x = some (.pointer (some ⟨r, 0, none⟩))) (hi : H[i]? = some (.itN r)) (k : WL P N ds ops Q os ((d, .tuple #[.bool false]) :: l) w) :
    WL P N ds ops Q (⟨some d, .next x false, ty, pos, af, g⟩ :: os) l w := by
  have hr := hm.get hi
  have hrun : (Instr.next (.pointer (some ⟨r, 0, none⟩)) false ty).run P w = .ok (.tuple #[.bool false]) w := by
    simp only [Instr.next, getObj, Sem.run_bind, Sem.run, hr, Result.andThen]
    rfl
  exact wl_value rfl hw hN (fun a ha => by simp [execOp, ha.ev hx, hrun]) k
end
end Go.Fw
namespace Go.Proofs.YtghommdgmglmdaaDoor
open Go.Fw
theorem r_rising_nil (I : Imm) : CalM Tryd.prog 10 #[.map none] I [] (fun v _ H' => v = .slice none 0 0 ∧ H' = []) := by
  refine CalM.of fun w E hm => enter (N := 43) Tryd.func10 rfl [(0, .map none)] args1 rfl ?_
  repeat' (first
  | (refine m_rangeNil (d := 8) hm (by rfl) (by rfl) (by rfl) ?_; clear hm; intro rb _ hm)
  | (refine m_push (d:=34) hm (k:=?_); clear hm; intro a34 cp34 _ _ hm; try simp only [setn] at hm)
  | (refine m_push (d:=37) hm (k:=?_); clear hm; intro a37 cp37 _ _ hm; try simp only [setn] at hm)
  | (refine m_push (d:=41) hm (k:=?_); clear hm; intro a41 cp41 _ _ hm; try simp only [setn] at hm)
  | refine m_load1 hm (k:=?_)
  | refine i_load1 hm (k:=?_)
  | refine m_loadAll hm (k:=?_)
  | refine i_loadN hm (k:=?_)
  | refine i_load1z hm (k:=?_)
  | refine m_ret_agg hm (h:=?_)
  | refine m_ret2_agg hm (h:=?_)
  | refine op_move (k:=?_)
  | refine op_assign (k:=?_)
  | refine op_pick_true (k:=?_)
  | refine op_pick_false (k:=?_)
  | refine op_lss (k:=?_)
  | refine op_len_str (k:=?_)
  | refine op_len_slice (k:=?_)
  | refine op_not (k:=?_)
  | refine op_extract (k:=?_)
  | refine op_add (k:=?_)
  | refine op_add_u8 (k:=?_)
  | refine op_indexAddr_arr (k:=?_)
  | refine op_slice_str (k:=?_)
  | refine op_slice_from (k:=?_)
  | refine op_slice_to (k:=?_)
  | refine op_indexAddr (k:=?_)
  | refine op_load1 (k:=?_)
  | refine wl_skip (k:=?_)
  | (refine wl_split_dec (h1:=fun _ => ?_) (h0:=fun _ => ?_)<;> (try first | contradiction | (exfalso; omega)))
  | (refine wl_split (h1:=fun _ => ?_) (h0:=fun _ => ?_)<;> (fail_if_success contradiction))
  | refine wl_nil ?_
  | refine at_then_normal ?_
  | refine at_then_ret ?_
  | refine at_then_exit ?_
  | refine at_block_normal ?_
  | refine at_block_ret ?_
  | refine at_block_exit ?_
  | refine at_block_other (h:=?_)
  | refine wc_seq ?_
  | refine wc_region ?_
  | refine wc_block ?_
  | refine wc_skip ?_
  | refine wc_exit ?_
  | refine wc_ret ?_
  | refine at_ret1 (h:=?_)
  | refine wc_quiet (h:=?_)
  | (refine wq_nil ?_; intro _ hkq; replace hm := hm.kept0 hkq; clear hkq)
  | (refine wq_nil_tail ?_; intro _ hkq; replace hm := hm.kept0 hkq; clear hkq)
  | refine wc_cond_true (ht:=?_)
  | refine wc_cond_false (hf:=?_)
  | (refine wc_cond_dec (ht:=fun _ => ?_) (hf:=fun _ => ?_)<;> (try first | contradiction | (exfalso; omega)))
  | refine wc_cond (ht:=fun _ => ?_) (hf:=fun _ => ?_)
  | refine q_move (k:=?_)
  | refine q_assign (k:=?_)
  | refine q_pick_true (k:=?_)
  | refine q_pick_false (k:=?_)
  | refine q_lss (k:=?_)
  | refine q_len_str (k:=?_)
  | refine q_len_slice (k:=?_)
  | refine q_not (k:=?_)
  | refine q_extract (k:=?_)
  | refine q_add (k:=?_)
  | refine q_add_u8 (k:=?_)
  | refine q_indexAddr_arr (k:=?_)
  | refine q_slice_str (k:=?_)
  | refine q_slice_from (k:=?_)
  | refine q_slice_to (k:=?_)
  | refine q_indexAddr (k:=?_)
  | refine q_load1 (k:=?_)
  | refine wq_skip (k:=?_)
  | (refine wq_split_dec (h1:=fun _ => ?_) (h0:=fun _ => ?_)<;> (try first | contradiction | (exfalso; omega)))
  | (refine wq_split (h1:=fun _ => ?_) (h0:=fun _ => ?_)<;> (fail_if_success contradiction)))
  refine wc_loop (fun _ : Unit => [(3, .slice none 0 0), (8, ptr rb)]) (fun _ w' => Mem E I [.itN rb] w') (fun _ => 0) () (by exact ⟨rfl, rfl, trivial⟩) hm ?_
  clear hm
  rintro _ w1 hm
  repeat' (first
  | (refine m_nextNil (d := 9) hm (by rfl) (by rfl) (by rfl) gt0 ?_)
  | (refine m_push (d:=34) hm (k:=?_); clear hm; intro a34 cp34 _ _ hm; try simp only [setn] at hm)
  | (refine m_push (d:=37) hm (k:=?_); clear hm; intro a37 cp37 _ _ hm; try simp only [setn] at hm)
  | (refine m_push (d:=41) hm (k:=?_); clear hm; intro a41 cp41 _ _ hm; try simp only [setn] at hm)
  | refine m_load1 hm (k:=?_)
  | refine i_load1 hm (k:=?_)
  | refine m_loadAll hm (k:=?_)
  | refine i_loadN hm (k:=?_)
  | refine i_load1z hm (k:=?_)
  | refine m_ret_agg hm (h:=?_)
  | refine m_ret2_agg hm (h:=?_)
  | refine op_move (k:=?_)
  | refine op_assign (k:=?_)
  | refine op_pick_true (k:=?_)
  | refine op_pick_false (k:=?_)
  | refine op_lss (k:=?_)
  | refine op_len_str (k:=?_)
  | refine op_len_slice (k:=?_)
  | refine op_not (k:=?_)
  | refine op_extract (k:=?_)
  | refine op_add (k:=?_)
  | refine op_add_u8 (k:=?_)
  | refine op_indexAddr_arr (k:=?_)
  | refine op_slice_str (k:=?_)
  | refine op_slice_from (k:=?_)
  | refine op_slice_to (k:=?_)
  | refine op_indexAddr (k:=?_)
  | refine op_load1 (k:=?_)
  | refine wl_skip (k:=?_)
  | (refine wl_split_dec (h1:=fun _ => ?_) (h0:=fun _ => ?_)<;> (try first | contradiction | (exfalso; omega)))
  | (refine wl_split (h1:=fun _ => ?_) (h0:=fun _ => ?_)<;> (fail_if_success contradiction))
  | refine wl_nil ?_
  | refine at_then_normal ?_
  | refine at_then_ret ?_
  | refine at_then_exit ?_
  | refine at_block_normal ?_
  | refine at_block_ret ?_
  | refine at_block_exit ?_
  | refine at_block_other (h:=?_)
  | refine wc_seq ?_
  | refine wc_region ?_
  | refine wc_block ?_
  | refine wc_skip ?_
  | refine wc_exit ?_
  | refine wc_ret ?_
  | refine at_ret1 (h:=?_)
  | refine wc_quiet (h:=?_)
  | (refine wq_nil ?_; intro _ hkq; replace hm := hm.kept0 hkq; clear hkq)
  | (refine wq_nil_tail ?_; intro _ hkq; replace hm := hm.kept0 hkq; clear hkq)
  | refine wc_cond_true (ht:=?_)
  | refine wc_cond_false (hf:=?_)
  | (refine wc_cond_dec (ht:=fun _ => ?_) (hf:=fun _ => ?_)<;> (try first | contradiction | (exfalso; omega)))
  | refine wc_cond (ht:=fun _ => ?_) (hf:=fun _ => ?_)
  | refine q_move (k:=?_)
  | refine q_assign (k:=?_)
  | refine q_pick_true (k:=?_)
  | refine q_pick_false (k:=?_)
  | refine q_lss (k:=?_)
  | refine q_len_str (k:=?_)
  | refine q_len_slice (k:=?_)
  | refine q_not (k:=?_)
  | refine q_extract (k:=?_)
  | refine q_add (k:=?_)
  | refine q_add_u8 (k:=?_)
  | refine q_indexAddr_arr (k:=?_)
  | refine q_slice_str (k:=?_)
  | refine q_slice_from (k:=?_)
  | refine q_slice_to (k:=?_)
  | refine q_indexAddr (k:=?_)
  | refine q_load1 (k:=?_)
  | refine wq_skip (k:=?_)
  | (refine wq_split_dec (h1:=fun _ => ?_) (h0:=fun _ => ?_)<;> (try first | contradiction | (exfalso; omega)))
  | (refine wq_split (h1:=fun _ => ?_) (h0:=fun _ => ?_)<;> (fail_if_success contradiction)))
  exact ⟨I, [], ⟨rfl, rfl⟩, hm.tl⟩
end Go.Proofs.YtghommdgmglmdaaDoor
end
section
namespace Go.Proofs.YtghommdgmglmdaaDoor
open Go.Fw
set_option maxHeartbeats 4000000 in
theorem r_find (k : Int) (n : List UInt8) (its : List Sp.Itm) (I : Imm) (a : Option Addr) (cp : Nat) (xs : List Value) (h : FE I its a cp xs) :
    CalM Tryd.prog 8 #[.agg [.slice a its.length cp].toArray, .int .i64 k, str n] I [] (fun v _ H' => v = .int .i64 (Sp.findV its k n) ∧ H' = []) := by
  refine CalM.of fun w E hm => enter (N := 33) Tryd.func8 rfl [(0, .agg [.slice a its.length cp].toArray), (1, .int .i64 k), (2, str n)] args3 rfl ?_
  have hfew := h.few
  repeat' (first
  | (refine m_box (d:=3) hm (k:=?_); clear hm; intro b3 _ hm)
  | refine m_load1 hm (k:=?_)
  | refine op_move (k:=?_)
  | refine op_assign (k:=?_)
  | refine op_len_slice (k:=?_)
  | refine op_fieldAddr (k:=?_)
  | refine wl_nil ?_
  | refine at_then_normal ?_
  | refine wc_seq ?_
  | refine wc_region ?_
  | refine wc_block ?_)
  refine wc_loop (fun x : Nat => [(1, .int .i64 k), (2, str n), (10, .slice a its.length cp), (11, nt its.length), (12, nt x)])
    (fun x w' => Mem E I [] w' ∧ x ≤ its.length ∧ ∀ j it', j < x → its[j]? = some it' → Sp.itIs k n it' = false) (fun x => its.length - x) 0 (by exact ⟨rfl, rfl, rfl, rfl, rfl, trivial⟩) ⟨hm.tl, Nat.zero_le _, fun j _ hj => absurd hj (Nat.not_lt_zero j)⟩ ?_
  clear hm
  rintro x w1 ⟨hm, hk, hno⟩
  try dsimp only at hm hk hno ⊢
  by_cases hlt : x < its.length
  · have hg : its[x]? = some its[x] := List.getElem?_eq_getElem hlt
    obtain ⟨cs, hcs, hat, hl10⟩ := h.get hg
    have hri := h.row
    generalize its[x] = it at hg hat
    obtain ⟨pa, pc, sa9, sc9, ba, bc9, da9, dc9, xb, rfl, _⟩ := hat
    cases hb : Sp.itIs k n it with
    | true =>
      have hb2 := hb
      simp only [Sp.itIs, Bool.and_eq_true, decide_eq_true_eq] at hb2
      obtain ⟨e1, e2, e3⟩ := hb2
      repeat' (first
      | (refine i_indexAddr (d:=15) (hr:=hri) (k:=?_); intro bt ot hpt; rw [show ((x : Int).toNat * 10) = x * 10 from rfl, hcs] at hpt)
      | (refine i_loadN (d:=16) hm (hp:=hpt) (k:=?_))
      | (refine m_allocS (d:=8) hm (k:=?_); clear hm; intro b8 _ hm)
      | refine m_load1 hm (k:=?_)
      | (refine m_storeAll hm (k:=?_); clear hm; intro _ hm; try simp only [setn] at hm)
      | refine op_move (k:=?_)
      | refine op_assign (k:=?_)
      | refine op_pick_true (k:=?_)
      | refine op_lss (k:=?_)
      | refine op_eql (k:=?_)
      | refine op_eql_str (k:=?_)
      | refine op_neq_str (k:=?_)
      | refine op_fieldAddr (k:=?_)
      | (refine wl_split_dec (h1:=fun _ => ?_) (h0:=fun _ => ?_)<;> (try first | contradiction | (exfalso; omega)))
      | refine wl_nil ?_
      | refine at_then_normal ?_
      | refine at_then_ret ?_
      | refine at_block_ret ?_
      | refine wc_seq ?_
      | refine wc_region ?_
      | refine wc_block ?_
      | refine wc_skip ?_
      | refine wc_ret ?_
      | refine at_ret1 (h:=?_)
      | (refine wc_cond_dec (ht:=fun _ => ?_) (hf:=fun _ => ?_)<;> (try first | contradiction | (exfalso; omega))))
      all_goals try (exfalso; first | omega | contradiction)
      exact ⟨I, [], ⟨by rw [show Sp.findV its k n = Sp.idxV (Sp.itIs k n) its from rfl, Sp.idxV_at hg hb hno], rfl⟩, hm.left (H := [])⟩
    | false =>
      have hne : n ≠ [] → (it.kind : Int) = k → it.name ≠ n := fun e3 e1 e2 => by
        rw [Sp.itIs, decide_eq_true e1, decide_eq_true e2, decide_eq_true e3] at hb
        cases hb
      repeat' (first
      | (refine i_indexAddr (d:=15) (hr:=hri) (k:=?_); intro bt ot hpt; rw [show ((x : Int).toNat * 10) = x * 10 from rfl, hcs] at hpt)
      | (refine i_loadN (d:=16) hm (hp:=hpt) (k:=?_))
      | (refine m_allocS (d:=8) hm (k:=?_); clear hm; intro b8 _ hm)
      | refine m_load1 hm (k:=?_)
      | (refine m_storeAll hm (k:=?_); clear hm; intro _ hm; try simp only [setn] at hm)
      | refine op_move (k:=?_)
      | refine op_assign (k:=?_)
      | refine op_pick_true (k:=?_)
      | refine op_pick_false (k:=?_)
      | refine op_lss (k:=?_)
      | refine op_eql (k:=?_)
      | refine op_eql_str (k:=?_)
      | refine op_neq_str (k:=?_)
      | refine op_add (k:=?_)
      | refine op_fieldAddr (k:=?_)
      | refine wl_skip (k:=?_)
      | (refine wl_split_dec (h1:=fun _ => ?_) (h0:=fun _ => ?_)<;> (try first | contradiction | (exfalso; omega)))
      | refine wl_nil ?_
      | refine at_then_normal ?_
      | refine at_then_ret ?_
      | refine at_block_normal ?_
      | refine at_block_ret ?_
      | refine wc_seq ?_
      | refine wc_region ?_
      | refine wc_block ?_
      | refine wc_skip ?_
      | refine wc_ret ?_
      | refine at_ret1 (h:=?_)
      | refine wc_cond_false (hf:=?_)
      | (refine wc_cond_dec (ht:=fun _ => ?_) (hf:=fun _ => ?_)<;> (try first | contradiction | (exfalso; omega))))
      all_goals try (exfalso; first | omega | contradiction | exact hne (by assumption) (by assumption) (by assumption))
      all_goals refine at_round (x + 1 : Nat) (by exact ⟨rfl, rfl, rfl, rfl, rfl, trivial⟩) ⟨hm.right (H := [_]), by omega, fun j it' hj hg' => ?_⟩ (by omega)
      all_goals
        rcases Nat.lt_or_ge j x with hjk | hjk
        · exact hno j it' hjk hg'
        · obtain rfl : j = x := by omega
          rw [hg] at hg'
          obtain rfl := Option.some.inj hg'
          exact hb
  · obtain rfl : x = its.length := by omega
    repeat' (first
    | refine op_assign (k:=?_)
    | refine op_lss (k:=?_)
    | refine wl_nil ?_
    | refine at_then_normal ?_
    | refine at_then_exit ?_
    | refine at_block_exit ?_
    | refine wc_seq ?_
    | refine wc_region ?_
    | refine wc_exit ?_
    | refine wc_ret ?_
    | refine at_ret1 (h:=?_)
    | (refine wc_cond_dec (ht:=fun _ => ?_) (hf:=fun _ => ?_)<;> (try first | contradiction | (exfalso; omega))))
    all_goals try (exfalso; omega)
    exact ⟨I, [], ⟨by rw [show Sp.findV its k n = Sp.idxV (Sp.itIs k n) its from rfl, Sp.idxV_none hno], rfl⟩, hm.left (H := [])⟩
end Go.Proofs.YtghommdgmglmdaaDoor
end
section
namespace Go.Fw
open Go
section
variable {P : Program} {N : Nat} {ds : List Deferred} {Q : Exit → Act → World → Prop} {l : Log} {w : World} {ops : Array Oper} {os : List Oper}
variable {d : Nat} {ty : TypeId} {pos : String} {af : Array Edge} {g : Option (Nat × Bool)} {t t' : TypeId} {x y : Operand}
theorem op_neq_held {te : TypeId} {pe : Value} {c : Value} (hw : want ops l ⟨some d, .binOp .neq t x (.const c) t', ty, pos, af, g⟩ = some true) (hN : Nat.blt d N = true)
    (hx : ev l x = some (.iface te pe)) (hc : c = .nilIface) (ht : P.underlying t = some (.interface (P.methodsAt t))) (k : WL P N ds ops Q os ((d, .bool true) :: l) w) :
    WL P N ds ops Q (⟨some d, .binOp .neq t x (.const c) t', ty, pos, af, g⟩ :: os) l w :=
  wl_value rfl hw hN (fun a ha => by
    subst hc
    have h := run_neq_held_nil (P := P) w t te pe ht
    have e2 : a.eval (.const .nilIface) = .nilIface := rfl
    simp [execOp, ha.ev hx, e2, eqGuard, h]) k
theorem op_neq_none {c : Value} (hw : want ops l ⟨some d, .binOp .neq t x (.const c) t', ty, pos, af, g⟩ = some true) (hN : Nat.blt d N = true)
    (hx : ev l x = some .nilIface) (hc : c = .nilIface) (ht : P.underlying t = some (.interface (P.methodsAt t))) (k : WL P N ds ops Q os ((d, .bool false) :: l) w) :
    WL P N ds ops Q (⟨some d, .binOp .neq t x (.const c) t', ty, pos, af, g⟩ :: os) l w :=
  wl_value rfl hw hN (fun a ha => by
    subst hc
    have h := run_equal_nil_nil (P := P) w t ht
    have e2 : a.eval (.const .nilIface) = .nilIface := rfl
    simp [execOp, ha.ev hx, e2, eqGuard, binOp, h]) k
end
end Go.Fw
namespace Go.Proofs.YtghommdgmglmdaaDoor
open Go.Fw
section
variable {I : Imm} {pb deep lc dc b1 : Nat} {la da : Option Addr} {T : Sp.Src} {E : Ent} {R : List HItem} {w : World} {s : Sp.St}
theorem p_decA (hdp : deep ≤ 12) (hm : Mem E I (.cell b1 [ptr pb] 84 :: qObj pb la lc T s (deep + 1) da dc :: R) w) :
    CalD Tryd.prog 68 #[ptr b1] w (fun w' => Mem E I (.cell b1 [ptr pb] 84 :: qObj pb la lc T s deep da dc :: R) w') := by
  refine enterD (N := 8) Tryd.func68 rfl [(0, ptr b1)] args1 rfl ?_
  have hsub : (((deep + 1 : Nat) : Int)) - 1 = (deep : Int) := by omega
  repeat' (first
  | (refine op_sub (k:=?_); rw [hsub])
  | refine m_load1 hm (k:=?_)
  | (refine m_store1 hm (k:=?_); clear hm; intro _ hm; try simp only [setn] at hm)
  | refine op_nilCheck (k:=?_)
  | refine op_fieldAddr (k:=?_)
  | refine wl_nil ?_
  | refine wc_region ?_
  | refine at_end0 (h:=?_))
  exact hm
theorem p_decB (hdp : deep ≤ 12) (hm : Mem E I (.cell b1 [ptr pb] 84 :: qObj pb la lc T s (deep + 1) da dc :: R) w) :
    CalD Tryd.prog 58 #[ptr b1] w (fun w' => Mem E I (.cell b1 [ptr pb] 84 :: qObj pb la lc T s deep da dc :: R) w') := by
  refine enterD (N := 8) Tryd.func58 rfl [(0, ptr b1)] args1 rfl ?_
  have hsub : (((deep + 1 : Nat) : Int)) - 1 = (deep : Int) := by omega
  repeat' (first
  | (refine op_sub (k:=?_); rw [hsub])
  | refine m_load1 hm (k:=?_)
  | (refine m_store1 hm (k:=?_); clear hm; intro _ hm; try simp only [setn] at hm)
  | refine op_nilCheck (k:=?_)
  | refine op_fieldAddr (k:=?_)
  | refine wl_nil ?_
  | refine wc_region ?_
  | refine at_end0 (h:=?_))
  exact hm
end
end Go.Proofs.YtghommdgmglmdaaDoor
end
section
namespace Go.Fw
open Go
section
variable {P : Program} {N : Nat} {ds : List Deferred} {Q : Exit → Act → World → Prop} {K : Act → World → Prop} {l : Log} {w : World} {ops : Array Oper} {os : List Oper}
variable {d : Nat} {ty : TypeId} {pos : String} {af : Array Edge} {g : Option (Nat × Bool)} {t t' : TypeId} {x y : Operand}
theorem op_max {ts : Array TypeId} {a b : Nat} (hw : want ops l ⟨some d, .call ⟨.builtin .max, #[x, y], ts⟩, ty, pos, af, g⟩ = some true) (hN : Nat.blt d N = true)
    (hx : ev l x = some (.int .i64 (a : Int))) (hy : ev l y = some (.int .i64 (b : Int))) (k : WL P N ds ops Q os ((d, .int .i64 ((max a b : Nat) : Int)) :: l) w) :
    WL P N ds ops Q (⟨some d, .call ⟨.builtin .max, #[x, y], ts⟩, ty, pos, af, g⟩ :: os) l w :=
  wl_value rfl hw hN (fun c hc => by
    have h := Lib.run_max_ints (P := P) w ts ty .i64 .i64 (a : Int) (b : Int)
    simp [execOp, resolve, invoke, builtin, hc.ev hx, hc.ev hy, h]
    omega) k
theorem q_max {ts : Array TypeId} {a b : Nat} (hw : want ops l ⟨some d, .call ⟨.builtin .max, #[x, y], ts⟩, ty, pos, af, g⟩ = some true) (hN : Nat.blt d N = true)
    (hx : ev l x = some (.int .i64 (a : Int))) (hy : ev l y = some (.int .i64 (b : Int))) (k : WQ P N ds ops w K os ((d, .int .i64 ((max a b : Nat) : Int)) :: l)) :
    WQ P N ds ops w K (⟨some d, .call ⟨.builtin .max, #[x, y], ts⟩, ty, pos, af, g⟩ :: os) l :=
  wq_value rfl hw hN (fun w' hkq c hc => by
    have h := Lib.run_max_ints (P := P) w' ts ty .i64 .i64 (a : Int) (b : Int)
    simp [execOp, resolve, invoke, builtin, hc.ev hx, hc.ev hy, h]
    omega) k
end
end Go.Fw
namespace Go.Proofs.YtghommdgmglmdaaDoor
open Go.Fw
def AtomQ (T : Sp.Src) (pb f : Nat) : Prop := ∀ (I : Imm) (la : Option Addr) (lc deep : Nat) (da : Option Addr) (dc : Nat) (s : Sp.St), Conv I → TokR I T la lc → s.i ≤ T.l.length → 3 * (T.l.length - s.i) + 2 ≤ f →
  s.ds.length + 2 * (T.l.length - s.i) + 4 ≤ 1099511627776 → deep ≤ 12 → CalM Tryd.prog 65 #[ptr pb] I (QSt pb la lc T s deep da dc) (ToQE pb la lc T deep (Sp.atom T f deep s))
def ExprQ (T : Sp.Src) (pb f : Nat) : Prop := ∀ (I : Imm) (la : Option Addr) (lc deep : Nat) (da : Option Addr) (dc : Nat) (s : Sp.St) (m : Nat), Conv I → TokR I T la lc → s.i ≤ T.l.length → 3 * (T.l.length - s.i) + 3 ≤ f →
  s.ds.length + 2 * (T.l.length - s.i) + 4 ≤ 1099511627776 → deep ≤ 12 → CalM Tryd.prog 63 #[ptr pb, nt m] I (QSt pb la lc T s deep da dc) (ToQE pb la lc T deep (Sp.expr T f deep m s))
structure QExp where
  f : Nat
  e : Sp.Ex
  s : Sp.St
  I : Imm
  ea : Option Addr
  ec : Nat
  xs : List Value
  da : Option Addr
  dc : Nat
set_option maxHeartbeats 4000000 in
theorem p_expr_step (T : Sp.Src) (pb : Nat) (hT : Ok T) (n : Nat) (ih : ∀ g, g < n → AtomQ T pb g ∧ ExprQ T pb g) : ExprQ T pb n := by
  intro I la lc deep da dc s m hC hr hi hf hd hdp
  obtain ⟨f, rfl⟩ : ∃ f, n = f + 1 := ⟨n - 1, by omega⟩
  have h2 := hT.size
  have h3 := hT.len
  have hat := (ih f (by omega)).1 I la lc deep da dc s hC hr hi (by omega) hd hdp
  have hg := (Sp.goes_expr T f).1 deep s
  rw [Sp.expr]
  generalize Sp.atom T f deep s = r0 at hat hg ⊢
  have hg1 := hg.le
  have hg2 := hg.top hi
  have hg3 := hg.ds
  refine CalM.of fun w E hm => enter (N := 47) Tryd.func63 rfl [(0, ptr pb), (1, nt m)] args2 rfl ?_
  repeat' (first
  | (refine m_call hm (hc:=hat) (k:=?_); clear hm; rintro _ I1 _ _ ⟨⟨ea, ec, xs, rfl, hrow, hexs⟩, da1, dc1, rfl⟩ hle hm; have hleI1 := hle; try simp only [setn] at hm)
  | (refine m_allocS (d:=4) hm (k:=?_); clear hm; intro b4 _ hm)
  | (refine m_varS (d:=5) hm (k:=?_); clear hm; intro b5 _ hm)
  | refine op_move (k:=?_)
  | refine wl_nil ?_
  | refine at_then_normal ?_
  | refine wc_seq ?_
  | refine wc_region ?_
  | refine wc_block ?_)
  refine wc_loop (fun x : QExp => [(0, ptr pb), (1, nt m), (4, ptr b4), (5, ptr b5)])
    (fun x w' => Mem E x.I [qObj pb la lc T x.s deep x.da x.dc, dgRow x.s.ds x.da x.dc, .cell b5 (exCells x.e x.ea x.ec) 74, .cell b4 ex0 74] w' ∧ Le I x.I ∧ RowI x.I 74 6 (.slice x.ea x.e.args.length x.ec) x.e.args.length x.xs ∧ ExsAt x.I x.e.args x.xs ∧
      Sp.opL T x.f deep m x.e x.s = Sp.opL T f deep m r0.1 r0.2 ∧ 3 * (T.l.length - x.s.i) + 1 ≤ x.f ∧ x.f ≤ f ∧ x.s.i ≤ T.l.length ∧ x.s.ds.length + 2 * (T.l.length - x.s.i) ≤ s.ds.length + 2 * (T.l.length - s.i) + 1)
    (fun x => T.l.length - x.s.i) ⟨f, r0.1, r0.2, I1, ea, ec, xs, da1, dc1⟩ (by exact ⟨rfl, rfl, rfl, rfl, trivial⟩) ⟨hm.perm pm2_1, hleI1, hrow, hexs, rfl, by dsimp only; omega, Nat.le_refl _, hg2, by dsimp only; omega⟩ ?_
  clear hm hrow hexs hleI1
  rintro ⟨f1, e1, s1, I2, ea1, ec1, xs1, da2, dc2⟩ w2 ⟨hm, hle0, hrow, hexs, hO, hf1, hff, hi1, hd1⟩
  dsimp only at hm hle0 hrow hexs hO hf1 hff hi1 hd1 ⊢
  obtain ⟨f1, rfl⟩ : ∃ f', f1 = f' + 1 := ⟨f1 - 1, by omega⟩
  rw [Sp.opL] at hO
  dsimp only at hO
  replace hr := hr.le hle0
  replace hC := hC.le hle0
  have h1 := hT.at_ s1.i
  have ht := p_tight (T.tok s1.i).text
  by_cases hc : Sp.tight (T.tok s1.i).text < m ∨ Sp.tight (T.tok s1.i).text = 0
  · rw [if_pos hc] at hO
    rw [← hO]
    repeat' (first
    | (refine m_readC hm (hc:=p_peek s1 hr) (k:=?_); clear hm; intro _ hm)
    | (refine op_call (hc:=by exact ht _) (k:=?_); rintro _ _ ⟨rfl, rfl⟩)
    | refine m_loadAll hm (k:=?_)
    | (refine m_storeAll hm (k:=?_); clear hm; intro _ hm; try simp only [setn] at hm)
    | refine m_ret_agg hm (h:=?_)
    | refine op_move (k:=?_)
    | refine op_assign (k:=?_)
    | refine op_pick_true (k:=?_)
    | refine op_pick_false (k:=?_)
    | refine op_lss (k:=?_)
    | refine op_eql (k:=?_)
    | refine wl_skip (k:=?_)
    | (refine wl_split_dec (h1:=fun _ => ?_) (h0:=fun _ => ?_)<;> (try first | contradiction | (exfalso; omega)))
    | refine wl_nil ?_
    | refine at_then_normal ?_
    | refine at_then_ret ?_
    | refine at_block_ret ?_
    | refine wc_seq ?_
    | refine wc_region ?_
    | refine wc_block ?_
    | refine wc_ret ?_
    | refine wc_cond_true (ht:=?_)
    | (refine wc_cond_dec (ht:=fun _ => ?_) (hf:=fun _ => ?_)<;> (try first | contradiction | (exfalso; omega))))
    all_goals first
      | exact ⟨I2, _, ⟨⟨ea1, ec1, xs1, rfl, hrow, hexs⟩, da2, dc2, rfl⟩, hm.left (H := [_, _])⟩
      | (exfalso; omega)
  · rw [if_neg hc] at hO
    have htl := Sp.tight_le (T.tok s1.i).text
    have hlt : s1.i < T.l.length := Sp.tok_lt (Sp.tight_ne (by omega))
    have hex := fun da dc => (ih f1 (by omega)).2 I2 la lc deep da dc s1.next (Sp.tight (T.tok s1.i).text + 1) hC hr (by rw [Sp.next_i]; omega) (by rw [Sp.next_i]; omega) (by rw [Sp.next_i, Sp.next_ds]; omega) hdp
    have hg := (Sp.goes_expr T f1).2.2.1 deep (Sp.tight (T.tok s1.i).text + 1) s1.next
    generalize Sp.expr T f1 deep (Sp.tight (T.tok s1.i).text + 1) s1.next = r at hO hex hg
    have hg1 := hg.le
    have hg2 := hg.top (by rw [Sp.next_i]; omega)
    have hg3 := hg.ds
    rw [Sp.next_i] at hg1 hg3
    rw [Sp.next_ds] at hg3
    repeat' (first
    | (refine m_readC hm (hc:=p_peek s1 hr) (k:=?_); clear hm; intro _ hm)
    | (refine op_call (hc:=by exact ht _) (k:=?_); rintro _ _ ⟨rfl, rfl⟩)
    | (refine m_call hm (hc:=hex _ _) (k:=?_); clear hm; rintro _ I3 _ _ ⟨⟨ea2, ec2, xs2, rfl, hrow2, hexs2⟩, da3, dc3, rfl⟩ hle hm; have hleI3 := hle; try simp only [setn] at hm)
    | (refine i_buildSlice hm (k:=?_); clear hm; intro I4 a4 _ hle4 hm hrow4)
    | (refine op_max (by rfl) (by rfl) (by rfl) (by rfl) ?_)
    | (refine m_varS (d:=8) hm (k:=?_); clear hm; intro b8 _ hm)
    | refine m_load1 hm (k:=?_)
    | refine m_loadAll hm (k:=?_)
    | (refine m_storeAll hm (k:=?_); clear hm; intro _ hm; try simp only [setn] at hm)
    | (refine m_store1 hm (k:=?_); clear hm; intro _ hm; try simp only [setn] at hm)
    | refine op_move (k:=?_)
    | refine op_assign (k:=?_)
    | refine op_pick_false (k:=?_)
    | refine op_lss (k:=?_)
    | refine op_eql (k:=?_)
    | refine op_nilCheck (k:=?_)
    | refine op_add (k:=?_)
    | refine op_fieldAddr (k:=?_)
    | refine op_struct (k:=?_)
    | (refine wl_split_dec (h1:=fun _ => ?_) (h0:=fun _ => ?_)<;> (try first | contradiction | (exfalso; omega)))
    | refine wl_nil ?_
    | refine at_then_normal ?_
    | refine at_block_normal ?_
    | refine wc_seq ?_
    | refine wc_region ?_
    | refine wc_block ?_
    | refine wc_skip ?_
    | (refine wc_cond_dec (ht:=fun _ => ?_) (hf:=fun _ => ?_)<;> (try first | contradiction | (exfalso; omega))))
    all_goals try (exfalso; omega)
    exact at_round (⟨f1, .mk 3 (T.tok s1.i).text 0 [e1, r.1] e1.fr (max r.1.to e1.to), r.2, I4, a4, 2, _, da3, dc3⟩ : QExp) (by exact ⟨rfl, rfl, rfl, rfl, trivial⟩)
      ⟨hm.tl, (hle0.trans hleI3).trans hle4, hrow4, exs2 (ExAt.le (hleI3.trans hle4) _ _ (exAt_cells hrow hexs)) (ExAt.le hle4 _ _ (exAt_cells hrow2 hexs2)), hO, by dsimp only; omega, by dsimp only; omega, hg2, by dsimp only; omega⟩ (by dsimp only; omega)
end Go.Proofs.YtghommdgmglmdaaDoor
end
section
namespace Go.Proofs.YtghommdgmglmdaaDoor
open Go.Fw
section
variable {T : Sp.Src} {pb f : Nat} {I : Imm} {la : Option Addr} {lc deep : Nat} {da : Option Addr} {dc : Nat} {s : Sp.St}
/-- the end of 'atom', its deferred step back. -/
theorem p_retA {E : Ent} {N i b1 b2 ec : Nat} {ea : Option Addr} {xs : List Value} {R : List HItem} {l : Log} {w : World} {e : Sp.Ex} {s' : Sp.St} (hdp : deep ≤ 12) (hx : lk l 2 = some (ptr b2))
    (hm : Mem E I (.cell b1 [ptr pb] 84 :: qObj pb la lc T s' (deep + 1) da dc :: dgRow s'.ds da dc :: R) w) (hb : R[i]? = some (.cell b2 (exCells e ea ec) 74))
    (hrow : RowI I 74 6 (.slice ea e.args.length ec) e.args.length xs) (hexs : ExsAt I e.args xs) :
    At N [⟨.fn (.func 68) #[ptr b1], #[]⟩] (bodyPostD Tryd.prog Tryd.f65 (Ret (fun v w' => ∃ I' H', ToQE pb la lc T deep (e, s') v I' H' ∧ Mem E I' H' w'))) .ret l w :=
  m_retD_cell (i := i + 3) (H' := .cell b1 [ptr pb] 84 :: qObj pb la lc T s' deep da dc :: dgRow s'.ds da dc :: R) rfl hx (p_decA hdp hm) hb rfl
    (fun _w' hm' => ⟨I, _, ⟨⟨ea, ec, xs, rfl, hrow, hexs⟩, da, dc, rfl⟩, hm'.tl.left (H := [_, _])⟩)
theorem ex0_row (I : Imm) : RowI I 74 6 (.slice none ([] : List Sp.Ex).length 0) ([] : List Sp.Ex).length [] := rowI_nil _ _ _ _ _
set_option maxHeartbeats 4000000 in
theorem pa_end (hT : Ok T) (hr : TokR I T la lc) (hi : s.i ≤ T.l.length) (hd : s.ds.length + 4 ≤ 1099511627776) (hend : T.l.length ≤ s.i) :
    CalM Tryd.prog 65 #[ptr pb] I (QSt pb la lc T s deep da dc) (ToQE pb la lc T deep (Sp.none_ T s 2)) := by
  refine CalM.of fun w E hm => enter_defers (N := 153) Tryd.func65 rfl [(0, ptr pb)] args1 rfl ?_
  repeat' (first
  | (refine m_readC hm (hc:=p_here s hr) (k:=?_); clear hm; intro _ hm)
  | (refine m_call hm (hc:=p_none s 2 hr hT hi (by omega)) (k:=?_); clear hm; rintro _ _ _ _ ⟨⟨ea, ec, xs, rfl, hrow, hexs⟩, da', dc', rfl⟩ hle hm; try simp only [setn] at hm)
  | (refine at_retD0_cell hm (h:=?_))
  | (refine m_box (d:=1) hm (k:=?_); clear hm; intro b1 _ hm)
  | (refine m_allocS (d:=2) hm (k:=?_); clear hm; intro b2 _ hm)
  | refine m_load1 hm (k:=?_)
  | refine mq_load1 hm (k:=?_)
  | (refine m_storeAll hm (k:=?_); clear hm; intro _ hm; try simp only [setn] at hm)
  | refine op_assign (k:=?_)
  | refine wl_nil ?_
  | refine at_then_normal ?_
  | refine at_then_ret ?_
  | refine wc_seq ?_
  | refine wc_region ?_
  | refine wc_ret ?_
  | refine wc_quiet (h:=?_)
  | (refine wq_nil ?_; intro _ hkq; replace hm := hm.kept0 hkq; clear hkq)
  | (refine wc_cond_dec (ht:=fun _ => ?_) (hf:=fun _ => ?_)<;> (try first | contradiction | (exfalso; omega)))
  | refine q_eql (k:=?_)
  | refine q_len_slice (k:=?_)
  | refine q_nilCheck (k:=?_)
  | refine q_fieldAddr (k:=?_))
  all_goals try (exfalso; omega)
  exact ⟨_, _, ⟨⟨ea, ec, xs, rfl, hrow, hexs⟩, da', dc', rfl⟩, hm.left (H := [_, _])⟩
set_option maxHeartbeats 4000000 in
theorem pa_deep (hT : Ok T) (hr : TokR I T la lc) (hi : s.i ≤ T.l.length) (hd : s.ds.length + 4 ≤ 1099511627776) (hend : s.i < T.l.length) (hdp : deep = 12) :
    CalM Tryd.prog 65 #[ptr pb] I (QSt pb la lc T s deep da dc) (ToQE pb la lc T deep (Sp.none_ T s 12)) := by
  refine CalM.of fun w E hm => enter_defers (N := 153) Tryd.func65 rfl [(0, ptr pb)] args1 rfl ?_
  repeat' (first
  | (refine m_readC hm (hc:=p_here s hr) (k:=?_); clear hm; intro _ hm)
  | (refine m_call hm (hc:=p_none s 12 hr hT hi (by omega)) (k:=?_); clear hm; rintro _ _ _ _ ⟨⟨ea, ec, xs, rfl, hrow, hexs⟩, da', dc', rfl⟩ hle hm; try simp only [setn] at hm)
  | (refine at_retD0_cell hm (h:=?_))
  | (refine m_box (d:=1) hm (k:=?_); clear hm; intro b1 _ hm)
  | (refine m_allocS (d:=2) hm (k:=?_); clear hm; intro b2 _ hm)
  | refine m_load1 hm (k:=?_)
  | refine mq_load1 hm (k:=?_)
  | (refine m_storeAll hm (k:=?_); clear hm; intro _ hm; try simp only [setn] at hm)
  | refine op_assign (k:=?_)
  | refine op_eql (k:=?_)
  | refine op_nilCheck (k:=?_)
  | refine op_fieldAddr (k:=?_)
  | refine wl_nil ?_
  | refine at_then_normal ?_
  | refine at_then_ret ?_
  | refine wc_seq ?_
  | refine wc_region ?_
  | refine wc_skip ?_
  | refine wc_ret ?_
  | refine wc_quiet (h:=?_)
  | (refine wq_nil ?_; intro _ hkq; replace hm := hm.kept0 hkq; clear hkq)
  | (refine wc_cond_dec (ht:=fun _ => ?_) (hf:=fun _ => ?_)<;> (try first | contradiction | (exfalso; omega)))
  | refine q_eql (k:=?_)
  | refine q_len_slice (k:=?_)
  | refine q_nilCheck (k:=?_)
  | refine q_fieldAddr (k:=?_))
  all_goals try (exfalso; omega)
  exact ⟨_, _, ⟨⟨ea, ec, xs, rfl, hrow, hexs⟩, da', dc', rfl⟩, hm.left (H := [_, _])⟩
set_option maxHeartbeats 4000000 in
theorem pa_none (hT : Ok T) (hr : TokR I T la lc) (hi : s.i ≤ T.l.length) (hd : s.ds.length + 4 ≤ 1099511627776) (hend : s.i < T.l.length) (hdp : deep < 12) (hk : (T.tok s.i).kind ≠ 2) (hp : (T.tok s.i).text ≠ [40]) (hname : Sp.name (T.tok s.i).text = false) :
    CalM Tryd.prog 65 #[ptr pb] I (QSt pb la lc T s deep da dc) (ToQE pb la lc T deep (Sp.none_ T s 2)) := by
  have h1 := hT.at_ s.i
  have h2 := hT.size
  have htk := tok_get hend
  have hn := c_name (T.tok s.i).text (by omega)
  rw [hname] at hn
  refine CalM.of fun w E hm => enter_defers (N := 153) Tryd.func65 rfl [(0, ptr pb)] args1 rfl ?_
  repeat' (first
  | (refine m_readC hm (hc:=p_here s hr) (k:=?_); clear hm; intro _ hm)
  | (refine wc_semi_mem (id:=8) (hm.perm pm0) 10 11 (h:=?_); clear hm; intro wd hR hm)
  | (refine iw_indexFlat (hr:=by exact hr) (he:=by intro _; rfl) (hz:=by exact htk) (k:=?_); intro b1' o1 hp1)
  | (refine op_call (hc:=by exact hn _) (k:=?_); rintro _ _ ⟨rfl, hk⟩; replace hm := hm.kept0 hk)
  | (refine m_call hm (hc:=p_none s 2 hr hT hi (by omega)) (k:=?_); clear hm; rintro _ _ _ _ ⟨⟨ea, ec, xs, rfl, hrow, hexs⟩, da', dc', rfl⟩ hle hm; try simp only [setn] at hm)
  | refine mw_load1 hR (k:=?_)
  | refine iw_loadN hR (k:=?_)
  | (refine mt_allocS (d:=4) hm (k:=?_); clear hm; intro b4 _ hm)
  | (refine ws_nil ?_; replace hm := hR.back hm; clear hR; try simp only [setn] at hm)
  | (refine m_box (d:=1) hm (k:=?_); clear hm; intro b1 _ hm)
  | (refine m_allocS (d:=2) hm (k:=?_); clear hm; intro b2 _ hm)
  | refine m_load1 hm (k:=?_)
  | refine mq_load1 hm (k:=?_)
  | (refine m_storeAll hm (k:=?_); clear hm; intro _ hm; try simp only [setn] at hm)
  | (refine m_store1 hm (k:=?_); clear hm; intro _ hm; try simp only [setn] at hm)
  | refine op_assign (k:=?_)
  | refine op_eql (k:=?_)
  | refine op_eql_str (k:=?_)
  | refine op_not (k:=?_)
  | refine op_nilCheck (k:=?_)
  | refine op_makeFunc (k:=?_)
  | refine op_add (k:=?_)
  | refine op_fieldAddr (k:=?_)
  | refine wl_nil ?_
  | refine at_then_normal ?_
  | refine at_then_ret ?_
  | refine at_block_ret ?_
  | refine wc_seq ?_
  | refine wc_region ?_
  | refine wc_block ?_
  | refine wc_skip ?_
  | refine wc_ret ?_
  | refine op_defer (k:=?_)
  | refine wc_quiet (h:=?_)
  | (refine wq_nil ?_; intro _ hkq; replace hm := hm.kept0 hkq; clear hkq)
  | refine wc_cond_true (ht:=?_)
  | (refine wc_cond_dec (ht:=fun _ => ?_) (hf:=fun _ => ?_)<;> (try first | contradiction | (exfalso; omega)))
  | refine q_eql (k:=?_)
  | refine q_len_slice (k:=?_)
  | refine q_nilCheck (k:=?_)
  | refine q_fieldAddr (k:=?_)
  | refine v_nilCheck (k:=?_)
  | refine v_fieldAddr (k:=?_)
  | refine wv_nil ?_)
  all_goals try (exfalso; first | omega | contradiction)
  exact p_retA (i := 1) (by omega) rfl (hm.front 4 rfl) rfl hrow hexs
set_option maxHeartbeats 4000000 in
theorem pa_num (hT : Ok T) (hC : Conv I) (hr : TokR I T la lc) (hi : s.i ≤ T.l.length) (hd : s.ds.length + 4 ≤ 1099511627776) (hend : s.i < T.l.length) (hdp : deep < 12) (hk : (T.tok s.i).kind = 2) :
    CalM Tryd.prog 65 #[ptr pb] I (QSt pb la lc T s deep da dc) (ToQE pb la lc T deep
      (if 1000000000 < Sp.digits (T.tok s.i).text then (.mk 1 [] 0 [] (T.tok s.i).pos ((T.tok s.i).pos + (T.tok s.i).text.length), (s.bad T 3).next) else (.mk 1 [] (Sp.digits (T.tok s.i).text) [] (T.tok s.i).pos ((T.tok s.i).pos + (T.tok s.i).text.length), s.next))) := by
  have h1 := hT.at_ s.i
  have h2 := hT.size
  have h3 := hT.len
  have htk := tok_get hend
  have hl1 : 1 ≤ (T.tok s.i).text.length := by
    rw [Sp.Src.tok, List.getD_eq_getElem?_getD, List.getElem?_eq_getElem hend]
    exact hT.len1 _ (List.getElem_mem hend)
  have hat := p_atoi (I := I) (T.tok s.i).text hl1 (by omega) (hT.digs hk) hC
  have hbi : (s.bad T 3).i = s.i := rfl
  have hen : T.endOf (s.i + 1) = (T.tok s.i).pos + (T.tok s.i).text.length := rfl
  have hls := p_last (pb := pb) (deep := deep + 1) (da := da) (dc := dc) s.next hr hT (by rw [Sp.next_i]; omega)
  have hlb := fun da dc => p_last (pb := pb) (deep := deep + 1) (da := da) (dc := dc) (s.bad T 3).next hr hT (by rw [Sp.next_i]; omega)
  rw [show T.endOf s.next.i = (T.tok s.i).pos + (T.tok s.i).text.length from hen] at hls
  rw [show T.endOf (s.bad T 3).next.i = (T.tok s.i).pos + (T.tok s.i).text.length from hen] at hlb
  refine CalM.of fun w E hm => enter_defers (N := 153) Tryd.func65 rfl [(0, ptr pb)] args1 rfl ?_
  by_cases hbig : 1000000000 < Sp.digits (T.tok s.i).text
  · rw [if_pos hbig]
    repeat' (first
    | (refine m_readC hm (hc:=p_here s hr) (k:=?_); clear hm; intro _ hm)
    | (refine wc_semi_mem (id:=8) (hm.perm pm0) 10 11 (h:=?_); clear hm; intro wd hR hm)
    | (refine iw_indexFlat (hr:=by exact hr) (he:=by intro _; rfl) (hz:=by exact htk) (k:=?_); intro b1' o1 hp1)
    | (refine m_call hm (hc:=hat) (k:=?_); clear hm; rintro _ _ _ _ ⟨rfl, rfl, (⟨hsm, rfl⟩ | ⟨_, nv, ev, rfl, (⟨rfl, hnv⟩ | ⟨te, pe, rfl⟩)⟩)⟩ hle hm; try simp only [setn] at hm)
    | (refine op_neq_held (by rfl) (by rfl) (by rfl) (by rfl) (by kernel_rfl) ?_)
    | (refine op_neq_none (by rfl) (by rfl) (by rfl) (by rfl) (by kernel_rfl) ?_)
    | (refine m_call hm (hc:=p_tell s 3 hr hT hi (by omega)) (k:=?_); clear hm; rintro _ _ _ _ ⟨rfl, rfl, da', dc', rfl⟩ hle hm; try simp only [setn] at hm)
    | (refine m_readC hm (hc:=hlb _ _) (k:=?_); clear hm; intro _ hm)
    | refine mw_load1 hR (k:=?_)
    | refine iw_loadN hR (k:=?_)
    | (refine mt_allocS (d:=4) hm (k:=?_); clear hm; intro b4 _ hm)
    | (refine ws_nil ?_; replace hm := hR.back hm; clear hR; try simp only [setn] at hm)
    | (refine m_box (d:=1) hm (k:=?_); clear hm; intro b1 _ hm)
    | (refine m_allocS (d:=2) hm (k:=?_); clear hm; intro b2 _ hm)
    | refine m_load1 hm (k:=?_)
    | refine mq_load1 hm (k:=?_)
    | (refine m_storeAll hm (k:=?_); clear hm; intro _ hm; try simp only [setn] at hm)
    | (refine m_store1 hm (k:=?_); clear hm; intro _ hm; try simp only [setn] at hm)
    | refine op_move (k:=?_)
    | refine op_assign (k:=?_)
    | refine op_pick_true (k:=?_)
    | refine op_pick_false (k:=?_)
    | refine op_gtr (k:=?_)
    | refine op_eql (k:=?_)
    | refine op_extract (k:=?_)
    | refine op_nilCheck (k:=?_)
    | refine op_makeFunc (k:=?_)
    | refine op_add (k:=?_)
    | refine op_fieldAddr (k:=?_)
    | refine op_struct (k:=?_)
    | refine wl_skip (k:=?_)
    | refine wl_nil ?_
    | refine at_then_normal ?_
    | refine at_then_ret ?_
    | refine at_block_ret ?_
    | refine wc_seq ?_
    | refine wc_region ?_
    | refine wc_block ?_
    | refine wc_skip ?_
    | refine wc_ret ?_
    | refine op_defer (k:=?_)
    | refine wc_quiet (h:=?_)
    | (refine wq_nil ?_; intro _ hkq; replace hm := hm.kept0 hkq; clear hkq)
    | refine wc_cond_true (ht:=?_)
    | (refine wc_cond_dec (ht:=fun _ => ?_) (hf:=fun _ => ?_)<;> (try first | contradiction | (exfalso; omega)))
    | refine q_eql (k:=?_)
    | refine q_len_slice (k:=?_)
    | refine q_nilCheck (k:=?_)
    | refine q_fieldAddr (k:=?_)
    | refine v_nilCheck (k:=?_)
    | refine v_fieldAddr (k:=?_)
    | refine wv_nil ?_)
    all_goals try (exfalso; first | omega | contradiction)
    all_goals exact p_retA (i := 1) (e := .mk 1 [] 0 [] (T.tok s.i).pos ((T.tok s.i).pos + (T.tok s.i).text.length)) (s' := (s.bad T 3).next) (by omega) rfl (hm.front 4 rfl) rfl (ex0_row _) .nil
  · rw [if_neg hbig]
    repeat' (first
    | (refine m_readC hm (hc:=p_here s hr) (k:=?_); clear hm; intro _ hm)
    | (refine wc_semi_mem (id:=8) (hm.perm pm0) 10 11 (h:=?_); clear hm; intro wd hR hm)
    | (refine iw_indexFlat (hr:=by exact hr) (he:=by intro _; rfl) (hz:=by exact htk) (k:=?_); intro b1' o1 hp1)
    | (refine m_call hm (hc:=hat) (k:=?_); clear hm; rintro _ _ _ _ ⟨rfl, rfl, (⟨hsm, rfl⟩ | ⟨hbg, nv, ev, rfl, _⟩)⟩ hle hm; try simp only [setn] at hm)
    | (refine op_neq_none (by rfl) (by rfl) (by rfl) (by rfl) (by kernel_rfl) ?_)
    | (refine m_readC hm (hc:=hls) (k:=?_); clear hm; intro _ hm)
    | refine mw_load1 hR (k:=?_)
    | refine iw_loadN hR (k:=?_)
    | (refine mt_allocS (d:=4) hm (k:=?_); clear hm; intro b4 _ hm)
    | (refine ws_nil ?_; replace hm := hR.back hm; clear hR; try simp only [setn] at hm)
    | (refine m_box (d:=1) hm (k:=?_); clear hm; intro b1 _ hm)
    | (refine m_allocS (d:=2) hm (k:=?_); clear hm; intro b2 _ hm)
    | refine m_load1 hm (k:=?_)
    | refine mq_load1 hm (k:=?_)
    | (refine m_storeAll hm (k:=?_); clear hm; intro _ hm; try simp only [setn] at hm)
    | (refine m_store1 hm (k:=?_); clear hm; intro _ hm; try simp only [setn] at hm)
    | refine op_move (k:=?_)
    | refine op_assign (k:=?_)
    | refine op_pick_false (k:=?_)
    | refine op_gtr (k:=?_)
    | refine op_eql (k:=?_)
    | refine op_extract (k:=?_)
    | refine op_nilCheck (k:=?_)
    | refine op_makeFunc (k:=?_)
    | refine op_add (k:=?_)
    | refine op_fieldAddr (k:=?_)
    | refine op_struct (k:=?_)
    | refine wl_nil ?_
    | refine at_then_normal ?_
    | refine at_then_ret ?_
    | refine at_block_ret ?_
    | refine wc_seq ?_
    | refine wc_region ?_
    | refine wc_block ?_
    | refine wc_skip ?_
    | refine wc_ret ?_
    | refine op_defer (k:=?_)
    | refine wc_quiet (h:=?_)
    | (refine wq_nil ?_; intro _ hkq; replace hm := hm.kept0 hkq; clear hkq)
    | (refine wc_cond_dec (ht:=fun _ => ?_) (hf:=fun _ => ?_)<;> (try first | contradiction | (exfalso; omega)))
    | refine q_eql (k:=?_)
    | refine q_len_slice (k:=?_)
    | refine q_nilCheck (k:=?_)
    | refine q_fieldAddr (k:=?_)
    | refine v_nilCheck (k:=?_)
    | refine v_fieldAddr (k:=?_)
    | refine wv_nil ?_)
    all_goals try (exfalso; first | omega | contradiction)
    exact p_retA (i := 1) (e := .mk 1 [] (Sp.digits (T.tok s.i).text) [] (T.tok s.i).pos ((T.tok s.i).pos + (T.tok s.i).text.length)) (s' := s.next) (by omega) rfl (((hm.front 4 rfl).front 4 rfl).front 4 rfl) rfl (ex0_row _) .nil
end
end Go.Proofs.YtghommdgmglmdaaDoor
end
section
namespace Go.Proofs.YtghommdgmglmdaaDoor
open Go.Fw
section
variable {T : Sp.Src} {pb f : Nat} {I : Imm} {la : Option Addr} {lc deep : Nat} {da : Option Addr} {dc : Nat} {s : Sp.St}
set_option maxHeartbeats 4000000 in
theorem pa_par (hT : Ok T) (hC : Conv I) (hr : TokR I T la lc) (hf : 3 * (T.l.length - s.i) + 2 ≤ f + 1) (ih : ExprQ T pb f)
    (hd : s.ds.length + 2 * (T.l.length - s.i) + 4 ≤ 1099511627776) (hend : s.i < T.l.length) (hdp : deep < 12) (hk : (T.tok s.i).kind ≠ 2) (hpar : (T.tok s.i).text = [40]) :
    CalM Tryd.prog 65 #[ptr pb] I (QSt pb la lc T s deep da dc) (ToQE pb la lc T deep ((Sp.expr T f (deep + 1) 1 s.next).1, ((Sp.expr T f (deep + 1) 1 s.next).2.need T [41]).2)) := by
  have h1 := hT.at_ s.i
  have h2 := hT.size
  have h3 := hT.len
  have htk := tok_get hend
  have hex := fun da dc => ih I la lc (deep + 1) da dc s.next 1 hC hr (by rw [Sp.next_i]; omega) (by rw [Sp.next_i]; omega) (by rw [Sp.next_i, Sp.next_ds]; omega) (by omega)
  have hg := (Sp.goes_expr T f).2.2.1 (deep + 1) 1 s.next
  generalize Sp.expr T f (deep + 1) 1 s.next = r at hex hg ⊢
  have hg1 := hg.le
  have hg2 := hg.top (by rw [Sp.next_i]; omega)
  have hg3 := hg.ds
  rw [Sp.next_i] at hg1 hg3
  rw [Sp.next_ds] at hg3
  refine CalM.of fun w E hm => enter_defers (N := 153) Tryd.func65 rfl [(0, ptr pb)] args1 rfl ?_
  repeat' (first
  | (refine m_readC hm (hc:=p_here s hr) (k:=?_); clear hm; intro _ hm)
  | (refine wc_semi_mem (id:=8) (hm.perm pm0) 10 11 (h:=?_); clear hm; intro wd hR hm)
  | (refine iw_indexFlat (hr:=by exact hr) (he:=by intro _; rfl) (hz:=by exact htk) (k:=?_); intro b1' o1 hp1)
  | (refine m_call hm (hc:=hex _ _) (k:=?_); clear hm; rintro _ I2 _ _ ⟨⟨ea, ec, xs, rfl, hrow, hexs⟩, da', dc', rfl⟩ hle hm; have hleI2 := hle; try simp only [setn] at hm)
  | (refine m_call hm (hc:=p_must r.2 [41] (by simp) (hr.le hleI2) hT (by omega) hg2) (k:=?_); clear hm; rintro _ _ _ _ ⟨rfl, rfl, da2, dc2, rfl⟩ hle hm; try simp only [setn] at hm)
  | refine mw_load1 hR (k:=?_)
  | refine iw_loadN hR (k:=?_)
  | (refine mt_allocS (d:=4) hm (k:=?_); clear hm; intro b4 _ hm)
  | (refine ws_nil ?_; replace hm := hR.back hm; clear hR; try simp only [setn] at hm)
  | (refine m_box (d:=1) hm (k:=?_); clear hm; intro b1 _ hm)
  | (refine m_allocS (d:=2) hm (k:=?_); clear hm; intro b2 _ hm)
  | (refine m_varS (d:=7) hm (k:=?_); clear hm; intro b7 _ hm)
  | refine m_load1 hm (k:=?_)
  | refine m_loadAll hm (k:=?_)
  | refine mq_load1 hm (k:=?_)
  | (refine m_storeAll hm (k:=?_); clear hm; intro _ hm; try simp only [setn] at hm)
  | (refine m_store1 hm (k:=?_); clear hm; intro _ hm; try simp only [setn] at hm)
  | refine op_assign (k:=?_)
  | refine op_eql (k:=?_)
  | refine op_eql_str (k:=?_)
  | refine op_nilCheck (k:=?_)
  | refine op_makeFunc (k:=?_)
  | refine op_add (k:=?_)
  | refine op_fieldAddr (k:=?_)
  | refine wl_nil ?_
  | refine at_then_normal ?_
  | refine at_then_ret ?_
  | refine at_block_ret ?_
  | refine wc_seq ?_
  | refine wc_region ?_
  | refine wc_block ?_
  | refine wc_skip ?_
  | refine wc_ret ?_
  | refine op_defer (k:=?_)
  | refine wc_quiet (h:=?_)
  | (refine wq_nil ?_; intro _ hkq; replace hm := hm.kept0 hkq; clear hkq)
  | (refine wc_cond_dec (ht:=fun _ => ?_) (hf:=fun _ => ?_)<;> (try first | contradiction | (exfalso; omega)))
  | refine q_eql (k:=?_)
  | refine q_len_slice (k:=?_)
  | refine q_nilCheck (k:=?_)
  | refine q_fieldAddr (k:=?_)
  | refine v_nilCheck (k:=?_)
  | refine v_fieldAddr (k:=?_)
  | refine wv_nil ?_)
  all_goals try (exfalso; first | omega | contradiction)
  exact p_retA (i := 2) (e := r.1) (s' := (r.2.need T [41]).2) (by omega) rfl (hm.front 5 rfl) rfl hrow hexs
set_option maxHeartbeats 4000000 in
theorem pa_var (hT : Ok T) (hr : TokR I T la lc) (_hi : s.i ≤ T.l.length) (_hd : s.ds.length + 4 ≤ 1099511627776) (hend : s.i < T.l.length) (hdp : deep < 12) (hk : (T.tok s.i).kind ≠ 2) (hp : (T.tok s.i).text ≠ [40]) (hname : Sp.name (T.tok s.i).text = true) (hopen : T.is (s.i + 1) [40] = false) :
    CalM Tryd.prog 65 #[ptr pb] I (QSt pb la lc T s deep da dc) (ToQE pb la lc T deep (.mk 2 (T.tok s.i).text 0 [] (T.tok s.i).pos ((T.tok s.i).pos + (T.tok s.i).text.length), s.next)) := by
  have h1 := hT.at_ s.i
  have h2 := hT.size
  have h3 := hT.len
  have htk := tok_get hend
  have hn := c_name (T.tok s.i).text (by omega)
  rw [hname] at hn
  have he := fun da dc => p_eat (pb := pb) (deep := deep + 1) (da := da) (dc := dc) s.next [40] (by simp) hr hT (by rw [Sp.next_i]; omega)
  rw [show T.is s.next.i [40] = false from hopen, if_neg (by simp)] at he
  have hen : T.endOf (s.i + 1) = (T.tok s.i).pos + (T.tok s.i).text.length := rfl
  have hls := fun da dc => p_last (pb := pb) (deep := deep + 1) (da := da) (dc := dc) s.next hr hT (by rw [Sp.next_i]; omega)
  rw [show T.endOf s.next.i = (T.tok s.i).pos + (T.tok s.i).text.length from hen] at hls
  refine CalM.of fun w E hm => enter_defers (N := 153) Tryd.func65 rfl [(0, ptr pb)] args1 rfl ?_
  repeat' (first
  | (refine m_readC hm (hc:=p_here s hr) (k:=?_); clear hm; intro _ hm)
  | (refine wc_semi_mem (id:=8) (hm.perm pm0) 10 11 (h:=?_); clear hm; intro wd hR hm)
  | (refine iw_indexFlat (hr:=by exact hr) (he:=by intro _; rfl) (hz:=by exact htk) (k:=?_); intro b1' o1 hp1)
  | (refine op_call (hc:=by exact hn _) (k:=?_); rintro _ _ ⟨rfl, hk⟩; replace hm := hm.kept0 hk)
  | (refine m_call hm (hc:=he _ _) (k:=?_); clear hm; rintro _ _ _ _ ⟨rfl, rfl, da', dc', rfl⟩ hle hm; try simp only [setn] at hm)
  | (refine m_readC hm (hc:=hls _ _) (k:=?_); clear hm; intro _ hm)
  | refine mw_load1 hR (k:=?_)
  | refine iw_loadN hR (k:=?_)
  | (refine mt_allocS (d:=4) hm (k:=?_); clear hm; intro b4 _ hm)
  | (refine ws_nil ?_; replace hm := hR.back hm; clear hR; try simp only [setn] at hm)
  | (refine m_box (d:=1) hm (k:=?_); clear hm; intro b1 _ hm)
  | (refine m_allocS (d:=2) hm (k:=?_); clear hm; intro b2 _ hm)
  | (refine m_varS (d:=8) hm (k:=?_); clear hm; intro b8 _ hm)
  | refine m_load1 hm (k:=?_)
  | refine m_loadAll hm (k:=?_)
  | refine mq_load1 hm (k:=?_)
  | (refine m_storeAll hm (k:=?_); clear hm; intro _ hm; try simp only [setn] at hm)
  | (refine m_store1 hm (k:=?_); clear hm; intro _ hm; try simp only [setn] at hm)
  | refine op_move (k:=?_)
  | refine op_assign (k:=?_)
  | refine op_eql (k:=?_)
  | refine op_eql_str (k:=?_)
  | refine op_not (k:=?_)
  | refine op_nilCheck (k:=?_)
  | refine op_makeFunc (k:=?_)
  | refine op_add (k:=?_)
  | refine op_fieldAddr (k:=?_)
  | refine op_struct (k:=?_)
  | refine wl_nil ?_
  | refine at_then_normal ?_
  | refine at_block_normal ?_
  | refine wc_seq ?_
  | refine wc_region ?_
  | refine wc_block ?_
  | refine wc_skip ?_
  | refine wc_ret ?_
  | refine op_defer (k:=?_)
  | refine wc_quiet (h:=?_)
  | (refine wq_nil ?_; intro _ hkq; replace hm := hm.kept0 hkq; clear hkq)
  | refine wc_cond_false (hf:=?_)
  | (refine wc_cond_dec (ht:=fun _ => ?_) (hf:=fun _ => ?_)<;> (try first | contradiction | (exfalso; omega)))
  | refine q_eql (k:=?_)
  | refine q_len_slice (k:=?_)
  | refine q_nilCheck (k:=?_)
  | refine q_fieldAddr (k:=?_)
  | refine v_nilCheck (k:=?_)
  | refine v_fieldAddr (k:=?_)
  | refine wv_nil ?_)
  all_goals try (exfalso; first | omega | contradiction)
  exact p_retA (i := 2) (e := .mk 2 (T.tok s.i).text 0 [] (T.tok s.i).pos ((T.tok s.i).pos + (T.tok s.i).text.length)) (s' := s.next) (by omega) rfl (hm.front 5 rfl) rfl (ex0_row _) .nil
end
end Go.Proofs.YtghommdgmglmdaaDoor
end
