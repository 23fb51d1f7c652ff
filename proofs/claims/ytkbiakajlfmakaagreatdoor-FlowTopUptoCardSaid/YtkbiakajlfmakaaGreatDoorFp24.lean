/- Own work: texts RnE, RnF, Label, FlA, one behind the other. -/
import Derived.Test.YtkbiakajlfmakaaGreatDoorFp23
section
namespace Go.Sp
theorem taken_find {its : List Itm} {i : Nat} {it : Itm} (hi : its[i]? = some it) (h3 : it.kind ≠ 3) (hn : it.name ≠ []) : ∃ j, findIt its it.kind it.name = some j ∧ j ≤ i ∧ (taken its i it = decide (j < i)) := by
  have hself : itIs it.kind it.name it = true := by simp [itIs, hn]
  obtain ⟨hil, hie⟩ := List.getElem?_eq_some_iff.1 hi
  cases hf : findIt its it.kind it.name with
  | none =>
    rw [findIt, List.findIdx?_eq_none_iff] at hf
    have := hf it (List.mem_of_getElem? hi)
    rw [hself] at this; cases this
  | some j =>
    obtain ⟨hj, hjt, hmin⟩ := List.findIdx?_eq_some_iff_getElem.1 hf
    have hji : j ≤ i := by
      rcases Nat.lt_or_ge i j with h | h
      · exact absurd (by rw [hie]; exact hself) (hmin i h)
      · exact h
    refine ⟨j, rfl, hji, ?_⟩
    have htk : taken its i it = (decide (it.kind ≠ 3) && (decide (it.name ≠ []) && (its.take i).any (same it))) := rfl
    rw [htk, decide_eq_true h3, decide_eq_true hn, Bool.true_and, Bool.true_and]
    by_cases hlt : j < i
    · rw [decide_eq_true hlt]
      refine any_take_some hlt (List.getElem?_eq_getElem hj) ?_
      simp only [itIs, Bool.and_eq_true, decide_eq_true_eq] at hjt
      simp only [same, Bool.and_eq_true, decide_eq_true_eq]
      exact ⟨by omega, hjt.2.1⟩
    · rw [decide_eq_false hlt]
      refine any_take_none (by omega) (fun k x hk hx => ?_)
      obtain ⟨hkl, hke⟩ := List.getElem?_eq_some_iff.1 hx
      have := hmin k (by omega)
      rw [hke] at this
      cases hs : same it x with
      | false => rfl
      | true =>
        simp only [same, Bool.and_eq_true, decide_eq_true_eq] at hs
        exact absurd (by simp [itIs, hs.1, hs.2, hn]) this
end Go.Sp
namespace Go.Proofs.YtkbiakajlfmakaaGreatDoor
open Go.Fw
theorem zero_bool (w : World) : (zeroValue 4).run Tryz.prog w = .ok (.bool false) w := by kernel_rfl
section
variable {src : List UInt8} {its : List Sp.Itm} {a : Option Addr} {cp : Nat} {xs : List Value}
theorem WSt_freeze {E : Ent} {I : Imm} {w : World} {bc n i : Nat} {s : Sp.NW} {da : Option Addr} {dp : Nat} {ua : Option Addr} {up : Nat} (hm : Mem E I (WSt bc a n cp i s da dp ua up) w) :
    ∃ J, Le I J ∧ Mem E J [] w ∧ PtrI J bc 0 34 [.slice a n cp, nt i, .slice da s.ds.length dp, .slice ua s.us.length up] ∧ RowI J 65 4 (.slice da s.ds.length dp) s.ds.length (s.ds.flatMap encDg) ∧ RowI J 39 3 (.slice ua s.us.length up) s.us.length (s.us.flatMap encUs) := by
  obtain ⟨I1, h1, m1, hp⟩ := hm.freezeO
  obtain ⟨I2, h2, m2, hu⟩ := m1.freeze
  obtain ⟨I3, h3, m3, hd⟩ := m2.freeze
  exact ⟨I3, (h1.trans h2).trans h3, m3, hp.le (h2.trans h3), hd, hu.le h3⟩
/-- what comes of a look at an item's names. -/
abbrev LookI (i : Nat) (its : List Sp.Itm) (a : Option Addr) (cp : Nat) : Value → Imm → List HItem → Prop := fun v J H' => H' = [] ∧ ∃ bc da dp ua up, v = ptr bc ∧ PtrI J bc 0 34 [.slice a its.length cp, nt i, .slice da (Sp.walkN its i).ds.length dp, .slice ua (Sp.walkN its i).us.length up] ∧
    RowI J 65 4 (.slice da (Sp.walkN its i).ds.length dp) (Sp.walkN its i).ds.length ((Sp.walkN its i).ds.flatMap encDg) ∧ RowI J 39 3 (.slice ua (Sp.walkN its i).us.length up) (Sp.walkN its i).us.length ((Sp.walkN its i).us.flatMap encUs)
set_option maxHeartbeats 32000000 in
theorem r_look (i : Nat) (hi : i < its.length) (I : Imm) (h : FE I its a cp xs) (hlen : src.length ≤ 4000) (hN : ∀ x ∈ its, Sp.ItN src x) :
    CalM Tryz.prog 11 #[.agg [.slice a its.length cp].toArray, nt i] I [] (LookI i its a cp) := by
  refine CalM.of fun w E hm => enter (N := 105) Tryz.func11 rfl [(0, .agg [.slice a its.length cp].toArray), (1, nt i)] args2 rfl ?_
  have hfew := h.few
  have hg := Sp.itNo_get hi
  obtain ⟨ci, hci, hat, hlc⟩ := h.get hg
  have hri := h.row
  have hIt := hN _ (Sp.itNo_mem hi)
  have hw : Sp.walkN its i = if (Sp.itNo its i).kind = 2 then Sp.fnN its (Sp.itNo its i) (if Sp.taken its i (Sp.itNo its i) = true then Sp.NW0.tell (Sp.itNo its i).mark 7 (Sp.itNo its i).name else Sp.NW0) else (if Sp.taken its i (Sp.itNo its i) = true then Sp.NW0.tell (Sp.itNo its i).mark 7 (Sp.itNo its i).name else Sp.NW0) := rfl
  unfold LookI
  generalize Sp.walkN its i = fin at hw ⊢
  generalize Sp.itNo its i = it at hg hat hIt hw
  obtain ⟨s0, hs0⟩ : ∃ s0, s0 = if Sp.taken its i it = true then Sp.NW0.tell it.mark 7 it.name else Sp.NW0 := ⟨_, rfl⟩
  rw [← hs0] at hw
  have hs0n : s0.n ≤ 1 := by
    rw [hs0]
    split
    · rw [Sp.tell_n]; exact Nat.le_refl _
    · exact Nat.zero_le _
  have htk : Sp.taken its i it = (decide (it.kind ≠ 3) && (decide (it.name ≠ []) && (its.take i).any (Sp.same it))) := rfl
  obtain ⟨pa, pc, sa9, sc9, ba, bc9, da9, dc9, xb, rfl, hpar, hsnd, hrb, hbs, _⟩ := hat
  obtain ⟨p, q, hst⟩ := hIt.st
  have hbd := (hst.sub _ _ hst.mark).1
  have hsm := hIt.small
  have hsp := hsm.params
  have hss := hsm.sends
  have hsb := hsm.body
  repeat' (first
  | (refine i_indexAddr (d:=20) (hr:=hri) (k:=?_); intro bt ot hpt; rw [show ((i : Int).toNat * 10) = i * 10 from rfl, hci] at hpt)
  | (refine i_loadN (d:=21) hm (hp:=hpt) (k:=?_))
  | (refine wc_cut_regN 3 (fun _ : RY => [(5, ptr b16), (6, ptr b6)]) (fun x w' => Mem E x.I (WSt b16 a its.length cp i s0 x.da x.dp x.ua x.up) w' ∧ Le I x.I ∧ PtrI x.I b6 0 59 (itCells it.kind it.name it.label (.slice pa it.params.length pc) (.slice sa9 it.sends.length sc9) (.slice ba it.body.length bc9) it.at_ it.size it.mark (.slice da9 it.diags.length dc9))) ?_ ?_)
  | (refine m_box (d:=2) hm (k:=?_); clear hm; intro b2 _ hm)
  | (refine m_box (d:=16) hm (k:=?_); clear hm; intro b16 _ hm)
  | (refine m_varS (d:=6) hm (k:=?_); clear hm; intro b6 _ hm)
  | refine m_load1 hm (k:=?_)
  | refine m_loadAll hm (k:=?_)
  | refine op_move (k:=?_)
  | refine op_assign (k:=?_)
  | refine op_fieldAddr (k:=?_)
  | refine op_struct (k:=?_)
  | refine wl_nil ?_
  | refine at_then_normal ?_
  | refine wc_seq ?_
  | refine wc_region ?_)
  · obtain ⟨I1, hle1, hm1, hp6⟩ := hm.freezeO
    obtain ⟨I2, hle2, hm2, hp2⟩ := (hm1.front 1 rfl).freezeO
    clear hm hm1
    have hm : Mem E I2 (WSt b16 a its.length cp i Sp.NW0 none 0 none 0) _ := (((hm2.nil 65 4).swap.nil 39 3).swap)
    clear hm2
    replace hp6 := hp6.le hle2
    have hle := hle1.trans hle2
    clear hle1 hle2
    refine ⟨?_⟩
    by_cases hk : it.kind ≠ 3 ∧ it.name ≠ []
    case neg =>
      have : s0 = Sp.NW0 := by
        rw [hs0, if_neg]
        rw [htk]
        intro h1
        simp only [Bool.and_eq_true, decide_eq_true_eq] at h1
        exact hk ⟨h1.1, h1.2.1⟩
      subst this
      by_cases h3 : it.kind = 3
      · skip
        repeat' (first
        | refine i_load1 hm (k:=?_)
        | refine op_move (k:=?_)
        | refine op_pick_false (k:=?_)
        | refine op_neq (k:=?_)
        | refine op_fieldAddr (k:=?_)
        | refine wl_skip (k:=?_)
        | (refine wl_split_dec (h1:=fun _ => ?_) (h0:=fun _ => ?_)<;> (try first | contradiction | (exfalso; omega)))
        | refine wl_nil ?_
        | refine at_then_normal ?_
        | refine wc_seq ?_
        | refine wc_region ?_
        | refine wc_skip ?_
        | refine wc_cond_false (hf:=?_))
        all_goals try (exfalso; first | omega | contradiction)
        exact at_cut (⟨0, I2, 0, [], none, 0, none, 0⟩ : RY) (by exact ⟨rfl, rfl, trivial⟩) ⟨hm, hle, hp6⟩
      · have hnn : it.name = [] := Classical.byContradiction fun h1 => hk ⟨h3, h1⟩
        repeat' (first
        | refine i_load1 hm (k:=?_)
        | refine op_move (k:=?_)
        | refine op_pick_true (k:=?_)
        | refine op_pick_false (k:=?_)
        | refine op_neq (k:=?_)
        | refine op_neq_str (k:=?_)
        | refine op_fieldAddr (k:=?_)
        | refine wl_skip (k:=?_)
        | (refine wl_split_dec (h1:=fun _ => ?_) (h0:=fun _ => ?_)<;> (try first | contradiction | (exfalso; omega)))
        | refine wl_nil ?_
        | refine at_then_normal ?_
        | refine wc_seq ?_
        | refine wc_region ?_
        | refine wc_skip ?_
        | refine wc_cond_false (hf:=?_))
        all_goals try (exfalso; first | omega | contradiction)
        exact at_cut (⟨0, I2, 0, [], none, 0, none, 0⟩ : RY) (by exact ⟨rfl, rfl, trivial⟩) ⟨hm, hle, hp6⟩
    obtain ⟨hk3, hnn⟩ := hk
    obtain ⟨j, hfj, hji, htj⟩ := Sp.taken_find hg hk3 hnn
    have hfind := (r_find it.kind it.name its I2 a cp xs (h.le hle)).read
    rw [Sp.findV, hfj] at hfind
    dsimp only at hfind
    rw [htj] at hs0
    by_cases hlt : j < i
    · rw [decide_eq_true hlt, if_pos rfl] at hs0
      subst hs0
      have hT := r_tell (I := I2) (bc := b16) (a := a) (n := its.length) (cp := cp) (i := i) (s := Sp.NW0) (da := none) (dp := 0) (ua := none) (up := 0) it.name it.mark 7 (by omega) (by decide)
      repeat' (first
      | (refine m_readC (d:=36) hm (hc:=hfind) (k:=?_); clear hm; intro _ hm)
      | (refine m_call (d:=45) hm (hc:=hT) (k:=?_); clear hm; rintro _ I3 _ _ ⟨rfl, da2, dp2, ua2, up2, rfl⟩ hle hm; have hleI3 := hle; try simp only [setn] at hm)
      | refine i_load1 hm (k:=?_)
      | refine i_loadN hm (k:=?_)
      | refine op_move (k:=?_)
      | refine op_pick_true (k:=?_)
      | refine op_lss (k:=?_)
      | refine op_neq (k:=?_)
      | refine op_neq_str (k:=?_)
      | refine op_fieldAddr (k:=?_)
      | (refine wl_split_dec (h1:=fun _ => ?_) (h0:=fun _ => ?_)<;> (try first | contradiction | (exfalso; omega)))
      | refine wl_nil ?_
      | refine at_then_normal ?_
      | refine wc_seq ?_
      | refine wc_region ?_
      | (refine wc_cond_dec (ht:=fun _ => ?_) (hf:=fun _ => ?_)<;> (try first | contradiction | (exfalso; omega))))
      all_goals try (exfalso; first | omega | contradiction)
      exact at_cut (⟨0, I3, 0, [], da2, dp2, ua2, up2⟩ : RY) (by exact ⟨rfl, rfl, trivial⟩) ⟨hm, Le.trans (by assumption) hleI3, hp6.le hleI3⟩
    · rw [decide_eq_false hlt, if_neg (by decide)] at hs0
      subst hs0
      repeat' (first
      | (refine m_readC (d:=36) hm (hc:=hfind) (k:=?_); clear hm; intro _ hm)
      | refine i_load1 hm (k:=?_)
      | refine i_loadN hm (k:=?_)
      | refine op_move (k:=?_)
      | refine op_pick_true (k:=?_)
      | refine op_lss (k:=?_)
      | refine op_neq (k:=?_)
      | refine op_neq_str (k:=?_)
      | refine op_fieldAddr (k:=?_)
      | (refine wl_split_dec (h1:=fun _ => ?_) (h0:=fun _ => ?_)<;> (try first | contradiction | (exfalso; omega)))
      | refine wl_nil ?_
      | refine at_then_normal ?_
      | refine wc_seq ?_
      | refine wc_region ?_
      | refine wc_skip ?_
      | (refine wc_cond_dec (ht:=fun _ => ?_) (hf:=fun _ => ?_)<;> (try first | contradiction | (exfalso; omega))))
      all_goals try (exfalso; first | omega | contradiction)
      exact at_cut (⟨0, I2, 0, [], none, 0, none, 0⟩ : RY) (by exact ⟨rfl, rfl, trivial⟩) ⟨hm, hle, hp6⟩
  · clear hm hs0 hpt
    rintro ⟨_, I1, _, _, da1, dp1, ua1, up1⟩ w1 ⟨hm, hle1, hp6⟩
    dsimp only at hm hle1 hp6 ⊢
    by_cases k2 : it.kind = 2
    case neg =>
      rw [if_neg k2] at hw
      subst hw
      repeat' (first
      | refine i_load1 hm (k:=?_)
      | refine op_move (k:=?_)
      | refine op_assign (k:=?_)
      | refine op_neq (k:=?_)
      | refine op_fieldAddr (k:=?_)
      | refine wl_nil ?_
      | refine at_then_normal ?_
      | refine at_then_ret ?_
      | refine wc_seq ?_
      | refine wc_region ?_
      | refine wc_ret ?_
      | refine at_ret1 (h:=?_)
      | (refine wc_cond_dec (ht:=fun _ => ?_) (hf:=fun _ => ?_)<;> (try first | contradiction | (exfalso; omega))))
      all_goals try (exfalso; first | omega | contradiction)
      obtain ⟨J, hJ, hmJ, h1, h2, h3⟩ := WSt_freeze hm
      exact ⟨J, [], ⟨rfl, _, _, _, _, _, rfl, h1, h2, h3⟩, hmJ⟩
    rw [if_pos k2] at hw
    have hC : RC I1 src p q its i it a cp xs := ⟨h.le hle1, hg, hlen, hst, fun x hx => (hN x hx).st⟩
    have hat := hst.at_
    rw [Sp.fnN, hat] at hw
    replace hpar := hpar.le hle1
    replace hsnd := hsnd.le hle1
    replace hrb := hrb.le hle1
    replace hbs := StsAt.le hle1 _ _ hbs
    clear h hri
    repeat' (first
    | (refine m_makeMap (d:=50) hm (k:=?_); clear hm; intro bm _ hm)
    | refine i_load1 hm (k:=?_)
    | refine op_move (k:=?_)
    | refine op_assign (k:=?_)
    | refine op_neq (k:=?_)
    | refine op_len_slice (k:=?_)
    | refine op_fieldAddr (k:=?_)
    | refine wl_nil ?_
    | refine at_then_normal ?_
    | refine wc_seq ?_
    | refine wc_region ?_
    | refine wc_block ?_
    | refine wc_skip ?_
    | (refine wc_cond_dec (ht:=fun _ => ?_) (hf:=fun _ => ?_)<;> (try first | contradiction | (exfalso; omega))))
    all_goals try (exfalso; first | omega | contradiction)
    obtain ⟨I2, hle2, hm2, hmp⟩ := hm.freezeM (by exact List.nodup_nil)
    clear hm
    have hm := hm2
    clear hm2
    refine wc_loop (fun x : RY => [(5, ptr b16), (6, ptr b6), (7, .map (some x.be)), (52, .slice pa it.params.length pc), (53, nt it.params.length), (54, nt x.k)])
      (fun x w' => Mem E x.I (WSt b16 a its.length cp i (Sp.parN (it.params.take x.k) [] s0).2 x.da x.dp x.ua x.up) w' ∧ EnvI x.I p (Sp.parN (it.params.take x.k) [] s0).1 x.be x.es ∧ Le I2 x.I ∧ x.k ≤ it.params.length) (fun x => it.params.length - x.k) ⟨0, I2, bm, [], da1, dp1, ua1, up1⟩
      (by exact ⟨rfl, rfl, rfl, rfl, rfl, rfl, trivial⟩) ⟨by dsimp only; rw [List.take_zero, Sp.parN]; exact hm, by dsimp only; rw [List.take_zero, Sp.parN]; exact env_start I2 p bm hmp, Le.refl _, Nat.zero_le _⟩ ?_
    clear hm
    rintro ⟨k, I3, be3, es3, da3, dp3, ua3, up3⟩ w3 ⟨hm, hE3, hle3, hk⟩
    dsimp only at hm hE3 hle3 hk ⊢
    have hC3 := (hC.le hle2).le hle3
    by_cases hlt : k < it.params.length
    · have hgk : it.params[k]? = some it.params[k] := List.getElem?_eq_getElem hlt
      have hpst := hst.params _ (List.getElem_mem hlt)
      have hstp := Sp.parN_step hgk [] s0
      have hpr := (hpar.le hle2).le hle3
      have hgk2 : it.params[((k : Nat) : Int).toNat]? = some it.params[k] := hgk
      generalize it.params[k] = y at hgk hpst hstp hgk2
      have hnn := Sp.parN_n (it.params.take k) [] s0
      rw [List.length_take] at hnn
      generalize Sp.parN (it.params.take k) [] s0 = r at hm hE3 hstp hnn
      have hc := r_with (bc := b16) (s := r.2) (da := da3) (dp := dp3) (ua := ua3) (up := up3) hC3 hE3 y.name y.at_ hpst (by omega)
      generalize Sp.mkN y.name y.at_ r.1 r.2 = z at hc hstp
      repeat' (first
      | (refine i_indexFlat (d:=56) (enc:=encPar) (z:=y) (hr:=hpr) (he:=fun _ => rfl) (hz:=hgk2) (k:=?_); intro bt ot hpt)
      | (refine i_loadN (d:=57) hm (hp:=hpt) (k:=?_))
      | (refine m_call (d:=64) hm (hp:=pm3_1) (hc:=hc) (k:=?_); clear hm; rintro _ I4 _ _ ⟨be4, es4, rfl, hE4, da4, dp4, ua4, up4, rfl⟩ hleI4 hm; try simp only [setn] at hm)
      | (refine m_varS (d:=9) hm (k:=?_); clear hm; intro b9 _ hm)
      | refine m_load1 hm (k:=?_)
      | refine op_move (k:=?_)
      | refine op_assign (k:=?_)
      | refine op_lss (k:=?_)
      | refine op_add (k:=?_)
      | refine op_fieldAddr (k:=?_)
      | refine wl_nil ?_
      | refine at_then_normal ?_
      | refine at_block_normal ?_
      | refine wc_seq ?_
      | refine wc_region ?_
      | refine wc_block ?_
      | refine wc_skip ?_
      | (refine wc_cond_dec (ht:=fun _ => ?_) (hf:=fun _ => ?_)<;> (try first | contradiction | (exfalso; omega))))
      all_goals try (exfalso; omega)
      exact at_round (⟨k + 1, I4, be4, es4, da4, dp4, ua4, up4⟩ : RY) (by exact ⟨rfl, rfl, rfl, rfl, rfl, rfl, trivial⟩) ⟨by dsimp only; rw [hstp]; exact hm.left, by dsimp only; rw [hstp]; exact hE4, hle3.trans hleI4, by dsimp only; omega⟩ (by dsimp only; omega)
    obtain rfl : k = it.params.length := by omega
    rw [List.take_length] at hm hE3
    have hnp := Sp.parN_n it.params [] s0
    generalize Sp.parN it.params [] s0 = r at hm hE3 hnp hw
    have hle13 := hle2.trans hle3
    clear hle2 hle3 hlt hk
    replace hC := hC3
    clear hC3
    replace hsnd := hsnd.le hle13
    replace hrb := hrb.le hle13
    replace hbs := StsAt.le hle13 _ _ hbs
    replace hp6 := hp6.le hle13
    repeat' (first
    | (refine m_makeMap (d:=66) hm (k:=?_); clear hm; intro bh _ hm)
    | refine i_load1 hm (k:=?_)
    | refine op_move (k:=?_)
    | refine op_assign (k:=?_)
    | refine op_lss (k:=?_)
    | refine op_len_slice (k:=?_)
    | refine op_fieldAddr (k:=?_)
    | refine wl_nil ?_
    | refine at_then_normal ?_
    | refine at_then_exit ?_
    | refine at_block_exit ?_
    | refine wc_seq ?_
    | refine wc_region ?_
    | refine wc_block ?_
    | refine wc_exit ?_
    | (refine wc_cond_dec (ht:=fun _ => ?_) (hf:=fun _ => ?_)<;> (try first | contradiction | (exfalso; omega))))
    all_goals try (exfalso; first | omega | contradiction)
    refine wc_loop (fun x : RY => [(5, ptr b16), (6, ptr b6), (7, .map (some be3)), (10, .map (some bh)), (68, .slice sa9 it.sends.length sc9), (69, nt it.sends.length), (70, nt x.k)])
      (fun x w' => Mem E x.I (.mp bh x.es :: WSt b16 a its.length cp i (Sp.sndN its p [] (it.sends.take x.k) r.2) x.da x.dp x.ua x.up) w' ∧ (x.es.map (·.1)).Nodup ∧ (∀ m, mlook x.es m (.bool false) = .bool ((it.sends.take x.k).any (fun c => decide (c.name = m)))) ∧ Le I3 x.I ∧ x.k ≤ it.sends.length) (fun x => it.sends.length - x.k) ⟨0, I3, 0, [], da3, dp3, ua3, up3⟩
      (by exact ⟨rfl, rfl, rfl, rfl, rfl, rfl, rfl, trivial⟩) ⟨by dsimp only; rw [List.take_zero, Sp.sndN]; exact hm, List.nodup_nil, fun m => by dsimp only; rw [List.take_zero]; rfl, Le.refl _, Nat.zero_le _⟩ ?_
    clear hm
    rintro ⟨k, I4, _, hs, da4, dp4, ua4, up4⟩ w4 ⟨hm, hnd, hlk, hle4, hk⟩
    dsimp only at hm hnd hlk hle4 hk ⊢
    have hC4 := hC.le hle4
    by_cases hlt : k < it.sends.length
    · have hgk : it.sends[k]? = some it.sends[k] := List.getElem?_eq_getElem hlt
      have hs0 := hst.sends _ (List.getElem_mem hlt)
      have hpst := (hst.sub _ _ hs0).1
      have hstp := Sp.sndN_step its p hgk r.2
      have hpr := hsnd.le hle4
      have hgk2 : it.sends[((k : Nat) : Int).toNat]? = some it.sends[k] := hgk
      have hany : ∀ m, (it.sends.take (k + 1)).any (fun c => decide (c.name = m)) = ((it.sends.take k).any (fun c => decide (c.name = m)) || decide (it.sends[k].name = m)) := fun m => by
        rw [Sp.take_succ_get hgk, List.any_append]; simp
      generalize it.sends[k] = y at hgk hpst hstp hgk2 hs0 hany
      have hnn := Sp.sndN_n its p (it.sends.take k) [] r.2
      rw [List.length_take] at hnn
      generalize Sp.sndN its p [] (it.sends.take k) r.2 = s1 at hm hstp hnn
      have hc := r_glob (bc := b16) (s := s1) (da := da4) (dp := dp4) (ua := ua4) (up := up4) hC4 1 y.at_ y.name hs0 (by omega)
      have hin := Sp.itmN_n its p 1 y.at_ y.name s1
      rw [Sp.sndStep] at hstp
      generalize Sp.itmN its p 1 y.at_ y.name s1 = s2 at hc hstp hin
      generalize Sp.findV its 1 y.name = zz at hc
      have hlk2 : ∀ m, mlook (mput hs y.name (.bool true)) m (.bool false) = .bool ((it.sends.take (k + 1)).any (fun c => decide (c.name = m))) := fun m => by
        have h1 : mlook (mput hs y.name (.bool true)) m (.bool false) = (mget (mput hs y.name (.bool true)) m).getD (.bool false) := rfl
        have h2 : mlook hs m (.bool false) = (mget hs m).getD (.bool false) := rfl
        rw [h1, mget_mput m hnd, hany]
        by_cases e : m = y.name
        · rw [if_pos e, decide_eq_true e.symm, Bool.or_true]; rfl
        · rw [if_neg e, decide_eq_false (fun h => e h.symm), Bool.or_false, ← h2, hlk]
      have hly := hlk y.name
      by_cases hn : y.name ≠ []
      · cases hb : (it.sends.take k).any (fun x => decide (x.name = y.name)) with
        | true =>
          rw [hb] at hly
          rw [if_pos ⟨hn, hb⟩] at hstp
          have hT := fun (J : Imm) (da : Option Addr) (dp : Nat) (ua : Option Addr) (up : Nat) => r_tell (I := J) (bc := b16) (a := a) (n := its.length) (cp := cp) (i := i) (s := s2) (da := da) (dp := dp) (ua := ua) (up := up) y.name y.at_ 7 (by omega) (by omega)
          repeat' (first
          | (refine i_indexFlat (d:=72) (enc:=encRf) (z:=y) (hr:=hpr) (he:=fun _ => rfl) (hz:=hgk2) (k:=?_); intro bt ot hpt)
          | (refine i_loadN (d:=73) hm (hp:=hpt) (k:=?_))
          | (refine m_call (d:=79) hm (hp:=pm3_2) (hc:=hc) (k:=?_); clear hm; rintro _ I5 _ _ ⟨rfl, da5, dp5, ua5, up5, rfl⟩ hleI5 hm; try simp only [setn] at hm)
          | (refine m_lookup (d:=87) hm (hn:=hnd) (hz:=zero_bool) (k:=?_); rw [hly])
          | (refine m_call (d:=94) hm (hp:=pm3_0) (hc:=hT I5 da5 dp5 ua5 up5) (k:=?_); clear hm; rintro _ I6 _ _ ⟨rfl, da6, dp6, ua6, up6, rfl⟩ hleI6 hm; try simp only [setn] at hm)
          | (refine wl_mapUpdate ?_; refine m_put hm (by rfl) (by rfl) (by rfl) (by rfl) (by rfl) (by first | exact gt0 | exact gt1 | exact gt2 | exact gt3 | exact gt4 | exact gt5 | exact gt6) hnd ?_; clear hm; intro _ hm; try simp only [setn] at hm)
          | (refine m_varS (d:=12) hm (k:=?_); clear hm; intro b12 _ hm)
          | refine m_load1 hm (k:=?_)
          | refine op_move (k:=?_)
          | refine op_pick_true (k:=?_)
          | refine op_lss (k:=?_)
          | refine op_neq_str (k:=?_)
          | refine op_add (k:=?_)
          | refine op_fieldAddr (k:=?_)
          | (refine wl_split_dec (h1:=fun _ => ?_) (h0:=fun _ => ?_)<;> (try first | contradiction | (exfalso; omega)))
          | refine wl_nil ?_
          | refine at_then_normal ?_
          | refine at_block_normal ?_
          | refine wc_seq ?_
          | refine wc_region ?_
          | refine wc_block ?_
          | refine wc_skip ?_
          | refine wc_cond_true (ht:=?_)
          | (refine wc_cond_dec (ht:=fun _ => ?_) (hf:=fun _ => ?_)<;> (try first | contradiction | (exfalso; omega))))
          all_goals try (exfalso; first | omega | contradiction)
          exact at_round (⟨k + 1, I6, 0, _, da6, dp6, ua6, up6⟩ : RY) (by exact ⟨rfl, rfl, rfl, rfl, rfl, rfl, rfl, trivial⟩) ⟨by dsimp only; rw [hstp]; exact (hm.front 4 rfl).left, mput_nodup hnd, hlk2, (hle4.trans hleI5).trans hleI6, by dsimp only; omega⟩ (by dsimp only; omega)
        | false =>
          rw [hb] at hly
          rw [if_neg (fun h => by rw [hb] at h; exact absurd h.2 (by decide))] at hstp
          repeat' (first
          | (refine i_indexFlat (d:=72) (enc:=encRf) (z:=y) (hr:=hpr) (he:=fun _ => rfl) (hz:=hgk2) (k:=?_); intro bt ot hpt)
          | (refine i_loadN (d:=73) hm (hp:=hpt) (k:=?_))
          | (refine m_call (d:=79) hm (hp:=pm3_2) (hc:=hc) (k:=?_); clear hm; rintro _ I5 _ _ ⟨rfl, da5, dp5, ua5, up5, rfl⟩ hleI5 hm; try simp only [setn] at hm)
          | (refine m_lookup (d:=87) hm (hn:=hnd) (hz:=zero_bool) (k:=?_); rw [hly])
          | (refine wl_mapUpdate ?_; refine m_put hm (by rfl) (by rfl) (by rfl) (by rfl) (by rfl) (by first | exact gt0 | exact gt1 | exact gt2 | exact gt3 | exact gt4 | exact gt5 | exact gt6) hnd ?_; clear hm; intro _ hm; try simp only [setn] at hm)
          | (refine m_varS (d:=12) hm (k:=?_); clear hm; intro b12 _ hm)
          | refine m_load1 hm (k:=?_)
          | refine op_move (k:=?_)
          | refine op_pick_true (k:=?_)
          | refine op_lss (k:=?_)
          | refine op_neq_str (k:=?_)
          | refine op_add (k:=?_)
          | refine op_fieldAddr (k:=?_)
          | (refine wl_split_dec (h1:=fun _ => ?_) (h0:=fun _ => ?_)<;> (try first | contradiction | (exfalso; omega)))
          | refine wl_nil ?_
          | refine at_then_normal ?_
          | refine at_block_normal ?_
          | refine wc_seq ?_
          | refine wc_region ?_
          | refine wc_block ?_
          | refine wc_skip ?_
          | refine wc_cond_false (hf:=?_)
          | (refine wc_cond_dec (ht:=fun _ => ?_) (hf:=fun _ => ?_)<;> (try first | contradiction | (exfalso; omega))))
          all_goals try (exfalso; first | omega | contradiction)
          exact at_round (⟨k + 1, I5, 0, _, da5, dp5, ua5, up5⟩ : RY) (by exact ⟨rfl, rfl, rfl, rfl, rfl, rfl, rfl, trivial⟩) ⟨by dsimp only; rw [hstp]; exact (hm.front 4 rfl).left, mput_nodup hnd, hlk2, hle4.trans hleI5, by dsimp only; omega⟩ (by dsimp only; omega)
      · rw [if_neg (fun h => hn h.1)] at hstp
        repeat' (first
        | (refine i_indexFlat (d:=72) (enc:=encRf) (z:=y) (hr:=hpr) (he:=fun _ => rfl) (hz:=hgk2) (k:=?_); intro bt ot hpt)
        | (refine i_loadN (d:=73) hm (hp:=hpt) (k:=?_))
        | (refine m_call (d:=79) hm (hp:=pm3_2) (hc:=hc) (k:=?_); clear hm; rintro _ I5 _ _ ⟨rfl, da5, dp5, ua5, up5, rfl⟩ hleI5 hm; try simp only [setn] at hm)
        | (refine wl_mapUpdate ?_; refine m_put hm (by rfl) (by rfl) (by rfl) (by rfl) (by rfl) (by first | exact gt0 | exact gt1 | exact gt2 | exact gt3 | exact gt4 | exact gt5 | exact gt6) hnd ?_; clear hm; intro _ hm; try simp only [setn] at hm)
        | (refine m_varS (d:=12) hm (k:=?_); clear hm; intro b12 _ hm)
        | refine m_load1 hm (k:=?_)
        | refine op_move (k:=?_)
        | refine op_pick_false (k:=?_)
        | refine op_lss (k:=?_)
        | refine op_neq_str (k:=?_)
        | refine op_add (k:=?_)
        | refine op_fieldAddr (k:=?_)
        | refine wl_skip (k:=?_)
        | (refine wl_split_dec (h1:=fun _ => ?_) (h0:=fun _ => ?_)<;> (try first | contradiction | (exfalso; omega)))
        | refine wl_nil ?_
        | refine at_then_normal ?_
        | refine at_block_normal ?_
        | refine wc_seq ?_
        | refine wc_region ?_
        | refine wc_block ?_
        | refine wc_skip ?_
        | refine wc_cond_false (hf:=?_)
        | (refine wc_cond_dec (ht:=fun _ => ?_) (hf:=fun _ => ?_)<;> (try first | contradiction | (exfalso; omega))))
        all_goals try (exfalso; first | omega | contradiction)
        exact at_round (⟨k + 1, I5, 0, _, da5, dp5, ua5, up5⟩ : RY) (by exact ⟨rfl, rfl, rfl, rfl, rfl, rfl, rfl, trivial⟩) ⟨by dsimp only; rw [hstp]; exact (hm.front 4 rfl).left, mput_nodup hnd, hlk2, hle4.trans hleI5, by dsimp only; omega⟩ (by dsimp only; omega)
    · obtain rfl : k = it.sends.length := by omega
      rw [List.take_length] at hm
      have hnn := Sp.sndN_n its p it.sends [] r.2
      generalize Sp.sndN its p [] it.sends r.2 = s1 at hm hnn hw
      have hcn := hIt.cnt
      have hblk := r_blk (src := src) (bc := b16) _ it.body (Nat.le_refl _) (by omega) hsm.stms hst.body I4 ba bc9 xb r.1 s1 be3 es3 da4 dp4 ua4 up4 (by omega) hC4 (hE3.le hle4) (hrb.le hle4) (StsAt.le hle4 _ _ hbs)
      rw [← hw] at hblk
      replace hp6 := hp6.le hle4
      repeat' (first
      | (refine m_call (d:=103) hm (hp:=pm3_1) (hc:=hblk) (k:=?_); clear hm; rintro _ I5 _ _ ⟨rfl, da5, dp5, ua5, up5, rfl⟩ hleI5 hm; try simp only [setn] at hm)
      | refine i_load1 hm (k:=?_)
      | refine op_move (k:=?_)
      | refine op_assign (k:=?_)
      | refine op_lss (k:=?_)
      | refine op_fieldAddr (k:=?_)
      | refine wl_nil ?_
      | refine at_then_normal ?_
      | refine at_then_exit ?_
      | refine at_block_exit ?_
      | refine wc_seq ?_
      | refine wc_region ?_
      | refine wc_exit ?_
      | refine wc_ret ?_
      | refine at_ret1 (h:=?_)
      | (refine wc_cond_dec (ht:=fun _ => ?_) (hf:=fun _ => ?_)<;> (try first | contradiction | (exfalso; omega))))
      all_goals try (exfalso; omega)
      obtain ⟨J, hJ, hmJ, h1, h2, h3⟩ := WSt_freeze (hm.left (H := WSt b16 a its.length cp i fin da5 dp5 ua5 up5))
      exact ⟨J, [], ⟨rfl, _, _, _, _, _, rfl, h1, h2, h3⟩, hmJ⟩
end
end Go.Proofs.YtkbiakajlfmakaaGreatDoor
end
section
namespace Go.Proofs.YtkbiakajlfmakaaGreatDoor
open Go.Fw
section
variable {src : List UInt8} {its : List Sp.Itm} {a : Option Addr} {cp : Nat} {xs : List Value}
end
end Go.Proofs.YtkbiakajlfmakaaGreatDoor
end
section
namespace Go.Proofs.YtkbiakajlfmakaaGreatDoor
open Go.Fw

theorem c_flows (a b : Nat) (ha : a < 256) (hb : b < 256) (w : World) : Cal Tryz.prog 96 #[.int .i64 a, .int .i64 b] w fun v w' => v = .bool (Sp.flows a b) ∧ w' = w := by
  refine enter (N := 9) Tryz.func96 rfl [(0, .int .i64 a), (1, .int .i64 b)] args2 rfl ?_
  repeat' (first
  | refine op_move (k:=?_)
  | refine op_assign (k:=?_)
  | refine op_eql (k:=?_)
  | refine op_eql_str (k:=?_)
  | refine op_eql_bool (k:=?_)
  | refine op_eql_flat (k:=?_)
  | refine op_andNot (k:=?_)
  | refine wl_nil ?_
  | refine at_then_normal ?_
  | refine at_then_ret ?_
  | refine wc_seq ?_
  | refine wc_region ?_
  | refine wc_skip ?_
  | refine wc_ret ?_
  | refine at_ret1 (h:=?_))
  refine ⟨congrArg Value.bool ?_, rfl⟩
  rw [Bool.eq_iff_iff, decide_eq_true_eq, Int.toNat_natCast, Int.toNat_natCast, ← Sp.andNot_zero ha hb]
  omega
theorem c_join (a b : Nat) (ha : a < 256) (hb : b < 256) (w : World) : Cal Tryz.prog 77 #[.int .i64 a, .int .i64 b] w fun v w' => v = .int .i64 ((a ||| b : Nat) : Int) ∧ w' = w := by
  refine enter (N := 8) Tryz.func77 rfl [(0, .int .i64 a), (1, .int .i64 b)] args2 rfl ?_
  repeat' (first
  | refine op_move (k:=?_)
  | refine op_assign (k:=?_)
  | refine op_or (k:=?_)
  | refine wl_nil ?_
  | refine at_then_normal ?_
  | refine at_then_ret ?_
  | refine wc_seq ?_
  | refine wc_region ?_
  | refine wc_skip ?_
  | refine wc_ret ?_
  | refine at_ret1 (h:=?_))
  exact ⟨rfl, rfl⟩
theorem c_meet (a b : Nat) (ha : a < 256) (hb : b < 256) (w : World) : Cal Tryz.prog 32 #[.int .i64 a, .int .i64 b] w fun v w' => v = .int .i64 ((a &&& b : Nat) : Int) ∧ w' = w := by
  refine enter (N := 8) Tryz.func32 rfl [(0, .int .i64 a), (1, .int .i64 b)] args2 rfl ?_
  repeat' (first
  | refine op_move (k:=?_)
  | refine op_assign (k:=?_)
  | refine op_and (k:=?_)
  | refine wl_nil ?_
  | refine at_then_normal ?_
  | refine at_then_ret ?_
  | refine wc_seq ?_
  | refine wc_region ?_
  | refine wc_skip ?_
  | refine wc_ret ?_
  | refine at_ret1 (h:=?_))
  exact ⟨rfl, rfl⟩
end Go.Proofs.YtkbiakajlfmakaaGreatDoor
end
section
namespace Go.Sp
theorem findLc_cut (n : List UInt8) {l : List Lc} {k : Nat} {x : Lc} (h : l[k]? = some x) : findLc (l.take (k + 1)) n = if x.name = n then some x else findLc (l.take k) n := by
  rw [take_succ_get h, findLc_snoc]
end Go.Sp
namespace Go.Proofs.YtkbiakajlfmakaaGreatDoor
open Go.Fw
abbrev encLc (l : Sp.Lc) : List Value := [str l.name, nt l.at_]
abbrev lcRow (sc : List Sp.Lc) (sa : Option Addr) (sp : Nat) : HItem := .row (.slice sa sc.length sp) 116 2 sc.length (sc.flatMap encLc)
abbrev fCells (bf : Nat) (pi : Value) (sc : List Sp.Lc) (sa : Option Addr) (sp : Nat) (s : Sp.FW) (da : Option Addr) (dp : Nat) (vf : Value) (at_ : Int) : List Value :=
  [ptr bf, pi, .slice sa sc.length sp, .slice da s.ds.length dp, vf, .int .i64 at_, .bool s.hv.isSome, nt (s.hv.getD 0)]
abbrev fObj (bc bf : Nat) (pi : Value) (sc : List Sp.Lc) (sa : Option Addr) (sp : Nat) (s : Sp.FW) (da : Option Addr) (dp : Nat) (vf : Value) (at_ : Int) : HItem :=
  .obj bc (.cells (fCells bf pi sc sa sp s da dp vf at_).toArray 91 (0, 0))
/-- who goes through a function: it, its locals, what it told. -/
abbrev FSt (bc bf : Nat) (pi : Value) (sc : List Sp.Lc) (sa : Option Addr) (sp : Nat) (s : Sp.FW) (da : Option Addr) (dp : Nat) (vf : Value) (at_ : Int) : List HItem :=
  [fObj bc bf pi sc sa sp s da dp vf at_, lcRow sc sa sp, dgRow s.ds da dp]
/-- it comes to 's', with locals 'sc'. -/
abbrev ToF (bc bf : Nat) (pi : Value) (vf : Value) (at_ : Int) (sc : List Sp.Lc) (s : Sp.FW) (val : Value) : Value → Imm → List HItem → Prop :=
  fun v _ H' => v = val ∧ ∃ sa sp da dp, H' = FSt bc bf pi sc sa sp s da dp vf at_
/-- what does not turn of it. -/
structure FRd (J : Imm) (bc bf : Nat) (pi : Value) (sc : List Sp.Lc) (sa : Option Addr) (sp : Nat) (v3 v4 v5 v6 v7 : Value) : Prop where
  ptr : PtrI J bc 0 91 [ptr bf, pi, .slice sa sc.length sp, v3, v4, v5, v6, v7]
  row : RowI J 116 2 (.slice sa sc.length sp) sc.length (sc.flatMap encLc)
theorem FRd.le {I J : Imm} (m : Le I J) {bc bf : Nat} {pi : Value} {sc : List Sp.Lc} {sa : Option Addr} {sp : Nat} {v3 v4 v5 v6 v7 : Value} (h : FRd I bc bf pi sc sa sp v3 v4 v5 v6 v7) : FRd J bc bf pi sc sa sp v3 v4 v5 v6 v7 := ⟨h.ptr.le m, h.row.le m⟩
section
variable {I : Imm} {bc bf sp dp : Nat} {pi vf : Value} {sc : List Sp.Lc} {sa da : Option Addr} {s : Sp.FW} {at_ : Int}
/-- a reader of it, from where all does not turn. -/
theorem CalR.flow {f : FuncId} {args : Array Value} {v : Value} (h : ∀ J, Le I J → FRd J bc bf pi sc sa sp (.slice da s.ds.length dp) vf (.int .i64 at_) (.bool s.hv.isSome) (nt (s.hv.getD 0)) → CalR Tryz.prog f args J [] v) :
    CalR Tryz.prog f args I (FSt bc bf pi sc sa sp s da dp vf at_) v :=
  CalR.of fun w J hm hl hH hJ => by
    have h1 := immOf_ptr (hH (fObj bc bf pi sc sa sp s da dp vf at_) (by simp))
    have h2 := immOf_row (hH (lcRow sc sa sp) (by simp))
    rw [← hJ] at h1 h2
    exact (h J hl ⟨h1, h2⟩).run w hm.inv (fun _ h => by cases h)
theorem f_get0 {J : Imm} {v3 v4 v5 v6 v7 : Value} (n : List UInt8) (hs : sc.length ≤ 1099511627776) (h : FRd J bc bf pi sc sa sp v3 v4 v5 v6 v7) : CalR Tryz.prog 81 #[ptr bc, str n] J [] (nt (Sp.getF sc n)) := by
  refine CalR.of fun w K hm hl _ _ => enter (N := 34) Tryz.func81 rfl [(0, ptr bc), (1, str n)] args2 rfl ?_
  obtain ⟨hp, hr⟩ := h.le hl
  repeat' (first
  | refine i_load1 hm (k:=?_)
  | refine op_move (k:=?_)
  | refine op_assign (k:=?_)
  | refine op_len_slice (k:=?_)
  | refine op_nilCheck (k:=?_)
  | refine op_sub (k:=?_)
  | refine op_fieldAddr (k:=?_)
  | refine wl_nil ?_
  | refine at_then_normal ?_
  | refine wc_seq ?_
  | refine wc_region ?_
  | refine wc_block ?_)
  refine wc_loop (fun k : Nat => [(0, ptr bc), (1, str n), (5, .int .i64 ((k : Int) - 1))]) (fun k w' => Mem ⟨w, [], K⟩ K [] w' ∧ k ≤ sc.length ∧ Sp.findLc sc n = Sp.findLc (sc.take k) n) (fun k => k) sc.length (by exact ⟨rfl, rfl, rfl, trivial⟩) ⟨hm, Nat.le_refl _, by rw [List.take_length]⟩ ?_
  clear hm
  rintro k w1 ⟨hm, hk, hf⟩
  try dsimp only at hm hk hf ⊢
  by_cases h0 : 0 < k
  · have hg : sc[k - 1]? = some sc[k - 1] := List.getElem?_eq_getElem (by omega)
    have hcut := Sp.findLc_cut n hg
    rw [show k - 1 + 1 = k by omega] at hcut
    generalize sc[k - 1] = x at hg hcut
    rw [hcut] at hf
    have hi : sc[((k : Int) - 1).toNat]? = some x := by rw [show ((k : Int) - 1).toNat = k - 1 by omega]; exact hg
    by_cases hx : x.name = n
    · rw [if_pos hx] at hf
      repeat' (first
      | (refine i_indexFlat (d:=21) (enc:=encLc) (z:=x) (hr:=hr) (he:=fun _ => rfl) (hz:=hi) (k:=?_); intro b1 o1 p1)
      | (refine i_indexFlat (d:=31) (enc:=encLc) (z:=x) (hr:=hr) (he:=fun _ => rfl) (hz:=hi) (k:=?_); intro b2 o2 p2)
      | refine i_load1 hm (k:=?_)
      | refine op_move (k:=?_)
      | refine op_assign (k:=?_)
      | refine op_geq (k:=?_)
      | refine op_eql_str (k:=?_)
      | refine op_nilCheck (k:=?_)
      | refine op_fieldAddr (k:=?_)
      | refine wl_nil ?_
      | refine at_then_normal ?_
      | refine at_then_ret ?_
      | refine at_block_ret ?_
      | refine wc_seq ?_
      | refine wc_region ?_
      | refine wc_block ?_
      | refine wc_skip ?_
      | refine wc_ret ?_
      | refine at_ret1 (h:=?_)
      | (refine wc_cond_dec (ht:=fun _ => ?_) (hf:=fun _ => ?_)<;> (try first | contradiction | (exfalso; omega))))
      all_goals try (exfalso; first | omega | contradiction)
      exact ⟨by rw [Sp.getF, hf], hm.kept⟩
    · rw [if_neg hx] at hf
      repeat' (first
      | (refine i_indexFlat (d:=21) (enc:=encLc) (z:=x) (hr:=hr) (he:=fun _ => rfl) (hz:=hi) (k:=?_); intro b1 o1 p1)
      | refine i_load1 hm (k:=?_)
      | refine op_move (k:=?_)
      | refine op_assign (k:=?_)
      | refine op_geq (k:=?_)
      | refine op_eql_str (k:=?_)
      | refine op_nilCheck (k:=?_)
      | refine op_sub (k:=?_)
      | refine op_fieldAddr (k:=?_)
      | refine wl_nil ?_
      | refine at_then_normal ?_
      | refine at_block_normal ?_
      | refine wc_seq ?_
      | refine wc_region ?_
      | refine wc_block ?_
      | refine wc_skip ?_
      | (refine wc_cond_dec (ht:=fun _ => ?_) (hf:=fun _ => ?_)<;> (try first | contradiction | (exfalso; omega))))
      all_goals try (exfalso; first | omega | contradiction)
      refine at_round (k - 1 : Nat) (by exact ⟨rfl, rfl, by rw [show (((k - 1 : Nat) : Int) - 1) = (k : Int) - 1 - 1 by omega]; rfl, trivial⟩) ⟨hm, by omega, hf⟩ (by omega)
  · obtain rfl : k = 0 := by omega
    repeat' (first
    | refine op_move (k:=?_)
    | refine op_assign (k:=?_)
    | refine op_geq (k:=?_)
    | refine wl_nil ?_
    | refine at_then_normal ?_
    | refine at_then_exit ?_
    | refine at_block_exit ?_
    | refine wc_seq ?_
    | refine wc_region ?_
    | refine wc_exit ?_
    | refine wc_ret ?_
    | refine at_ret1 (h:=?_)
    | refine wc_cond_false (hf:=?_))
    all_goals try (exfalso; omega)
    exact ⟨by rw [Sp.getF, hf]; rfl, hm.kept⟩
theorem FSt_tell (bc bf : Nat) (pi : Value) (sc : List Sp.Lc) (sa : Option Addr) (sp : Nat) (s : Sp.FW) (f t : Nat) (n : List UInt8) (da : Option Addr) (dp : Nat) (vf : Value) (at_ : Int) :
    [.obj bc (.cells [ptr bf, pi, .slice sa sc.length sp, .slice da (s.ds.length + 1) dp, vf, .int .i64 at_, .bool s.hv.isSome, nt (s.hv.getD 0)].toArray 91 (0, 0)), lcRow sc sa sp, .row (.slice da (s.ds.length + 1) dp) 65 4 (s.ds.length + 1) (s.ds.flatMap encDg ++ encDg ⟨f, t, 9, n⟩)] = FSt bc bf pi sc sa sp (s.tell f t n) da dp vf at_ := by
  simp [Sp.FW.tell, List.flatMap_append]
theorem f_tell (n : List UInt8) (f t : Nat) (hd : s.ds.length < 1099511627776) :
    CalM Tryz.prog 97 #[ptr bc, nt f, nt t, str n] I (FSt bc bf pi sc sa sp s da dp vf at_) (ToF bc bf pi vf at_ sc (s.tell f t n) (.tuple #[])) := by
  refine CalM.of fun w E hm => enter (N := 21) Tryz.func97 rfl [(0, ptr bc), (1, nt f), (2, nt t), (3, str n)] args4 rfl ?_
  repeat' (first
  | (refine m_push (d:=18) hm (k:=?_); clear hm; intro a18 cp18 _ _ hm; try simp only [setn] at hm)
  | refine m_load1 hm (k:=?_)
  | (refine m_store1 hm (k:=?_); clear hm; intro _ hm; try simp only [setn] at hm)
  | refine op_move (k:=?_)
  | refine op_nilCheck (k:=?_)
  | refine op_fieldAddr (k:=?_)
  | refine op_struct (k:=?_)
  | refine wl_nil ?_
  | refine wc_region ?_
  | refine at_end0 (h:=?_))
  exact ⟨I, _, ⟨rfl, _, _, _, _, FSt_tell _ _ _ _ _ _ s f t n _ _ _ _⟩, hm⟩
theorem f_to (x : Sp.Stm) (b o tc : Nat) (cs : List Value) (hp : PtrI I b o tc cs) (hx : StAt I x cs) (a c : Nat) (ha : a < 256) (hc : c < 256) (hd : s.ds.length < 1099511627776) :
    CalM Tryz.prog 80 #[ptr bc, .pointer (some ⟨b, o, none⟩), nt a, nt c] I (FSt bc bf pi sc sa sp s da dp vf at_) (ToF bc bf pi vf at_ sc (s.ask a c x.fr x.to x.name) (.tuple #[])) := by
  refine CalM.of fun w E hm => enter (N := 26) Tryz.func80 rfl [(0, ptr bc), (1, .pointer (some ⟨b, o, none⟩)), (2, nt a), (3, nt c)] args4 rfl ?_
  obtain ⟨ea, ec, ex, a1, c1, xs1, a2, c2, xs2, rfl, _⟩ := hx.out
  have hF := fun w => c_flows a c ha hc w
  rw [Sp.FW.ask]
  cases hb : Sp.flows a c with
  | true =>
    rw [hb] at hF
    repeat' (first
    | (refine op_call (d:=10) (hc:=by exact hF _) (k:=?_); rintro _ _ ⟨rfl, rfl⟩)
    | refine op_move (k:=?_)
    | refine op_not (k:=?_)
    | refine wl_nil ?_
    | refine at_then_normal ?_
    | refine wc_seq ?_
    | refine wc_region ?_
    | refine wc_skip ?_
    | refine at_end0 (h:=?_)
    | refine wc_cond_false (hf:=?_))
    all_goals try (exfalso; first | omega | contradiction)
    exact ⟨I, _, ⟨rfl, _, _, _, _, rfl⟩, hm⟩
  | false =>
    rw [hb] at hF
    have hT := fun J => f_tell (I := J) (bc := bc) (bf := bf) (pi := pi) (sc := sc) (sa := sa) (sp := sp) (s := s) (da := da) (dp := dp) (vf := vf) (at_ := at_) x.name x.fr x.to hd
    repeat' (first
    | (refine op_call (d:=10) (hc:=by exact hF _) (k:=?_); rintro _ _ ⟨rfl, rfl⟩)
    | (refine wc_quiet_tail (id:=1) 13 (h:=?_))
    | (refine m_call (d:=25) hm (hc:=hT _) (k:=?_); clear hm; rintro _ I2 _ _ ⟨rfl, sa2, sp2, da2, dp2, rfl⟩ hle hm; have hleI2 := hle; try simp only [setn] at hm)
    | refine iq_load1 hm (k:=?_)
    | refine op_move (k:=?_)
    | refine op_not (k:=?_)
    | refine wl_nil ?_
    | refine at_then_normal ?_
    | refine wc_seq ?_
    | refine wc_region ?_
    | refine at_end0 (h:=?_)
    | (refine wq_nil_tail ?_; intro _ hkq; replace hm := hm.kept0 hkq; clear hkq)
    | refine wc_cond_true (ht:=?_)
    | refine q_move (k:=?_)
    | refine q_nilCheck (k:=?_)
    | refine q_fieldAddr (k:=?_))
    all_goals try (exfalso; first | omega | contradiction)
    exact ⟨I2, _, ⟨rfl, _, _, _, _, rfl⟩, hm⟩
end
/-- what does not turn beside it. -/
structure FC (I : Imm) (its : List Sp.Itm) (it : Sp.Itm) (bf : Nat) (a : Option Addr) (cp : Nat) (xs : List Value) (pi vf : Value) : Prop where
  file : PtrI I bf 0 24 [.slice a its.length cp]
  fe : FE I its a cp xs
  item : ∃ bi oi tc ci, pi = .pointer (some ⟨bi, oi, none⟩) ∧ PtrI I bi oi tc ci ∧ ItAt I it ci
  floors : ∃ fa fp, vf = .slice fa its.length fp ∧ RowI I 3 1 (.slice fa its.length fp) its.length ((Sp.floorsF its).flatMap encInt)
  lab : Sp.itLab its
  own : it.label < 256
theorem FC.le {I J : Imm} (m : Le I J) {its : List Sp.Itm} {it : Sp.Itm} {bf : Nat} {a : Option Addr} {cp : Nat} {xs : List Value} {pi vf : Value} (h : FC I its it bf a cp xs pi vf) : FC J its it bf a cp xs pi vf := by
  obtain ⟨h1, h2, ⟨bi, oi, tc, ci, e, h3, h4⟩, ⟨fa, fp, e2, h5⟩, h6, h7⟩ := h
  exact ⟨h1.le m, h2.le m, ⟨bi, oi, tc, ci, e, h3.le m, h4.le m⟩, ⟨fa, fp, e2, h5.le m⟩, h6, h7⟩
end Go.Proofs.YtkbiakajlfmakaaGreatDoor
end
