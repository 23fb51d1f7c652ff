/- Own work: texts FlH, FlI, FwMap2, FwMap3, FwMapZ, one behind the other. -/
import Derived.Test.YthmdffgiockcbaaDoorIf22
import Derived.Maps.RangeRun
section
namespace Go.Sp
theorem floors_take {its : List Itm} {k : Nat} {it : Itm} (h : its[k]? = some it) : (floorsF its).take (k + 1) = (floorsF its).take k ++ [meetF its it.sends] :=
  take_succ_get (by rw [floorsF, List.getElem?_map, h]; rfl)
theorem meet_step {its : List Itm} {l : List Rf} {j : Nat} {x : Rf} (h : l[j]? = some x) : meetF its (l.take (j + 1)) = meetStep its (meetF its (l.take j)) x := by
  rw [take_succ_get h, meetF, List.foldl_append]; rfl
theorem parsF_take {l : List Par} {k : Nat} {p : Par} (h : l[k]? = some p) : parsF (l.take (k + 1)) = parsF (l.take k) ++ [⟨p.name, p.label⟩] := by
  rw [take_succ_get h, parsF, List.map_append]; rfl
/-- what is asked of a file's items. -/
structure ItF (it : Itm) : Prop where
  small : it.small
  body : stmsAll anyP labS it.body
  cnt : stmsCnt it.body ≤ 400000000
end Go.Sp
namespace Go.Fw
open Go
theorem mt_box {P : Program} {N : Nat} {ds : List Deferred} {Q : Exit → Act → World → Prop} {l : Log} {w w0 : World} {ops : Array Oper} {os' tail : List Oper} {d : Nat} {ty : TypeId} {pos : String} {af : Array Edge} {g : Option (Nat × Bool)} {t : TypeId} {x : Operand}
    {X : List Nat} {I0 I : Imm} {H : List HItem} {v : Value} {vs : List Value} (hm : Mem ⟨w0, X, I0⟩ I H w) (hw : want ops l ⟨some d, .box t x, ty, pos, af, g⟩ = some true := by rfl) (hN : Nat.blt d N = true := by rfl) (hx : ev l x = some v := by rfl) (hv : v.cells = vs.toArray := by rfl)
    (k : ∀ b w', Mem ⟨w0, X, I0⟩ I (.obj b (.cells vs.toArray t (0, 0)) :: H) w' → WS P N ds ops Q X w0 os' tail ((d, .pointer (some ⟨b, 0, none⟩)) :: l) w') :
    WS P N ds ops Q X w0 (⟨some d, .box t x, ty, pos, af, g⟩ :: os') tail l w := by
  have hk := Kept.alloc w (.cells v.cells t (0, 0))
  have hm' := hm.add (x := .obj w.heap.size (.cells vs.toArray t (0, 0))) hk (by rw [← hv]; exact heap_alloc_new w _) (fun b hb => by simp only [HItem.blk, Option.some.injEq] at hb; omega)
  refine ws_value (w' := w.alloc (.cells v.cells t (0, 0))) (v := .pointer (some ⟨w.heap.size, 0, none⟩)) rfl hw hN (fun a ha => ?_) hm'.kept (k _ _ hm')
  simp [execOp, Instr.box, newVar, newRow, newObj, ha.ev hx]; rfl
end Go.Fw
namespace Go.Proofs.YthmdffgiockcbaaDoor
open Go.Fw
section
variable {its : List Sp.Itm} {it : Sp.Itm} {bc bf : Nat} {a : Option Addr} {cp : Nat} {xs : List Value} {pi vf : Value} {at_ : Int}
theorem f_blk : ∀ (n : Nat) (l : List Sp.Stm), SizeOf.sizeOf l ≤ n → l.length ≤ 64 → Sp.stmsSmall l → Sp.stmsAll Sp.anyP Sp.labS l → BlkOk its it bc bf a cp xs pi vf at_ l := by
  intro n
  induction n with
  | zero => intro l h; cases l <;> simp at h
  | succ n ih =>
  intro l hsz hll hsm hal
  refine f_block l hll hal (fun y hy => ?_)
  obtain ⟨j, hj, rfl⟩ := List.getElem_of_mem hy
  have hg := List.getElem?_eq_getElem hj
  have h1 := Sp.stmsSmall_get hsm hg
  have h2 := Sp.Stm.all_node (Sp.stmsAll_get hal hg)
  have h3 := Sp.sizeL_mem (List.getElem_mem hj)
  generalize l[j] = y at h1 h2 h3
  obtain ⟨s1, s2, s3, s4, s5⟩ := Sp.small_parts h1
  obtain ⟨z1, z2⟩ := Sp.size_thn (s := y)
  exact f_stmt y h1 h2.1 (ih y.thn (by omega) s2 s3 h2.2.2.1) (ih y.els (by omega) s4 s5 h2.2.2.2)
set_option maxHeartbeats 16000000 in
theorem f_floors (I : Imm) (h : FE I its a cp xs) (hlab : Sp.itLab its) (hsm : ∀ x ∈ its, x.small) :
    CalM Tryd.prog 37 #[.agg [.slice a its.length cp].toArray] I [] (fun v I' H' => H' = [] ∧ ∃ fa fp, v = .slice fa its.length fp ∧ RowI I' 3 1 (.slice fa its.length fp) its.length ((Sp.floorsF its).flatMap encInt)) := by
  refine CalM.of fun w E hm => enter (N := 45) Tryd.func37 rfl [(0, .agg [.slice a its.length cp].toArray)] args1 rfl ?_
  have hfew := h.few
  have hfl : (Sp.floorsF its).length = its.length := by simp [Sp.floorsF]
  repeat' (first
  | (refine m_box (d:=1) hm (k:=?_); clear hm; intro b1 _ hm)
  | refine m_load1 hm (k:=?_)
  | refine op_move (k:=?_)
  | refine op_assign (k:=?_)
  | refine op_len_slice (k:=?_)
  | refine op_fieldAddr (k:=?_)
  | refine wl_nil ?_
  | refine at_then_normal ?_
  | refine wc_seq ?_
  | refine wc_region ?_
  | refine wc_block ?_)
  refine wc_loop (fun x : FX => [(1, ptr b1), (3, .slice x.sa x.k x.sp), (11, .slice a its.length cp), (12, nt its.length), (13, nt x.k)])
    (fun x w' => Mem E x.I [.row (.slice x.sa x.k x.sp) 3 1 x.k (((Sp.floorsF its).take x.k).flatMap encInt), .cell b1 [.slice a its.length cp] 25] w' ∧ Le I x.I ∧ x.k ≤ its.length) (fun x => its.length - x.k) ⟨0, I, none, 0, none, 0⟩
    (by exact ⟨rfl, rfl, rfl, rfl, rfl, trivial⟩) ⟨hm.nil 3 1, Le.refl _, Nat.zero_le _⟩ ?_
  clear hm
  rintro ⟨k, I1, sa1, sp1, da1, dp1⟩ w1 ⟨hm, hle1, hk⟩
  dsimp only at hm hle1 hk ⊢
  by_cases hlt : k < its.length
  · have hg : its[k]? = some its[k] := List.getElem?_eq_getElem hlt
    obtain ⟨ci, hci, hat, hlc⟩ := (h.le hle1).get hg
    have hri := (h.le hle1).row
    have hsk := (hsm _ (List.getElem_mem hlt)).sends
    have hft := Sp.floors_take hg
    generalize its[k] = it at hg hat hsk hft
    obtain ⟨pa, pc, sa9, sc9, ba, bc9, da9, dc9, xb, rfl, _, hsnd, _⟩ := hat
    repeat' (first
    | (refine i_indexAddr (d:=15) (hr:=hri) (k:=?_); intro bt ot hpt; rw [show ((k : Int).toNat * 10) = k * 10 from rfl, hci] at hpt)
    | (refine m_varS (d:=5) hm (k:=?_); clear hm; intro b5 _ hm)
    | refine m_load1 hm (k:=?_)
    | refine i_loadN hm (k:=?_)
    | refine op_move (k:=?_)
    | refine op_assign (k:=?_)
    | refine op_lss (k:=?_)
    | refine op_len_slice (k:=?_)
    | refine op_fieldAddr (k:=?_)
    | refine wl_nil ?_
    | refine at_then_normal ?_
    | refine wc_seq ?_
    | refine wc_region ?_
    | refine wc_block ?_
    | refine wc_skip ?_
    | (refine wc_cond_dec (ht:=fun _ => ?_) (hf:=fun _ => ?_)<;> (try first | contradiction | (exfalso; omega))))
    all_goals try (exfalso; omega)
    refine wc_loop (fun y : NI => [(1, ptr b1), (3, .slice sa1 k sp1), (6, nt (Sp.meetF its (it.sends.take y.k))), (11, .slice a its.length cp), (12, nt its.length), (13, nt k), (18, .slice sa9 it.sends.length sc9), (19, nt it.sends.length), (20, nt y.k)])
      (fun y w' => Mem E y.I [.cell b5 (itCells it.kind it.name it.label (.slice pa it.params.length pc) (.slice sa9 it.sends.length sc9) (.slice ba it.body.length bc9) it.at_ it.size it.mark (.slice da9 it.diags.length dc9)) 34, .row (.slice sa1 k sp1) 3 1 k (((Sp.floorsF its).take k).flatMap encInt), .cell b1 [.slice a its.length cp] 25] w' ∧ Le I1 y.I ∧ y.k ≤ it.sends.length)
      (fun y => it.sends.length - y.k) ⟨0, I1⟩ (by exact ⟨rfl, rfl, rfl, rfl, rfl, rfl, rfl, rfl, rfl, trivial⟩) ⟨hm, Le.refl _, Nat.zero_le _⟩ ?_
    clear hm
    rintro ⟨j, I2⟩ w2 ⟨hm, hle2, hj⟩
    dsimp only at hm hle2 hj ⊢
    by_cases hjl : j < it.sends.length
    · have hgs : it.sends[j]? = some it.sends[j] := List.getElem?_eq_getElem hjl
      generalize it.sends[j] = q at hgs
      have hst := Sp.meet_step (its := its) hgs
      have hml := Sp.meetF_lt its (it.sends.take j)
      rw [Sp.meetStep] at hst
      generalize Sp.meetF its (it.sends.take j) = m at hst hml ⊢
      have hfind := (n_find 1 q.name its I2 a cp xs ((h.le hle1).le hle2)).read
      cases hf : Sp.findIt its 1 q.name with
      | none =>
        rw [hf] at hst
        rw [Sp.findV_none hf] at hfind
        repeat' (first
        | (refine i_indexFlat (d:=22) (enc:=encRf) (z:=q) (hr:=hsnd.le hle2) (he:=fun _ => rfl) (hz:=by exact hgs) (k:=?_); intro bz oz hpz)
        | (refine m_readC (d:=27) hm (hc:=hfind) (k:=?_); clear hm; intro _ hm)
        | (refine m_varS (d:=8) hm (k:=?_); clear hm; intro b8 _ hm)
        | refine m_load1 hm (k:=?_)
        | refine m_loadAll hm (k:=?_)
        | refine i_loadN hm (k:=?_)
        | refine op_move (k:=?_)
        | refine op_assign (k:=?_)
        | refine op_lss (k:=?_)
        | refine op_geq (k:=?_)
        | refine op_add (k:=?_)
        | refine op_fieldAddr (k:=?_)
        | refine wl_nil ?_
        | refine at_then_normal ?_
        | refine at_block_normal ?_
        | refine wc_seq ?_
        | refine wc_region ?_
        | refine wc_block ?_
        | refine wc_skip ?_
        | refine wc_cond_false (hf:=?_)
        | (refine wc_cond_dec (ht:=fun _ => ?_) (hf:=fun _ => ?_)<;> (try first | contradiction | (exfalso; omega))))
        all_goals try (exfalso; omega)
        exact at_round (⟨j + 1, I2⟩ : NI) (by exact ⟨rfl, rfl, by rw [hst]; rfl, rfl, rfl, rfl, rfl, rfl, rfl, trivial⟩) ⟨hm.tl, hle2, by dsimp only; omega⟩ (by dsimp only; omega)
      | some z =>
        rw [hf] at hst
        dsimp only at hst
        rw [Sp.findV_some hf] at hfind
        obtain ⟨hz, _, _, _, hmemz⟩ := Sp.findIt_lt hf
        obtain ⟨cz, hcz, hatz, _⟩ := (h.le hle1).get (Sp.itNo_get hz)
        obtain ⟨pa3, pc3, sa3, sc3, ba3, bc3, da3, dc3, xb3, rfl, _⟩ := hatz
        have hzl := (hlab _ hmemz).1
        have hri2 := hri.le hle2
        repeat' (first
        | (refine i_indexFlat (d:=22) (enc:=encRf) (z:=q) (hr:=hsnd.le hle2) (he:=fun _ => rfl) (hz:=by exact hgs) (k:=?_); intro bz oz hpz)
        | (refine m_readC (d:=27) hm (hc:=hfind) (k:=?_); clear hm; intro _ hm)
        | (refine i_indexAddr (d:=34) (hr:=hri2) (k:=?_); intro bu ou hpu; rw [show ((z : Int).toNat * 10) = z * 10 from rfl, hcz] at hpu)
        | (refine op_call (d:=37) (hc:=by exact c_meet _ _ hml hzl _) (k:=?_); rintro _ _ ⟨rfl, rfl⟩)
        | (refine m_varS (d:=8) hm (k:=?_); clear hm; intro b8 _ hm)
        | refine m_load1 hm (k:=?_)
        | refine i_load1 hm (k:=?_)
        | refine m_loadAll hm (k:=?_)
        | refine i_loadN hm (k:=?_)
        | refine op_move (k:=?_)
        | refine op_assign (k:=?_)
        | refine op_lss (k:=?_)
        | refine op_geq (k:=?_)
        | refine op_add (k:=?_)
        | refine op_fieldAddr (k:=?_)
        | refine wl_nil ?_
        | refine at_then_normal ?_
        | refine at_block_normal ?_
        | refine wc_seq ?_
        | refine wc_region ?_
        | refine wc_block ?_
        | refine wc_skip ?_
        | refine wc_cond_true (ht:=?_)
        | (refine wc_cond_dec (ht:=fun _ => ?_) (hf:=fun _ => ?_)<;> (try first | contradiction | (exfalso; omega))))
        all_goals try (exfalso; omega)
        exact at_round (⟨j + 1, I2⟩ : NI) (by exact ⟨rfl, rfl, by rw [hst]; rfl, rfl, rfl, rfl, rfl, rfl, rfl, trivial⟩) ⟨hm.tl, hle2, by dsimp only; omega⟩ (by dsimp only; omega)
    · obtain rfl : j = it.sends.length := by omega
      rw [List.take_length]
      repeat' (first
      | (refine m_push (d:=42) hm (k:=?_); clear hm; intro a42 cp42 _ _ hm; try simp only [setn] at hm)
      | refine op_move (k:=?_)
      | refine op_assign (k:=?_)
      | refine op_lss (k:=?_)
      | refine op_add (k:=?_)
      | refine wl_nil ?_
      | refine at_then_normal ?_
      | refine at_then_exit ?_
      | refine at_block_normal ?_
      | refine at_block_exit ?_
      | refine wc_seq ?_
      | refine wc_region ?_
      | refine wc_exit ?_
      | (refine wc_cond_dec (ht:=fun _ => ?_) (hf:=fun _ => ?_)<;> (try first | contradiction | (exfalso; omega))))
      all_goals try (exfalso; omega)
      refine at_round (⟨k + 1, I2, _, _, none, 0⟩ : FX) (by exact ⟨rfl, rfl, rfl, rfl, rfl, trivial⟩) ⟨?_, hle1.trans hle2, by dsimp only; omega⟩ (by dsimp only; omega)
      dsimp only
      rw [hft, List.flatMap_append]
      exact hm.tl
  · obtain rfl : k = its.length := by omega
    rw [List.take_of_length_le (by omega)] at hm
    repeat' (first
    | refine op_move (k:=?_)
    | refine op_assign (k:=?_)
    | refine op_lss (k:=?_)
    | refine wl_nil ?_
    | refine at_then_normal ?_
    | refine at_then_exit ?_
    | refine at_block_exit ?_
    | refine wc_seq ?_
    | refine wc_region ?_
    | refine wc_exit ?_
    | refine wc_ret ?_
    | refine at_ret1 (h:=?_)
    | (refine wc_cond_dec (ht:=fun _ => ?_) (hf:=fun _ => ?_)<;> (try first | contradiction | (exfalso; omega))))
    all_goals try (exfalso; omega)
    obtain ⟨I3, hle3, hm3, hrow⟩ := hm.freeze
    exact ⟨I3, [], ⟨rfl, _, _, rfl, hrow⟩, hm3.left (H := [])⟩
end
end Go.Proofs.YthmdffgiockcbaaDoor
end
section
namespace Go.Proofs.YthmdffgiockcbaaDoor
open Go.Fw
section
variable {its : List Sp.Itm} {a : Option Addr} {cp : Nat} {xs : List Value}
set_option maxHeartbeats 16000000 in
theorem f_check (i : Nat) (hi : i < its.length) (at_ : Int) (bf : Nat) (I : Imm) (hfile : PtrI I bf 0 25 [.slice a its.length cp]) (h : FE I its a cp xs) (hlab : Sp.itLab its) (hF : ∀ x ∈ its, Sp.ItF x) :
    CalM Tryd.prog 26 #[ptr bf, nt i, .int .i64 at_] I [] (fun v _ H' => ∃ bc pi vf sc sa sp da dp, v = ptr bc ∧ H' = FSt bc bf pi sc sa sp (Sp.checkF its i at_) da dp vf at_) := by
  refine CalM.of fun w E hm => enter (N := 69) Tryd.func26 rfl [(0, ptr bf), (1, nt i), (2, .int .i64 at_)] args3 rfl ?_
  have hfew := h.few
  have hg := Sp.itNo_get hi
  obtain ⟨ci, hci, hat, hlc⟩ := h.get hg
  have hri := h.row
  have hmem := Sp.itNo_mem hi
  have hIt := hF _ hmem
  have hlb := hlab _ hmem
  have hck : Sp.checkF its i at_ = if (Sp.itNo its i).kind = 2 then (Sp.stmsF its (Sp.itNo its i).label at_ (Sp.itNo its i).body (Sp.parsF (Sp.itNo its i).params) 0 Sp.FW0).2 else Sp.FW0 := rfl
  generalize Sp.checkF its i at_ = fin at hck ⊢
  have hfl := fun (J : Imm) (m : Le I J) => f_floors (I := J) (h.le m) hlab (fun x hx => (hF x hx).small)
  generalize Sp.itNo its i = it at hg hat hmem hIt hlb hck
  have hat0 := hat
  obtain ⟨pa, pc, sa9, sc9, ba, bc9, da9, dc9, xb, rfl, hpar, hsnd, hrb, hbs, _⟩ := hat
  have hsp := hIt.small.params
  have hsb := hIt.small.body
  by_cases k2 : it.kind = 2
  case neg =>
    rw [if_neg k2] at hck
    subst hck
    repeat' (first
    | (refine wc_semi_memL (id:=1) (hm.perm pm0) [0,1,2,3,4,5,6,7,8,9,11] [10,12,13] 14 (h:=?_); clear hm; intro wd hR hm)
    | (refine iw_indexAddr (d:=16) (hr:=hri) (k:=?_); intro bt ot hpt; rw [show ((i : Int).toNat * 10) = i * 10 from rfl, hci] at hpt)
    | (refine iw_loadN (d:=19) hR (hp:=hfile) (k:=?_))
    | (refine mt_call (d:=20) hm (hc:=hfl I (Le.refl _)) (k:=?_); clear hm; rintro _ I2 _ _ ⟨rfl, fa, fp, rfl, hflr⟩ hle hm; have hleI2 := hle; try simp only [setn] at hm; have hpt2 := hpt.le hleI2)
    | (refine mt_box (d:=23) hm (k:=?_); clear hm; intro bc _ hm)
    | refine iw_load1 hR (k:=?_)
    | refine mt_struct hm (k:=?_)
    | (refine ws_nil ?_; replace hm := hR.back hm; clear hR; try simp only [setn] at hm)
    | refine m_load1 hm (k:=?_)
    | refine i_load1 hm (k:=?_)
    | refine op_move (k:=?_)
    | refine op_assign (k:=?_)
    | refine op_eql (k:=?_)
    | refine op_nilCheck (k:=?_)
    | refine op_fieldAddr (k:=?_)
    | refine wl_nil ?_
    | refine at_then_normal ?_
    | refine wc_seq ?_
    | refine wc_region ?_
    | refine wc_skip ?_
    | refine wc_ret ?_
    | refine at_ret1 (h:=?_)
    | (refine wc_cond_dec (ht:=fun _ => ?_) (hf:=fun _ => ?_)<;> (try first | contradiction | (exfalso; omega)))
    | refine v_move (k:=?_)
    | refine v_nilCheck (k:=?_)
    | refine v_fieldAddr (k:=?_)
    | refine wv_nil ?_)
    all_goals try (exfalso; omega)
    exact ⟨I2, _, ⟨bc, _, _, [], none, 0, none, 0, rfl, rfl⟩, ((hm.nil 65 4).swap.nil 105 2).swap⟩
  rw [if_pos k2] at hck
  repeat' (first
  | (refine wc_semi_memL (id:=1) (hm.perm pm0) [0,1,2,3,4,5,6,7,8,9,11] [10,12,13] 14 (h:=?_); clear hm; intro wd hR hm)
  | (refine iw_indexAddr (d:=16) (hr:=hri) (k:=?_); intro bt ot hpt; rw [show ((i : Int).toNat * 10) = i * 10 from rfl, hci] at hpt)
  | (refine iw_loadN (d:=19) hR (hp:=hfile) (k:=?_))
  | (refine mt_call (d:=20) hm (hc:=hfl I (Le.refl _)) (k:=?_); clear hm; rintro _ I2 _ _ ⟨rfl, fa, fp, rfl, hflr⟩ hle hm; have hleI2 := hle; try simp only [setn] at hm; have hpt2 := hpt.le hleI2)
  | (refine mt_box (d:=23) hm (k:=?_); clear hm; intro bc _ hm)
  | refine iw_load1 hR (k:=?_)
  | refine mt_struct hm (k:=?_)
  | (refine ws_nil ?_; replace hm := hR.back hm; clear hR; try simp only [setn] at hm)
  | refine m_load1 hm (k:=?_)
  | refine i_load1 hm (k:=?_)
  | refine op_move (k:=?_)
  | refine op_assign (k:=?_)
  | refine op_eql (k:=?_)
  | refine op_len_slice (k:=?_)
  | refine op_nilCheck (k:=?_)
  | refine op_fieldAddr (k:=?_)
  | refine wl_nil ?_
  | refine at_then_normal ?_
  | refine wc_seq ?_
  | refine wc_region ?_
  | refine wc_block ?_
  | (refine wc_cond_dec (ht:=fun _ => ?_) (hf:=fun _ => ?_)<;> (try first | contradiction | (exfalso; omega)))
  | refine v_move (k:=?_)
  | refine v_nilCheck (k:=?_)
  | refine v_fieldAddr (k:=?_)
  | refine wv_nil ?_)
  all_goals try (exfalso; omega)
  have hC2 : FC I2 its it bf a cp xs (.pointer (some ⟨bt, ot, none⟩)) (.slice fa its.length fp) := ⟨hfile.le hleI2, h.le hleI2, ⟨bt, ot, _, _, rfl, hpt2, hat0.le hleI2⟩, ⟨fa, fp, rfl, hflr⟩, hlab, hlb.1⟩
  have hpar2 := hpar.le hleI2
  refine wc_loop (fun x : FX => [(0, ptr bf), (1, nt i), (2, .int .i64 at_), (7, ptr bc), (38, .slice pa it.params.length pc), (39, nt it.params.length), (40, nt x.k)])
    (fun x w' => Mem E I2 (FSt bc bf (.pointer (some ⟨bt, ot, none⟩)) (Sp.parsF (it.params.take x.k)) x.sa x.sp Sp.FW0 none 0 (.slice fa its.length fp) at_) w' ∧ x.k ≤ it.params.length) (fun x => it.params.length - x.k) ⟨0, I2, none, 0, none, 0⟩
    (by exact ⟨rfl, rfl, rfl, rfl, rfl, rfl, rfl, trivial⟩) ⟨((hm.nil 65 4).swap.nil 105 2).swap, Nat.zero_le _⟩ ?_
  clear hm
  rintro ⟨k, _, sa1, sp1, _, _⟩ w1 ⟨hm, hk⟩
  dsimp only at hm hk ⊢
  by_cases hlt : k < it.params.length
  · have hgp : it.params[k]? = some it.params[k] := List.getElem?_eq_getElem hlt
    generalize it.params[k] = p at hgp
    have hst := Sp.parsF_take hgp
    have hpl : (Sp.parsF (it.params.take k)).length = k := by rw [Sp.parsF, List.length_map, List.length_take]; omega
    generalize Sp.parsF (it.params.take k) = sc at hm hst hpl
    repeat' (first
    | (refine i_indexFlat (d:=42) (enc:=encPar) (z:=p) (hr:=hpar2) (he:=fun _ => rfl) (hz:=by exact hgp) (k:=?_); intro bz oz hpz)
    | (refine wc_semi_mem (id:=6) (hm.perm pm1_2) 10 12 (h:=?_); clear hm; intro wd hR hm)
    | refine mw_load1 hR (k:=?_)
    | (refine mt_push (d:=55) hm (k:=?_); clear hm; intro a55 cp55 _ _ hm; replace hm := hR.back hm; clear hR; try simp only [setn] at hm)
    | (refine m_varS (d:=9) hm (k:=?_); clear hm; intro b9 _ hm)
    | refine i_loadN hm (k:=?_)
    | (refine m_store1 hm (k:=?_); clear hm; intro _ hm; try simp only [setn] at hm)
    | refine op_move (k:=?_)
    | refine op_lss (k:=?_)
    | refine op_nilCheck (k:=?_)
    | refine op_add (k:=?_)
    | refine op_fieldAddr (k:=?_)
    | refine wl_nil ?_
    | refine at_then_normal ?_
    | refine at_block_normal ?_
    | refine wc_seq ?_
    | refine wc_region ?_
    | refine wc_block ?_
    | refine wc_skip ?_
    | (refine wc_cond_dec (ht:=fun _ => ?_) (hf:=fun _ => ?_)<;> (try first | contradiction | (exfalso; omega)))
    | refine v_move (k:=?_)
    | refine v_nilCheck (k:=?_)
    | refine v_fieldAddr (k:=?_)
    | refine v_struct (k:=?_)
    | refine wv_nil ?_)
    all_goals try (exfalso; omega)
    refine at_round (⟨k + 1, I2, a55, cp55, none, 0⟩ : FX) (by exact ⟨rfl, rfl, rfl, rfl, rfl, rfl, rfl, trivial⟩) ⟨?_, by dsimp only; omega⟩ (by dsimp only; omega)
    dsimp only
    rw [hst, ← FSt_snoc]
    exact ((hm.front 1 rfl).tl).swap
  · obtain rfl : k = it.params.length := by omega
    rw [List.take_length] at hm
    have hsl := Sp.parsF_lab hlab hmem
    have hpl : (Sp.parsF it.params).length = it.params.length := by rw [Sp.parsF, List.length_map]
    have hcn := hIt.cnt
    have hblk := f_blk (its := its) (it := it) (bc := bc) (bf := bf) (a := a) (cp := cp) (xs := xs) (pi := .pointer (some ⟨bt, ot, none⟩)) (vf := .slice fa its.length fp) (at_ := at_) _ it.body (Nat.le_refl _) (by omega) hIt.small.stms hIt.body I2 ba bc9 xb 0 (Sp.parsF it.params) Sp.FW0 sa1 sp1 none 0 (by omega) hsl (by omega) (by simp [Sp.FW0]; omega) hC2 (hrb.le hleI2) (StsAt.le hleI2 _ _ hbs)
    rw [← hck] at hblk
    generalize Sp.parsF it.params = sc at hm hblk
    repeat' (first
    | (refine m_call (d:=67) hm (hc:=hblk) (k:=?_); clear hm; rintro _ I3 _ _ ⟨rfl, sa3, sp3, da3, dp3, rfl⟩ hle hm; have hleI3 := hle; try simp only [setn] at hm)
    | refine m_load1 hm (k:=?_)
    | refine i_load1 hm (k:=?_)
    | refine op_move (k:=?_)
    | refine op_assign (k:=?_)
    | refine op_lss (k:=?_)
    | refine op_nilCheck (k:=?_)
    | refine op_fieldAddr (k:=?_)
    | refine wl_nil ?_
    | refine at_then_normal ?_
    | refine at_then_exit ?_
    | refine at_block_exit ?_
    | refine wc_seq ?_
    | refine wc_region ?_
    | refine wc_exit ?_
    | refine wc_ret ?_
    | refine at_ret1 (h:=?_)
    | (refine wc_cond_dec (ht:=fun _ => ?_) (hf:=fun _ => ?_)<;> (try first | contradiction | (exfalso; omega))))
    all_goals try (exfalso; omega)
    exact ⟨I3, _, ⟨bc, _, _, sc, sa3, sp3, da3, dp3, rfl, rfl⟩, hm⟩
theorem f_diags (i : Nat) (hi : i < its.length) (I : Imm) (h : FE I its a cp xs) (hlab : Sp.itLab its) (hF : ∀ x ∈ its, Sp.ItF x) :
    CalM Tryd.prog 15 #[.agg [.slice a its.length cp].toArray, nt i] I [] (fun v I' H' => H' = [] ∧ ∃ da dp, v = .slice da (Sp.checkF its i (-1)).ds.length dp ∧ RowI I' 65 4 (.slice da (Sp.checkF its i (-1)).ds.length dp) (Sp.checkF its i (-1)).ds.length ((Sp.checkF its i (-1)).ds.flatMap encDg)) := by
  refine CalM.of fun w E hm => enter (N := 19) Tryd.func15 rfl [(0, .agg [.slice a its.length cp].toArray), (1, nt i)] args2 rfl ?_
  have hfew := h.few
  repeat' (first
  | (refine m_box (d:=2) hm (k:=?_); clear hm; intro b2 _ hm)
  | refine m_load1 hm (k:=?_)
  | refine op_move (k:=?_)
  | refine op_assign (k:=?_)
  | refine op_pick_false (k:=?_)
  | refine op_lss (k:=?_)
  | refine op_geq (k:=?_)
  | refine op_len_slice (k:=?_)
  | refine op_fieldAddr (k:=?_)
  | refine wl_nil ?_
  | refine at_then_normal ?_
  | refine wc_seq ?_
  | refine wc_region ?_
  | refine wc_skip ?_
  | (refine wc_cond_dec (ht:=fun _ => ?_) (hf:=fun _ => ?_)<;> (try first | contradiction | (exfalso; omega))))
  all_goals try (exfalso; omega)
  obtain ⟨I2, hle2, hm2, hpf⟩ := hm.freezeO
  clear hm
  have hm := hm2
  clear hm2
  have hck := f_check i hi (-1) b2 I2 hpf (h.le hle2) hlab hF
  generalize Sp.checkF its i (-1) = fin at hck ⊢
  repeat' (first
  | (refine m_call (d:=15) hm (hc:=hck) (k:=?_); clear hm; rintro _ I3 _ _ ⟨bc, pi, vf, sc, sa, sp, da, dp, rfl, rfl⟩ hle hm; have hleI3 := hle; try simp only [setn] at hm)
  | refine m_load1 hm (k:=?_)
  | refine op_assign (k:=?_)
  | refine op_nilCheck (k:=?_)
  | refine op_fieldAddr (k:=?_)
  | refine wl_nil ?_
  | refine at_then_normal ?_
  | refine wc_ret ?_
  | refine at_ret1 (h:=?_))
  all_goals try (exfalso; omega)
  obtain ⟨I4, hle4, hm4, hrow⟩ := (hm.front 2 rfl).freeze
  exact ⟨I4, [], ⟨rfl, da, dp, rfl, hrow⟩, hm4.left (H := [])⟩
theorem f_sound (I : Imm) (h : FE I its a cp xs) (hlab : Sp.itLab its) (hF : ∀ x ∈ its, Sp.ItF x) :
    CalM Tryd.prog 9 #[.agg [.slice a its.length cp].toArray] I [] (fun v _ H' => H' = [] ∧ ∃ b, v = .bool b ∧ (b = true ↔ Sp.soundF its)) := by
  refine CalM.of fun w E hm => enter (N := 16) Tryd.func9 rfl [(0, .agg [.slice a its.length cp].toArray)] args1 rfl ?_
  have hfew := h.few
  repeat' (first
  | (refine m_box (d:=1) hm (k:=?_); clear hm; intro b1 _ hm)
  | refine m_load1 hm (k:=?_)
  | refine op_move (k:=?_)
  | refine op_assign (k:=?_)
  | refine op_len_slice (k:=?_)
  | refine op_fieldAddr (k:=?_)
  | refine wl_nil ?_
  | refine at_then_normal ?_
  | refine wc_seq ?_
  | refine wc_region ?_
  | refine wc_block ?_)
  refine wc_loop (fun x : NI => [(1, ptr b1), (6, nt its.length), (7, nt x.k)]) (fun x w' => Mem E x.I [.cell b1 [.slice a its.length cp] 25] w' ∧ Le I x.I ∧ x.k ≤ its.length ∧ ∀ j, j < x.k → (Sp.checkF its j (-1)).ds = []) (fun x => its.length - x.k) ⟨0, I⟩
    (by exact ⟨rfl, rfl, rfl, trivial⟩) ⟨hm, Le.refl _, Nat.zero_le _, fun j hj => absurd hj (Nat.not_lt_zero j)⟩ ?_
  clear hm
  rintro ⟨k, I1⟩ w1 ⟨hm, hle1, hk, hno⟩
  dsimp only at hm hle1 hk hno ⊢
  by_cases hlt : k < its.length
  · have hd := f_diags k hlt I1 (h.le hle1) hlab hF
    obtain ⟨n, hn⟩ : ∃ n, n = (Sp.checkF its k (-1)).ds.length := ⟨_, rfl⟩
    rw [← hn] at hd
    by_cases h0 : n = 0
    · subst h0
      have h0' := List.length_eq_zero_iff.1 hn.symm
      repeat' (first
      | (refine m_call (d:=12) hm (hc:=hd) (k:=?_); clear hm; rintro _ I2 _ _ ⟨rfl, da, dp, rfl, _⟩ hle hm; have hleI2 := hle; try simp only [setn] at hm)
      | refine m_loadAll hm (k:=?_)
      | refine op_move (k:=?_)
      | refine op_assign (k:=?_)
      | refine op_lss (k:=?_)
      | refine op_gtr (k:=?_)
      | refine op_len_slice (k:=?_)
      | refine op_add (k:=?_)
      | refine wl_nil ?_
      | refine at_then_normal ?_
      | refine at_block_normal ?_
      | refine wc_seq ?_
      | refine wc_region ?_
      | refine wc_block ?_
      | refine wc_skip ?_
      | refine wc_cond_false (hf:=?_)
      | (refine wc_cond_dec (ht:=fun _ => ?_) (hf:=fun _ => ?_)<;> (try first | contradiction | (exfalso; omega))))
      all_goals try (exfalso; omega)
      refine at_round (⟨k + 1, I2⟩ : NI) (by exact ⟨rfl, rfl, rfl, trivial⟩) ⟨hm, hle1.trans hleI2, by dsimp only; omega, fun j hj => ?_⟩ (by dsimp only; omega)
      rcases Nat.lt_or_ge j k with hjk | hjk
      · exact hno j hjk
      · obtain rfl : j = k := by dsimp only at hj; omega
        exact h0'
    · skip
      repeat' (first
      | (refine m_call (d:=12) hm (hc:=hd) (k:=?_); clear hm; rintro _ I2 _ _ ⟨rfl, da, dp, rfl, _⟩ hle hm; have hleI2 := hle; try simp only [setn] at hm)
      | refine m_loadAll hm (k:=?_)
      | refine op_move (k:=?_)
      | refine op_assign (k:=?_)
      | refine op_lss (k:=?_)
      | refine op_gtr (k:=?_)
      | refine op_len_slice (k:=?_)
      | refine wl_nil ?_
      | refine at_then_normal ?_
      | refine at_then_ret ?_
      | refine at_block_ret ?_
      | refine wc_seq ?_
      | refine wc_region ?_
      | refine wc_block ?_
      | refine wc_skip ?_
      | refine wc_ret ?_
      | refine at_ret1 (h:=?_)
      | (refine wc_cond_dec (ht:=fun _ => ?_) (hf:=fun _ => ?_)<;> (try first | contradiction | (exfalso; omega))))
      all_goals try (exfalso; omega)
      refine ⟨I2, [], ⟨rfl, false, rfl, fun hf => (by cases hf), fun hs => ?_⟩, hm.left (H := [])⟩
      exfalso
      have := hs k hlt
      rw [this] at hn
      exact h0 hn
  · obtain rfl : k = its.length := by omega
    repeat' (first
    | refine op_assign (k:=?_)
    | refine op_lss (k:=?_)
    | refine wl_nil ?_
    | refine at_then_normal ?_
    | refine at_then_exit ?_
    | refine at_block_exit ?_
    | refine wc_seq ?_
    | refine wc_region ?_
    | refine wc_exit ?_
    | refine wc_ret ?_
    | refine at_ret1 (h:=?_)
    | (refine wc_cond_dec (ht:=fun _ => ?_) (hf:=fun _ => ?_)<;> (try first | contradiction | (exfalso; omega))))
    all_goals try (exfalso; omega)
    exact ⟨I1, [], ⟨rfl, true, rfl, fun _ => hno, fun _ => rfl⟩, hm.left (H := [])⟩
end
end Go.Proofs.YthmdffgiockcbaaDoor
end
section
namespace Go.Fw
open Go
def mput (es : Ents) (s : List UInt8) (v : Value) : Ents := match es.findIdx? (fun p => decide (p.1 = s)) with
  | some i => es.set i (s, v)
  | none => es ++ [(s, v)]
theorem mput_nodup {es : Ents} {s : List UInt8} {v : Value} (h : (es.map (·.1)).Nodup) : ((mput es s v).map (·.1)).Nodup := by
  rw [mput]
  cases hf : es.findIdx? (fun p => decide (p.1 = s)) with
  | some i =>
    obtain ⟨hi, hs, _⟩ := List.findIdx?_eq_some_iff_getElem.1 hf
    have hs' : es[i].1 = s := by simpa using hs
    have : (es.set i (s, v)).map (·.1) = es.map (·.1) := by
      apply List.ext_getElem?
      intro j
      simp only [List.getElem?_map, List.getElem?_set]
      split
      · rename_i h
        subst h
        rw [List.getElem?_eq_getElem hi]
        simp [hs']
      · rfl
    dsimp only
    rw [this]
    exact h
  | none =>
    dsimp only
    rw [List.map_append, List.nodup_append]
    refine ⟨h, by simp, fun a h1 b h2 => ?_⟩
    simp only [List.map_cons, List.map_nil, List.mem_singleton] at h2
    subst h2
    rintro rfl
    obtain ⟨p, hp, hps⟩ := List.mem_map.1 h1
    have := List.findIdx?_eq_none_iff.1 hf p hp
    simp [hps] at this
section
variable {P : Program} {N : Nat} {ds : List Deferred} {Q : Exit → Act → World → Prop} {l : Log} {w : World} {ops : Array Oper} {os : List Oper}
variable {d : Nat} {ty : TypeId} {pos : String} {af : Array Edge} {g : Option (Nat × Bool)} {t t' : TypeId} {x y z : Operand} {E : Ent} {I : Imm} {H : List HItem}
theorem wl_mapUpdate {dst : Option Nat} (h : WL P N ds ops Q (⟨dst, .insert t x y z, ty, pos, af, g⟩ :: os) l w) : WL P N ds ops Q (⟨dst, .mapUpdate t x y z, ty, pos, af, g⟩ :: os) l w := ⟨fun a ha => h.run a ha⟩
end
end Go.Fw
end
section
namespace Go.Fw
open Go
/-- what a map has under a text. -/
def mget (es : Ents) (s : List UInt8) : Option Value := (es.find? (fun p => decide (p.1 = s))).map (·.2)
theorem mget_at : ∀ {es : Ents} {j : Nat} {u : List UInt8} {v : Value}, (es.map (·.1)).Nodup → es[j]? = some (u, v) → mget es u = some v
  | [], j, u, v, _, h => by simp at h
  | (a, c) :: es, 0, u, v, _, h => by
    simp only [List.getElem?_cons_zero, Option.some.injEq, Prod.mk.injEq] at h
    obtain ⟨rfl, rfl⟩ := h
    simp [mget]
  | (a, c) :: es, j + 1, u, v, hn, h => by
    rw [List.getElem?_cons_succ] at h
    rw [List.map_cons, List.nodup_cons] at hn
    have hne : a ≠ u := by
      rintro rfl
      exact hn.1 (List.mem_map_of_mem (f := (·.1)) (List.mem_of_getElem? h))
    have ih := mget_at hn.2 h
    simp only [mget] at ih ⊢
    rw [List.find?_cons, decide_eq_false hne]
    exact ih
theorem mget_some : ∀ {es : Ents} {u : List UInt8} {v : Value}, mget es u = some v → ∃ j : Nat, es[j]? = some (u, v)
  | [], u, v, h => by cases h
  | (a, c) :: es, u, v, h => by
    simp only [mget] at h
    rw [List.find?_cons] at h
    by_cases e : a = u
    · rw [decide_eq_true e] at h
      simp only [Option.map_some, Option.some.injEq] at h
      subst e; subst h
      exact ⟨0, rfl⟩
    · rw [decide_eq_false e] at h
      obtain ⟨j, hj⟩ := mget_some (es := es) h
      exact ⟨j + 1, by rw [List.getElem?_cons_succ]; exact hj⟩
theorem mget_none {es : Ents} {u : List UInt8} (h : mget es u = none) {j : Nat} {p : List UInt8 × Value} (hj : es[j]? = some p) : p.1 ≠ u := by
  rintro rfl
  simp only [mget, Option.map_eq_none_iff, List.find?_eq_none] at h
  have := h p (List.mem_of_getElem? hj)
  simp at this
theorem mget_append {es : Ents} {s : List UInt8} {v : Value} (n : List UInt8) (h : mget es s = none) : mget (es ++ [(s, v)]) n = if n = s then some v else mget es n := by
  simp only [mget] at h ⊢
  rw [List.find?_append]
  by_cases e : n = s
  · subst e
    rw [if_pos rfl, Option.map_eq_none_iff.1 h]
    simp
  · rw [if_neg e]
    cases hf : es.find? (fun p => decide (p.1 = n)) with
    | some p => rfl
    | none => simp [Ne.symm e]
theorem mget_set : ∀ {es : Ents} {i : Nat} {s : List UInt8} {v : Value} (n : List UInt8), (es.map (·.1)).Nodup → (∃ c, es[i]? = some (s, c)) → mget (es.set i (s, v)) n = if n = s then some v else mget es n
  | [], i, s, v, n, _, h => by obtain ⟨_, h⟩ := h; simp at h
  | (a, c) :: es, 0, s, v, n, _, h => by
    obtain ⟨_, h⟩ := h
    simp only [List.getElem?_cons_zero, Option.some.injEq, Prod.mk.injEq] at h
    obtain ⟨rfl, _⟩ := h
    simp only [mget, List.set_cons_zero, List.find?_cons]
    by_cases e : n = a
    · subst e; simp
    · rw [if_neg e, decide_eq_false (Ne.symm e)]
  | (a, c) :: es, i + 1, s, v, n, hn, h => by
    obtain ⟨c', h⟩ := h
    rw [List.getElem?_cons_succ] at h
    rw [List.map_cons, List.nodup_cons] at hn
    have ih := mget_set (v := v) n hn.2 ⟨c', h⟩
    have has : a ≠ s := by
      rintro rfl
      exact hn.1 (List.mem_map_of_mem (f := (·.1)) (List.mem_of_getElem? h))
    simp only [mget, List.set_cons_succ, List.find?_cons] at ih ⊢
    by_cases e : a = n
    · subst e
      rw [decide_eq_true rfl, if_neg has]
    · rw [decide_eq_false e]
      exact ih
theorem mget_mput {es : Ents} {s : List UInt8} {v : Value} (n : List UInt8) (hn : (es.map (·.1)).Nodup) : mget (mput es s v) n = if n = s then some v else mget es n := by
  rw [mput]
  cases hf : es.findIdx? (fun p => decide (p.1 = s)) with
  | some i =>
    obtain ⟨hi, hs, _⟩ := List.findIdx?_eq_some_iff_getElem.1 hf
    have hs' : es[i].1 = s := by simpa using hs
    exact mget_set n hn ⟨es[i].2, by rw [List.getElem?_eq_getElem hi, ← hs']⟩
  | none =>
    refine mget_append n ?_
    rw [List.findIdx?_eq_none_iff] at hf
    simp only [mget, Option.map_eq_none_iff, List.find?_eq_none]
    intro p hp
    simpa using hf p hp
/-- a map that does not turn. -/
structure MapI (I : Imm) (b : Nat) (es : Ents) : Prop where
  out : I b = some (.map (entsOf es 0).toArray es.length)
  nodup : (es.map (·.1)).Nodup
theorem MapI.le {I I' : Imm} {b : Nat} {es : Ents} (h : MapI I b es) (hl : Le I I') : MapI I' b es := ⟨hl _ _ h.out, h.nodup⟩
abbrev HItem.it (r b n : Nat) (S : List Nat) : HItem := .obj r (.mapIter (some b) n S.toArray n)
section
variable {P : Program} {N : Nat} {ds : List Deferred} {Q : Exit → Act → World → Prop} {K : Act → World → Prop} {l : Log} {w : World} {ops : Array Oper} {os : List Oper}
variable {d : Nat} {ty : TypeId} {pos : String} {af : Array Edge} {g : Option (Nat × Bool)} {t : TypeId} {x y : Operand} {E : Ent} {I : Imm} {H : List HItem}
end
/-! copying a map, entry by entry -/
structure Copied (es : Ents) (S : List Nat) (es2 : Ents) : Prop where
  nodup : (es2.map (·.1)).Nodup
  get : ∀ n v, mget es2 n = some v ↔ ∃ j ∈ S, es[j]? = some (n, v)
theorem Copied.start (es : Ents) : Copied es [] [] := ⟨by simp, fun n v => by simp [mget]⟩
theorem Copied.put {es es2 : Ents} {S : List Nat} {j : Nat} {u : List UInt8} {v : Value} (h : Copied es S es2) (hn : (es.map (·.1)).Nodup) (hj : es[j]? = some (u, v)) : Copied es (S ++ [j]) (mput es2 u v) := by
  refine ⟨mput_nodup h.nodup, fun n v' => ?_⟩
  rw [mget_mput n h.nodup]
  by_cases e : n = u
  · subst e
    rw [if_pos rfl]
    constructor
    · rintro h'; cases h'; exact ⟨j, by simp, hj⟩
    · rintro ⟨i, _, hi⟩
      rw [← mget_at hn hj, mget_at hn hi]
  · rw [if_neg e, h.get]
    constructor
    · rintro ⟨i, hi, h2⟩; exact ⟨i, by simp [hi], h2⟩
    · rintro ⟨i, hi, h2⟩
      rcases List.mem_append.1 hi with hi | hi
      · exact ⟨i, hi, h2⟩
      · rw [List.mem_singleton] at hi
        subst hi
        rw [hj] at h2
        cases h2
        exact absurd rfl e
theorem Copied.done {es es2 : Ents} {S : List Nat} (h : Copied es S es2) (_hn : (es.map (·.1)).Nodup) (hS : ∀ j, j < es.length → j ∈ S) (n : List UInt8) : mget es2 n = mget es n := by
  cases hg : mget es n with
  | some v =>
    obtain ⟨j, hj⟩ := mget_some hg
    exact (h.get n v).2 ⟨j, hS j (List.getElem?_eq_some_iff.1 hj).1, hj⟩
  | none =>
    cases hg2 : mget es2 n with
    | none => rfl
    | some v =>
      obtain ⟨j, _, hj⟩ := (h.get n v).1 hg2
      exact absurd rfl (mget_none hg hj)
end Go.Fw
end
section
namespace Go.Fw
open Go
abbrev numZ (k : Int) : Value := .int .i64 k
abbrev EntsZ := List (Int × Value)
def entsZ (es : EntsZ) (n : Nat) : List MapEntry := (es.zipIdx n).map (fun p => { key := numZ p.1.1, val := p.1.2, born := p.2 })
structure MapAtZ (w : World) (b : Nat) (es : EntsZ) : Prop where
  out : w.heap[b]? = some (.map (entsZ es 0).toArray es.length)
  nodup : (es.map (·.1)).Nodup
theorem findNow_z (s : Int) : ∀ (es : EntsZ) (n m : Nat), Instr.findNow (.int .i64) (numZ s) (entsZ es n) m = some ((es.findIdx? (fun p => decide (p.1 = s))).bind (fun i => (es[i]?).map (fun p => (m + i, p.2))))
  | [], n, m => rfl
  | (u, v) :: es, n, m => by
    have ih := findNow_z s es (n + 1) (m + 1)
    simp only [entsZ, List.zipIdx_cons, List.map_cons, Instr.findNow, Instr.sameNow, if_true] at ih ⊢
    have e1 : (s == u) = decide (u = s) := by
      rw [Bool.eq_iff_iff]
      constructor
      · intro h
        exact decide_eq_true (by simpa using h : s = u).symm
      · intro h
        rw [of_decide_eq_true h]; simp
    rw [e1, List.findIdx?_cons]
    cases hd : decide (u = s) with
    | true => simp
    | false =>
      simp only
      rw [ih]
      congr 1
      cases hf : es.findIdx? (fun p => decide (p.1 = s)) with
      | none => simp
      | some i => simp [Nat.add_comm, Nat.add_left_comm]
section
variable {P : Program} {N : Nat} {ds : List Deferred} {Q : Exit → Act → World → Prop} {l l' : Log} {w w' : World} {ops : Array Oper} {os : List Oper} {o : Oper}
variable {d : Nat} {ty : TypeId} {pos : String} {af : Array Edge} {g : Option (Nat × Bool)} {t t' : TypeId} {x y z : Operand} {E : Ent} {I : Imm} {H : List HItem}
def mlookZ (es : EntsZ) (s : Int) (z : Value) : Value := ((es.find? (fun p => decide (p.1 = s))).map (·.2)).getD z
theorem find_idxZ (es : EntsZ) (s : Int) : (es.findIdx? (fun p => decide (p.1 = s))).bind (fun i => (es[i]?).map (·.2)) = (es.find? (fun p => decide (p.1 = s))).map (·.2) := by
  induction es with
  | nil => rfl
  | cons p es ih =>
    rw [List.findIdx?_cons, List.find?_cons]
    cases hd : decide (p.1 = s) with
    | true => simp
    | false =>
      simp only [Bool.false_eq_true, if_false]
      rw [← ih]
      cases es.findIdx? (fun p => decide (p.1 = s)) <;> simp
theorem run_findKeyZ {kt : TypeId} (hk : P.underlying kt = some (.int .i64)) (s : Int) (es : EntsZ) (n : Nat) :
    (Instr.findKey kt (numZ s) (entsZ es n)).run P w = .ok ((es.findIdx? (fun p => decide (p.1 = s))).bind (fun i => (es[i]?).map (fun p => (0 + i, p.2)))) w := by
  have h1 := run_underlying (P := P) (w := w) hk
  simp only [Instr.findKey, Sem.run_bind, h1, Result.andThen_ok, findNow_z]
  simp
theorem run_checkKeyZ {kt : TypeId} (hk : P.underlying kt = some (.int .i64)) (s : Int) (b : Bool) : (Instr.checkKey b 10000 kt (numZ s)).run P w = .ok () w := by
  have h1 := run_underlying (P := P) (w := w) hk
  show (Instr.checkKey b (9999 + 1) kt (numZ s)).run P w = .ok () w
  rw [Instr.checkKey]
  simp [h1]
theorem run_lookupZ {kt et : TypeId} [TyMap P t kt et] [TyInt P kt .i64] {b : Nat} {es : EntsZ} {s : Int} {zv : Value} {a : Act} (ha : Fits N ds l a)
    (hx : ev l x = some (.map (some b))) (hy : ev l y = some (numZ s)) (hm : w.heap[b]? = some (.map (entsZ es 0).toArray es.length)) (hz : ∀ w, (zeroValue et).run P w = .ok zv w) :
    (execOp a.eval ⟨some d, .lookup t x y false, ty, pos, af, g⟩).run P w = .ok (.value (mlookZ es s zv)) w := by
  have h1 := run_underlying (P := P) (w := w) (TyMap.out (P := P) (t := t))
  have hk := TyInt.out (P := P) (t := kt)
  have h2 := run_findKeyZ (P := P) (w := w) hk s es 0
  have h3 := fun b => run_checkKeyZ (P := P) (w := w) hk s b
  have h4 := MapKept.run_getObj_map (P := P) hm
  have h5 := find_idxZ es s
  rw [mlookZ, ← h5]
  cases hf : es.findIdx? (fun p => decide (p.1 = s)) with
  | none =>
    rw [hf] at h2
    simp [execOp, Instr.lookup, ha.ev hx, ha.ev hy, h1, h4, h3, h2, hz]
  | some i =>
    rw [hf] at h2
    have hi : i < es.length := by
      have := List.findIdx?_eq_some_iff_getElem.1 hf
      exact this.1
    have hg : es[i]? = some es[i] := List.getElem?_eq_getElem hi
    simp only [Option.bind_some, hg, Option.map_some] at h2
    simp [execOp, Instr.lookup, ha.ev hx, ha.ev hy, h1, h4, h3, h2, hg]
abbrev HItem.mz (b : Nat) (es : EntsZ) : HItem := .obj b (.map (entsZ es 0).toArray es.length)
def mputZ (es : EntsZ) (s : Int) (v : Value) : EntsZ := match es.findIdx? (fun p => decide (p.1 = s)) with
  | some i => es.set i (s, v)
  | none => es ++ [(s, v)]
theorem ents_modifyZ (es : EntsZ) (i : Nat) (s : Int) (v : Value) : (entsZ es 0).toArray.modify i (fun e => { e with key := numZ s, val := v }) = (entsZ (es.set i (s, v)) 0).toArray := by
  apply Array.ext_getElem?
  intro j
  rw [Array.getElem?_modify]
  simp only [entsZ, List.getElem?_toArray, List.getElem?_map, List.getElem?_zipIdx, List.getElem?_set]
  by_cases h : i = j
  · subst h
    rw [if_pos rfl, if_pos rfl]
    by_cases h2 : i < es.length
    · rw [if_pos h2, List.getElem?_eq_getElem h2]; rfl
    · rw [if_neg h2, List.getElem?_eq_none (by omega)]; rfl
  · rw [if_neg h, if_neg h]
theorem mput_nodupZ {es : EntsZ} {s : Int} {v : Value} (h : (es.map (·.1)).Nodup) : ((mputZ es s v).map (·.1)).Nodup := by
  rw [mputZ]
  cases hf : es.findIdx? (fun p => decide (p.1 = s)) with
  | some i =>
    obtain ⟨hi, hs, _⟩ := List.findIdx?_eq_some_iff_getElem.1 hf
    have hs' : es[i].1 = s := by simpa using hs
    have : (es.set i (s, v)).map (·.1) = es.map (·.1) := by
      apply List.ext_getElem?
      intro j
      simp only [List.getElem?_map, List.getElem?_set]
      split
      · rename_i h
        subst h
        rw [List.getElem?_eq_getElem hi]
        simp [hs']
      · rfl
    dsimp only
    rw [this]
    exact h
  | none =>
    dsimp only
    rw [List.map_append, List.nodup_append]
    refine ⟨h, by simp, fun a h1 b h2 => ?_⟩
    simp only [List.map_cons, List.map_nil, List.mem_singleton] at h2
    subst h2
    rintro rfl
    obtain ⟨p, hp, hps⟩ := List.mem_map.1 h1
    have := List.findIdx?_eq_none_iff.1 hf p hp
    simp [hps] at this
def mgetZ (es : EntsZ) (s : Int) : Option Value := (es.find? (fun p => decide (p.1 = s))).map (·.2)
theorem mget_appendZ {es : EntsZ} {s : Int} {v : Value} (n : Int) (h : mgetZ es s = none) : mgetZ (es ++ [(s, v)]) n = if n = s then some v else mgetZ es n := by
  simp only [mgetZ] at h ⊢
  rw [List.find?_append]
  by_cases e : n = s
  · subst e
    rw [if_pos rfl, Option.map_eq_none_iff.1 h]
    simp
  · rw [if_neg e]
    cases hf : es.find? (fun p => decide (p.1 = n)) with
    | some p => rfl
    | none => simp [Ne.symm e]
theorem mget_setZ : ∀ {es : EntsZ} {i : Nat} {s : Int} {v : Value} (n : Int), (es.map (·.1)).Nodup → (∃ c, es[i]? = some (s, c)) → mgetZ (es.set i (s, v)) n = if n = s then some v else mgetZ es n
  | [], i, s, v, n, _, h => by obtain ⟨_, h⟩ := h; simp at h
  | (a, c) :: es, 0, s, v, n, _, h => by
    obtain ⟨_, h⟩ := h
    simp only [List.getElem?_cons_zero, Option.some.injEq, Prod.mk.injEq] at h
    obtain ⟨rfl, _⟩ := h
    simp only [mgetZ, List.set_cons_zero, List.find?_cons]
    by_cases e : n = a
    · subst e; simp
    · rw [if_neg e, decide_eq_false (Ne.symm e)]
  | (a, c) :: es, i + 1, s, v, n, hn, h => by
    obtain ⟨c', h⟩ := h
    rw [List.getElem?_cons_succ] at h
    rw [List.map_cons, List.nodup_cons] at hn
    have ih := mget_setZ (v := v) n hn.2 ⟨c', h⟩
    have has : a ≠ s := by
      rintro rfl
      exact hn.1 (List.mem_map_of_mem (f := (·.1)) (List.mem_of_getElem? h))
    simp only [mgetZ, List.set_cons_succ, List.find?_cons] at ih ⊢
    by_cases e : a = n
    · subst e
      rw [decide_eq_true rfl, if_neg has]
    · rw [decide_eq_false e]
      exact ih
theorem mget_mputZ {es : EntsZ} {s : Int} {v : Value} (n : Int) (hn : (es.map (·.1)).Nodup) : mgetZ (mputZ es s v) n = if n = s then some v else mgetZ es n := by
  rw [mputZ]
  cases hf : es.findIdx? (fun p => decide (p.1 = s)) with
  | some i =>
    obtain ⟨hi, hs, _⟩ := List.findIdx?_eq_some_iff_getElem.1 hf
    have hs' : es[i].1 = s := by simpa using hs
    exact mget_setZ n hn ⟨es[i].2, by rw [List.getElem?_eq_getElem hi, ← hs']⟩
  | none =>
    refine mget_appendZ n ?_
    rw [List.findIdx?_eq_none_iff] at hf
    simp only [mgetZ, Option.map_eq_none_iff, List.find?_eq_none]
    intro p hp
    simpa using hf p hp
end
end Go.Fw
end
