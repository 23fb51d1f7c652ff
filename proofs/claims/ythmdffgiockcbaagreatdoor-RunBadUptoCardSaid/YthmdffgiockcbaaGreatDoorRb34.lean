/- Own work: texts RunG, SpecRunT, LawRn, Post, PostVar, one behind the other. -/
import Derived.Test.YthmdffgiockcbaaGreatDoorRb33
import Derived.Test.YthmdffgiockcbaaGreatDoorRows
import Derived.WalkKit
import Derived.ProofKit
import Derived.OpenShut
import Derived.ShutString
import Derived.JoinedCond
import Derived.MakeChecks
import Derived.LaidSub
import Derived.Lay
import Derived.Stop.LaidErr
section
namespace Go.Sp
theorem allTo_few {src : List UInt8} {its : List Itm} (h : AllOk src its) : ∀ k, k ≤ its.length → (allTo its k).length ≤ k * 2000000000
  | 0, _ => by rw [allTo]; simp
  | k + 1, hk => by
    rw [allTo_succ, List.length_append, dgsR, List.length_map]
    have := allTo_few h k (by omega)
    have := rawD_few h (i := k) (by omega)
    omega
end Go.Sp
namespace Go.Proofs.YthmdffgiockcbaaGreatDoor
open Go.Fw
structure RaX where
  k : Nat
  I : Imm
  sa : Option Addr
  sp : Nat
section
variable {src : List UInt8} {its : List Sp.Itm} {a : Option Addr} {cp : Nat} {xs : List Value}
set_option maxHeartbeats 32000000 in
theorem r_all (I : Imm) (h : FE I its a cp xs) (hA : Sp.AllOk src its) :
    CalM Tryz.prog 23 #[.agg [.slice a its.length cp].toArray] I [] (fun v I' H' => H' = [] ∧ ∃ da dp, v = .slice da (Sp.allD its).length dp ∧ RowI I' 154 4 (.slice da (Sp.allD its).length dp) (Sp.allD its).length ((Sp.allD its).flatMap encDi)) := by
  refine CalM.of fun w E hm => enter (N := 18) Tryz.func23 rfl [(0, .agg [.slice a its.length cp].toArray)] args1 rfl ?_
  have hfew := hA.few
  have hfew2 := Sp.allTo_few hA
  rw [Sp.allD]
  repeat' (first|refine wc_hold 2 ?_|(refine m_box (d:=1) hm (k:=?_); clear hm; intro b1 _ hm)|refine op_assign (k:=?_)|refine wl_nil ?_|refine at_then_normal ?_|refine wc_seq ?_|refine wc_region ?_)
  all_goals try (exfalso; first | omega | contradiction)
  obtain ⟨I2, hle2, hm2, hpf⟩ := hm.freezeO
  clear hm
  have hm := hm2.nil 154 4
  clear hm2
  refine ⟨?_⟩
  repeat' (first|refine i_load1 hm (k:=?_)|refine op_move (k:=?_)|refine op_len_slice (k:=?_)|refine op_fieldAddr (k:=?_)|refine wl_nil ?_|refine at_then_normal ?_|refine wc_region ?_|refine wc_block ?_)
  all_goals try (exfalso; first | omega | contradiction)
  refine wc_loop (fun x : RaX => [(1, ptr b1), (3, .slice x.sa (Sp.allTo its x.k).length x.sp), (7, nt its.length), (8, nt x.k)])
    (fun x w' => Mem E x.I [.row (.slice x.sa (Sp.allTo its x.k).length x.sp) 154 4 (Sp.allTo its x.k).length ((Sp.allTo its x.k).flatMap encDi)] w' ∧ Le I2 x.I ∧ x.k ≤ its.length) (fun x => its.length - x.k) ⟨0, I2, none, 0⟩
    (by exact ⟨rfl, rfl, rfl, rfl, trivial⟩) ⟨hm, Le.refl _, Nat.zero_le _⟩ ?_
  clear hm
  rintro ⟨k, I3, oa, op⟩ w3 ⟨hm, hle3, hk⟩
  dsimp only at hm hle3 hk ⊢
  have hpf3 := hpf.le hle3
  by_cases hlt : k < its.length
  · have hD := r_diags k hlt I3 ((h.le hle2).le hle3) hA
    have hs := Sp.allTo_succ its k
    have h1 := hfew2 (k + 1) hlt
    rw [hs, List.length_append] at h1
    generalize Sp.allTo its k = pre at hm hs h1
    generalize Sp.dgsR its k = dd at hD hs h1
    repeat' (first|(refine i_loadN (d:=12) hm (hp:=hpf3) (k:=?_))|(refine m_call (d:=14) hm (hp:=pm0) (hc:=hD) (k:=?_); clear hm; rintro _ I4 _ _ ⟨rfl, da, dp, rfl, hrow⟩ hleI4 hm; try simp only [setn] at hm)|(refine m_appendI (d:=15) hm (hr:=hrow) (h1:=encDi_one) (k:=?_); clear hm; intro a15 cp15 _ hm; try simp only [setn] at hm)|refine op_move (k:=?_)|refine op_assign (k:=?_)|refine op_lss (k:=?_)|refine op_add (k:=?_)|refine wl_nil ?_|refine at_then_normal ?_|refine at_block_normal ?_|refine wc_seq ?_|refine wc_region ?_|refine wc_block ?_|refine wc_skip ?_|(refine wc_cond_dec (ht:=fun _ => ?_) (hf:=fun _ => ?_)<;> (try first | contradiction | (exfalso; omega))))
    all_goals try (exfalso; first | omega | contradiction)
    refine at_round (⟨k + 1, I4, a15, cp15⟩ : RaX) (by exact ⟨rfl, by rw [hs, List.length_append]; rfl, rfl, rfl, trivial⟩) ⟨?_, hle3.trans hleI4, by dsimp only; omega⟩ (by dsimp only; omega)
    dsimp only
    rw [hs, List.flatMap_append, List.length_append]
    exact hm
  · obtain rfl : k = its.length := by omega
    repeat' (first|refine op_move (k:=?_)|refine op_assign (k:=?_)|refine op_lss (k:=?_)|refine wl_nil ?_|refine at_then_normal ?_|refine at_then_exit ?_|refine at_block_exit ?_|refine wc_seq ?_|refine wc_region ?_|refine wc_exit ?_|refine wc_ret ?_|refine at_ret1 (h:=?_)|(refine wc_cond_dec (ht:=fun _ => ?_) (hf:=fun _ => ?_)<;> (try first | contradiction | (exfalso; omega))))
    all_goals try (exfalso; first | omega | contradiction)
    obtain ⟨I4, hle4, hm4, hrow⟩ := hm.freeze
    exact ⟨I4, [], ⟨rfl, _, _, rfl, hrow⟩, hm4⟩
abbrev ranV (ea : Option Addr) (ep : Nat) (r : Sp.Rn) : Value := .agg [.slice ea r.ev.length ep, .int .i64 r.n, nt r.err, nt r.steps].toArray
abbrev ToRan (r : Sp.Rn) : Value → Imm → List HItem → Prop := fun v I' H' => H' = [] ∧ ∃ ea ep, v = ranV ea ep r ∧ RowI I' 59 2 (.slice ea r.ev.length ep) r.ev.length (r.ev.flatMap encEv)
set_option maxHeartbeats 32000000 in
theorem r_run (nm : List UInt8) (args : List Int) (I : Imm) (h : FE I its a cp xs) (hA : Sp.AllOk src its) (hok : Sp.allD its = [] → ∀ it ∈ its, it.kind = 2 → Sp.stmsAll (Sp.okE its) Sp.anyS it.body) (aa : Option Addr) (ac : Nat)
    (hra : RowI I 3 1 (.slice aa args.length ac) args.length (intV args)) :
    CalM Tryz.prog 31 #[.agg [.slice a its.length cp].toArray, str nm, .slice aa args.length ac] I [] (ToRan (Sp.runR its nm args)) := by
  refine CalM.of fun w E hm => enter (N := 61) Tryz.func31 rfl [(0, .agg [.slice a its.length cp].toArray), (1, str nm), (2, .slice aa args.length ac)] args3 rfl ?_
  have hfew := hA.few
  obtain ⟨fin, hfin⟩ : ∃ fin, fin = Sp.runR its nm args := ⟨_, rfl⟩
  rw [← hfin]
  rw [Sp.runR] at hfin
  have hfind := fun (J : Imm) (m : Le I J) => (n_find 2 nm its J a cp xs (h.le m)).read
  have hAll := fun (J : Imm) (m : Le I J) => r_all J (h.le m) hA
  have hmore : ∀ (J : Imm), RowI J 59 2 (.slice none 0 0) 0 (([] : List Sp.Ev).flatMap encEv) := fun J => rowI_nil _ _ _ _ _
  by_cases hbad : Sp.allD its ≠ []
  · rw [if_pos hbad] at hfin
    subst hfin
    have hl0 : 0 < (Sp.allD its).length := List.length_pos_iff.2 hbad
    generalize Sp.allD its = all at hAll hl0
    repeat' (first|refine wc_hold 1 ?_|(refine m_box (d:=3) hm (k:=?_); clear hm; intro b3 _ hm)|(refine m_allocS (d:=6) hm (k:=?_); clear hm; intro b6 _ hm)|refine wl_nil ?_|refine at_then_normal ?_|refine wc_seq ?_|refine wc_region ?_)
    all_goals try (exfalso; first | omega | contradiction)
    obtain ⟨I2, hle2, hm2, hpf⟩ := Mem.freezeO hm.swap
    clear hm
    have hm := hm2
    clear hm2
    refine ⟨?_⟩
    repeat' (first|(refine i_loadN (d:=10) hm (hp:=hpf) (k:=?_))|(refine m_readC (d:=12) hm (hc:=hfind I2 hle2) (k:=?_); clear hm; intro _ hm)|(refine i_loadN (d:=14) hm (hp:=hpf) (k:=?_))|(refine m_call (d:=15) hm (hp:=pm0) (hc:=hAll I2 hle2) (k:=?_); clear hm; rintro _ I3 _ _ ⟨rfl, da, dp, rfl, hrd⟩ hleI3 hm; try simp only [setn] at hm)|(refine m_storeAll hm (k:=?_); clear hm; intro _ hm; try simp only [setn] at hm)|refine m_ret_agg hm (h:=?_)|refine op_move (k:=?_)|refine op_assign (k:=?_)|refine op_gtr (k:=?_)|refine op_len_slice (k:=?_)|refine op_struct (k:=?_)|refine wl_nil ?_|refine at_then_normal ?_|refine at_then_ret ?_|refine at_block_ret ?_|refine wc_seq ?_|refine wc_region ?_|refine wc_block ?_|refine wc_ret ?_|(refine wc_cond_dec (ht:=fun _ => ?_) (hf:=fun _ => ?_)<;> (try first | contradiction | (exfalso; omega))))
    all_goals try (exfalso; first | omega | contradiction)
    exact ⟨I3, [], ⟨rfl, none, 0, rfl, hmore _⟩, hm.left (H := [])⟩
  rw [if_neg hbad] at hfin
  have hb0 : Sp.allD its = [] := Classical.not_not.1 hbad
  have hok2 := hok hb0
  rw [hb0] at hAll
  cases hf : Sp.findIt its 2 nm with
  | none =>
    rw [hf] at hfin
    dsimp only at hfin
    subst hfin
    rw [show Sp.findV its 2 nm = -1 by rw [Sp.findV, hf]] at hfind
    repeat' (first|refine wc_hold 1 ?_|(refine m_box (d:=3) hm (k:=?_); clear hm; intro b3 _ hm)|(refine m_allocS (d:=6) hm (k:=?_); clear hm; intro b6 _ hm)|refine wl_nil ?_|refine at_then_normal ?_|refine wc_seq ?_|refine wc_region ?_)
    all_goals try (exfalso; first | omega | contradiction)
    obtain ⟨I2, hle2, hm2, hpf⟩ := Mem.freezeO hm.swap
    clear hm
    have hm := hm2
    clear hm2
    refine ⟨?_⟩
    repeat' (first|(refine i_loadN (d:=10) hm (hp:=hpf) (k:=?_))|(refine m_readC (d:=12) hm (hc:=hfind I2 hle2) (k:=?_); clear hm; intro _ hm)|(refine i_loadN (d:=14) hm (hp:=hpf) (k:=?_))|(refine m_call (d:=15) hm (hp:=pm0) (hc:=hAll I2 hle2) (k:=?_); clear hm; rintro _ I3 _ _ ⟨rfl, da, dp, rfl, hrd⟩ hleI3 hm; try simp only [setn] at hm)|(refine m_storeAll hm (k:=?_); clear hm; intro _ hm; try simp only [setn] at hm)|refine m_ret_agg hm (h:=?_)|refine op_move (k:=?_)|refine op_assign (k:=?_)|refine op_lss (k:=?_)|refine op_gtr (k:=?_)|refine op_len_slice (k:=?_)|refine op_struct (k:=?_)|refine wl_nil ?_|refine at_then_normal ?_|refine at_then_ret ?_|refine at_block_ret ?_|refine wc_seq ?_|refine wc_region ?_|refine wc_block ?_|refine wc_ret ?_|refine wc_cond_true (ht:=?_)|refine wc_cond_false (hf:=?_))
    all_goals try (exfalso; first | omega | contradiction)
    exact ⟨I3, [], ⟨rfl, none, 0, rfl, hmore _⟩, hm.left (H := [])⟩
  | some j =>
  rw [hf] at hfin
  dsimp only at hfin
  rw [show Sp.findV its 2 nm = (j : Int) by rw [Sp.findV, hf]] at hfind
  obtain ⟨hjl, hjk, _, _, hmem⟩ := Sp.findIt_lt hf
  have hri := h.row
  obtain ⟨ci, hci, hat, _⟩ := h.get (Sp.itNo_get hjl)
  have hsm := (hA.fl _ hmem).small
  have hcall := fun (J : Imm) (m : Le I J) (bf bm : Nat) (hp : PtrI J bf 0 25 [.slice a its.length cp]) (hpl : args.length = (Sp.itNo its j).params.length) =>
    r_calls (bm := bm) (⟨hp, h.le m, fun it hit => ⟨(hA.fl it hit).small, (hA.fl it hit).cnt, hok2 it hit⟩⟩ : RFile J its bf a cp xs) 40 (Nat.le_refl _) J nm args Sp.MR0 none 0 aa ac (Le.refl _) ⟨j, hf, hpl.symm⟩ (hra.le m) (Nat.zero_le _) (Nat.zero_le _)
  have hto := Sp.callR_ok its 40 nm args Sp.MR0 (Nat.zero_le _)
  generalize Sp.itNo its j = it at hfin hat hsm hcall
  obtain ⟨pa, pc, sa9, sc9, ba, bc9, da9, dc9, xb, rfl, hpar, _, _, _, _⟩ := hat
  by_cases hpl : args.length = it.params.length
  case neg =>
    rw [if_pos hpl] at hfin
    subst hfin
    repeat' (first|refine wc_hold 1 ?_|(refine m_box (d:=3) hm (k:=?_); clear hm; intro b3 _ hm)|(refine m_allocS (d:=6) hm (k:=?_); clear hm; intro b6 _ hm)|refine wl_nil ?_|refine at_then_normal ?_|refine wc_seq ?_|refine wc_region ?_)
    all_goals try (exfalso; first | omega | contradiction)
    obtain ⟨I2, hle2, hm2, hpf⟩ := Mem.freezeO hm.swap
    clear hm
    have hm := hm2
    clear hm2
    have hri2 := hri.le hle2
    refine ⟨?_⟩
    repeat' (first|(refine i_loadN (d:=10) hm (hp:=hpf) (k:=?_))|(refine m_readC (d:=12) hm (hc:=hfind I2 hle2) (k:=?_); clear hm; intro _ hm)|(refine i_loadN (d:=14) hm (hp:=hpf) (k:=?_))|(refine m_call (d:=15) hm (hp:=pm0) (hc:=hAll I2 hle2) (k:=?_); clear hm; rintro _ I3 _ _ ⟨rfl, da, dp, rfl, hrd⟩ hleI3 hm; try simp only [setn] at hm; have hpf3 := hpf.le hleI3; have hri3 := hri2.le hleI3)|(refine i_indexAddr (d:=29) (hr:=hri3) (k:=?_); intro bt ot hpt; rw [show ((j : Int).toNat * 10) = j * 10 from rfl, hci] at hpt)|refine i_load1 hm (k:=?_)|(refine m_storeAll hm (k:=?_); clear hm; intro _ hm; try simp only [setn] at hm)|refine m_ret_agg hm (h:=?_)|refine op_move (k:=?_)|refine op_assign (k:=?_)|refine op_lss (k:=?_)|refine op_gtr (k:=?_)|refine op_neq (k:=?_)|refine op_len_slice (k:=?_)|refine op_fieldAddr (k:=?_)|refine op_struct (k:=?_)|refine wl_nil ?_|refine at_then_normal ?_|refine at_then_ret ?_|refine at_block_ret ?_|refine wc_seq ?_|refine wc_region ?_|refine wc_block ?_|refine wc_ret ?_|refine wc_cond_false (hf:=?_)|(refine wc_cond_dec (ht:=fun _ => ?_) (hf:=fun _ => ?_)<;> (try first | contradiction | (exfalso; omega))))
    all_goals try (exfalso; first | omega | contradiction)
    exact ⟨I3, [], ⟨rfl, none, 0, rfl, hmore _⟩, hm.left (H := [])⟩
  rw [if_neg (fun hh => hh hpl)] at hfin
  have hcall2 := fun (J : Imm) (m : Le I J) (bf bm : Nat) (hp : PtrI J bf 0 25 [.slice a its.length cp]) => hcall J m bf bm hp hpl
  clear hcall
  generalize Sp.callR its 40 nm args Sp.MR0 = r at hfin hcall2 hto
  repeat' (first|refine wc_hold 1 ?_|(refine m_box (d:=3) hm (k:=?_); clear hm; intro b3 _ hm)|(refine m_allocS (d:=6) hm (k:=?_); clear hm; intro b6 _ hm)|refine wl_nil ?_|refine at_then_normal ?_|refine wc_seq ?_|refine wc_region ?_)
  all_goals try (exfalso; first | omega | contradiction)
  obtain ⟨I2, hle2, hm2, hpf⟩ := Mem.freezeO hm.swap
  clear hm
  have hm := hm2
  clear hm2
  have hri2 := hri.le hle2
  refine ⟨?_⟩
  repeat' (first|(refine i_loadN (d:=10) hm (hp:=hpf) (k:=?_))|(refine m_readC (d:=12) hm (hc:=hfind I2 hle2) (k:=?_); clear hm; intro _ hm)|(refine i_loadN (d:=14) hm (hp:=hpf) (k:=?_))|(refine m_call (d:=15) hm (hp:=pm0) (hc:=hAll I2 hle2) (k:=?_); clear hm; rintro _ I3 _ _ ⟨rfl, da, dp, rfl, hrd⟩ hleI3 hm; try simp only [setn] at hm; have hpf3 := hpf.le hleI3; have hri3 := hri2.le hleI3)|(refine i_indexAddr (d:=29) (hr:=hri3) (k:=?_); intro bt ot hpt; rw [show ((j : Int).toNat * 10) = j * 10 from rfl, hci] at hpt)|refine wc_hold 9 ?_|(refine m_box (d:=36) hm (k:=?_); clear hm; intro b36 _ hm)|refine i_load1 hm (k:=?_)|refine op_move (k:=?_)|refine op_assign (k:=?_)|refine op_lss (k:=?_)|refine op_gtr (k:=?_)|refine op_neq (k:=?_)|refine op_len_slice (k:=?_)|refine op_fieldAddr (k:=?_)|refine op_struct (k:=?_)|refine wl_nil ?_|refine at_then_normal ?_|refine at_block_normal ?_|refine wc_seq ?_|refine wc_region ?_|refine wc_block ?_|refine wc_skip ?_|refine wc_cond_false (hf:=?_)|(refine wc_cond_dec (ht:=fun _ => ?_) (hf:=fun _ => ?_)<;> (try first | contradiction | (exfalso; omega))))
  all_goals try (exfalso; first | omega | contradiction)
  have hm := (hm.nil 59 2).swap
  have hC := hcall2 I3 (hle2.trans hleI3) b3 b36 hpf3
  refine ⟨?_⟩
  by_cases he : r.2.err ≠ 0
  · rw [if_pos he] at hfin
    subst hfin
    repeat' (first|(refine m_call (d:=40) hm (hp:=pm2_0) (hc:=hC) (k:=?_); clear hm; rintro _ I4 _ _ ⟨rfl, va4, vp4, rfl⟩ hleI4 hm; try simp only [setn] at hm)|refine m_load1 hm (k:=?_)|(refine m_storeAll hm (k:=?_); clear hm; intro _ hm; try simp only [setn] at hm)|refine m_ret_agg hm (h:=?_)|refine op_move (k:=?_)|refine op_assign (k:=?_)|refine op_neq (k:=?_)|refine op_nilCheck (k:=?_)|refine op_fieldAddr (k:=?_)|refine op_struct (k:=?_)|refine wl_nil ?_|refine at_then_normal ?_|refine at_then_ret ?_|refine wc_seq ?_|refine wc_region ?_|refine wc_ret ?_|(refine wc_cond_dec (ht:=fun _ => ?_) (hf:=fun _ => ?_)<;> (try first | contradiction | (exfalso; omega))))
    all_goals try (exfalso; first | omega | contradiction)
    exact ⟨I4, [], ⟨rfl, none, 0, rfl, hmore _⟩, hm.left (H := [])⟩
  · rw [if_neg he] at hfin
    have he0 : r.2.err = 0 := by omega
    subst hfin
    repeat' (first|(refine m_call (d:=40) hm (hp:=pm2_0) (hc:=hC) (k:=?_); clear hm; rintro _ I4 _ _ ⟨rfl, va4, vp4, rfl⟩ hleI4 hm; try simp only [setn] at hm)|(refine wc_quiet_tail (id:=12) 10 (h:=?_))|refine m_load1 hm (k:=?_)|refine mq_load1 hm (k:=?_)|(refine m_storeAll hm (k:=?_); clear hm; intro _ hm; try simp only [setn] at hm)|refine m_ret_agg hm (h:=?_)|refine op_move (k:=?_)|refine op_assign (k:=?_)|refine op_neq (k:=?_)|refine op_nilCheck (k:=?_)|refine op_fieldAddr (k:=?_)|refine wl_nil ?_|refine at_then_normal ?_|refine wc_seq ?_|refine wc_region ?_|refine wc_skip ?_|refine wc_ret ?_|(refine wq_nil_tail ?_; intro _ hkq; replace hm := hm.kept0 hkq; clear hkq)|(refine wc_cond_dec (ht:=fun _ => ?_) (hf:=fun _ => ?_)<;> (try first | contradiction | (exfalso; omega)))|refine q_move (k:=?_)|refine q_nilCheck (k:=?_)|refine q_fieldAddr (k:=?_)|refine q_struct (k:=?_))
    all_goals try (exfalso; first | omega | contradiction)
    obtain ⟨I5, hle5, hm5, hrow⟩ := Mem.freeze (hm.perm (pm1_1.trans (.refl _)))
    exact ⟨I5, [], ⟨rfl, va4, vp4, rfl, hrow⟩, hm5.left (H := [])⟩
set_option maxHeartbeats 32000000 in
theorem r_seen (l : List Sp.Ev) (n : Nat) (hn : n < 256) (I : Imm) (h : FE I its a cp xs) (hA : Sp.AllOk src its) (hl : l.length ≤ 1000000000) (la : Option Addr) (lc : Nat)
    (hrl : RowI I 59 2 (.slice la l.length lc) l.length (l.flatMap encEv)) :
    CalM Tryz.prog 34 #[.agg [.slice a its.length cp].toArray, .slice la l.length lc, nt n] I [] (fun v I' H' => H' = [] ∧ ∃ ea ep, v = .slice ea (Sp.seenR its l n).length ep ∧ RowI I' 59 2 (.slice ea (Sp.seenR its l n).length ep) (Sp.seenR its l n).length ((Sp.seenR its l n).flatMap encEv)) := by
  refine CalM.of fun w E hm => enter (N := 40) Tryz.func34 rfl [(0, .agg [.slice a its.length cp].toArray), (1, .slice la l.length lc), (2, nt n)] args3 rfl ?_
  have hfew := hA.few
  repeat' (first|refine wc_hold 2 ?_|(refine m_box (d:=3) hm (k:=?_); clear hm; intro b3 _ hm)|refine op_assign (k:=?_)|refine wl_nil ?_|refine at_then_normal ?_|refine wc_seq ?_|refine wc_region ?_)
  all_goals try (exfalso; first | omega | contradiction)
  obtain ⟨I2, hle2, hm2, hpf⟩ := hm.freezeO
  clear hm
  have hm := hm2.nil 59 2
  clear hm2
  have h2 := h.le hle2
  have hrl2 := hrl.le hle2
  have hri := h2.row
  have hfind := fun (nm : List UInt8) => (n_find 1 nm its I2 a cp xs h2).read
  refine ⟨?_⟩
  repeat' (first|refine op_move (k:=?_)|refine op_len_slice (k:=?_)|refine wl_nil ?_|refine at_then_normal ?_|refine wc_region ?_|refine wc_block ?_)
  all_goals try (exfalso; first | omega | contradiction)
  refine wc_loop (fun x : DgX => [(2, nt n), (3, ptr b3), (7, .slice x.sa (Sp.seenR its (l.take x.q) n).length x.sp), (11, .slice la l.length lc), (12, nt l.length), (13, nt x.q)])
    (fun x w' => Mem E I2 [.row (.slice x.sa (Sp.seenR its (l.take x.q) n).length x.sp) 59 2 (Sp.seenR its (l.take x.q) n).length ((Sp.seenR its (l.take x.q) n).flatMap encEv)] w' ∧ x.q ≤ l.length) (fun x => l.length - x.q) ⟨0, none, 0⟩
    (by exact ⟨rfl, rfl, rfl, rfl, rfl, rfl, trivial⟩) ⟨hm, Nat.zero_le _⟩ ?_
  clear hm
  rintro ⟨k, oa, op⟩ w3 ⟨hm, hk⟩
  dsimp only at hm hk ⊢
  by_cases hlt : k < l.length
  · have hg : l[k]? = some l[k] := List.getElem?_eq_getElem hlt
    generalize l[k] = e at hg
    have hst : Sp.seenR its (l.take (k + 1)) n = Sp.seenR its (l.take k) n ++ (if Sp.seenB its n e = true then [e] else []) := by
      rw [Sp.seenR, Sp.take_succ_get hg, List.filter_append, Sp.seenR]
      congr 1
      cases hb : Sp.seenB its n e <;> simp [hb]
    have hsl : (Sp.seenR its (l.take k) n).length ≤ k := by
      have := List.length_filter_le (Sp.seenB its n) (l.take k)
      rw [List.length_take] at this
      rw [Sp.seenR]; omega
    generalize Sp.seenR its (l.take k) n = sk at hm hst hsl
    rw [Sp.seenB] at hst
    have hF := hfind e.ch
    cases hf : Sp.findIt its 1 e.ch with
    | none =>
      rw [hf] at hst
      simp only [Bool.false_eq_true, if_false, List.append_nil] at hst
      rw [show Sp.findV its 1 e.ch = -1 by rw [Sp.findV, hf]] at hF
      repeat' (first|(refine i_indexFlat (d:=15) (enc:=encEv) (z:=e) (hr:=hrl2) (he:=fun _ => rfl) (hz:=by exact hg) (k:=?_); intro bz oz hpz)|(refine i_loadN (d:=17) hm (hp:=hpf) (k:=?_))|(refine m_readC (d:=20) hm (hc:=hF) (k:=?_); clear hm; intro _ hm)|(refine m_varS (d:=9) hm (k:=?_); clear hm; intro b9 _ hm)|refine m_load1 hm (k:=?_)|refine i_loadN hm (k:=?_)|refine op_move (k:=?_)|refine op_assign (k:=?_)|refine op_pick_false (k:=?_)|refine op_lss (k:=?_)|refine op_geq (k:=?_)|refine op_add (k:=?_)|refine op_fieldAddr (k:=?_)|refine wl_skip (k:=?_)|refine wl_nil ?_|refine at_then_normal ?_|refine at_block_normal ?_|refine wc_seq ?_|refine wc_region ?_|refine wc_block ?_|refine wc_skip ?_|refine wc_cond_false (hf:=?_)|(refine wc_cond_dec (ht:=fun _ => ?_) (hf:=fun _ => ?_)<;> (try first | contradiction | (exfalso; omega))))
      all_goals try (exfalso; first | omega | contradiction)
      exact at_round (⟨k + 1, oa, op⟩ : DgX) (by exact ⟨rfl, rfl, by rw [hst]; rfl, rfl, rfl, rfl, trivial⟩) ⟨by dsimp only; rw [hst]; exact hm.tl, by dsimp only; omega⟩ (by dsimp only; omega)
    | some j =>
      rw [hf] at hst
      dsimp only at hst
      rw [show Sp.findV its 1 e.ch = (j : Int) by rw [Sp.findV, hf]] at hF
      obtain ⟨hjl, _, _, _, hmem⟩ := Sp.findIt_lt hf
      have hlb := (hA.lab _ hmem).1
      obtain ⟨ci, hci, hat, _⟩ := h2.get (Sp.itNo_get hjl)
      obtain ⟨it, hit⟩ : ∃ it, it = Sp.itNo its j := ⟨_, rfl⟩
      simp only [← hit] at hst hlb hat
      obtain ⟨pa, pc, sa9, sc9, ba, bc9, da9, dc9, xb, rfl, _⟩ := hat
      have haz := Sp.andNot_zero hlb hn
      by_cases hfl : Sp.flows it.label n = true
      · have h0 := haz.2 hfl
        rw [if_pos hfl] at hst
        repeat' (first|(refine i_indexFlat (d:=15) (enc:=encEv) (z:=e) (hr:=hrl2) (he:=fun _ => rfl) (hz:=by exact hg) (k:=?_); intro bz oz hpz)|(refine i_loadN (d:=17) hm (hp:=hpf) (k:=?_))|(refine m_readC (d:=20) hm (hc:=hF) (k:=?_); clear hm; intro _ hm)|(refine i_indexAddr (d:=27) (hr:=hri) (k:=?_); intro bt ot hpt; rw [show ((j : Int).toNat * 10) = j * 10 from rfl, hci] at hpt)|(refine op_andNot (d:=31) (k:=?_); rw [Int.toNat_natCast, Int.toNat_natCast, h0])|(refine m_varS (d:=9) hm (k:=?_); clear hm; intro b9 _ hm)|(refine m_push (d:=37) hm (k:=?_); clear hm; intro a37 cp37 _ _ hm; try simp only [setn] at hm)|refine m_load1 hm (k:=?_)|refine i_load1 hm (k:=?_)|refine m_loadAll hm (k:=?_)|refine i_loadN hm (k:=?_)|refine op_move (k:=?_)|refine op_assign (k:=?_)|refine op_pick_true (k:=?_)|refine op_lss (k:=?_)|refine op_geq (k:=?_)|refine op_eql (k:=?_)|refine op_add (k:=?_)|refine op_fieldAddr (k:=?_)|refine wl_nil ?_|refine at_then_normal ?_|refine at_block_normal ?_|refine wc_seq ?_|refine wc_region ?_|refine wc_block ?_|refine wc_skip ?_|refine wc_cond_true (ht:=?_)|(refine wc_cond_dec (ht:=fun _ => ?_) (hf:=fun _ => ?_)<;> (try first | contradiction | (exfalso; omega))))
        all_goals try (exfalso; first | omega | contradiction)
        refine at_round (⟨k + 1, a37, cp37⟩ : DgX) (by exact ⟨rfl, rfl, by rw [hst, List.length_append]; rfl, rfl, rfl, rfl, trivial⟩) ⟨?_, by dsimp only; omega⟩ (by dsimp only; omega)
        dsimp only
        rw [hst, List.flatMap_append, List.length_append]
        exact hm.tl
      · have h0 : it.label &&& (2 ^ 64 - 1 - n) ≠ 0 := fun hh => hfl (haz.1 hh)
        rw [if_neg hfl, List.append_nil] at hst
        clear haz
        obtain ⟨z, hz⟩ : ∃ z, z = it.label &&& (2 ^ 64 - 1 - n) := ⟨_, rfl⟩
        rw [← hz] at h0
        repeat' (first|(refine i_indexFlat (d:=15) (enc:=encEv) (z:=e) (hr:=hrl2) (he:=fun _ => rfl) (hz:=by exact hg) (k:=?_); intro bz oz hpz)|(refine i_loadN (d:=17) hm (hp:=hpf) (k:=?_))|(refine m_readC (d:=20) hm (hc:=hF) (k:=?_); clear hm; intro _ hm)|(refine i_indexAddr (d:=27) (hr:=hri) (k:=?_); intro bt ot hpt; rw [show ((j : Int).toNat * 10) = j * 10 from rfl, hci] at hpt)|(refine op_andNot (d:=31) (k:=?_); rw [Int.toNat_natCast, Int.toNat_natCast, ← hz])|(refine m_varS (d:=9) hm (k:=?_); clear hm; intro b9 _ hm)|refine m_load1 hm (k:=?_)|refine i_load1 hm (k:=?_)|refine i_loadN hm (k:=?_)|refine op_move (k:=?_)|refine op_assign (k:=?_)|refine op_pick_true (k:=?_)|refine op_lss (k:=?_)|refine op_geq (k:=?_)|refine op_eql (k:=?_)|refine op_add (k:=?_)|refine op_fieldAddr (k:=?_)|refine wl_nil ?_|refine at_then_normal ?_|refine at_block_normal ?_|refine wc_seq ?_|refine wc_region ?_|refine wc_block ?_|refine wc_skip ?_|(refine wc_cond_dec (ht:=fun _ => ?_) (hf:=fun _ => ?_)<;> (try first | contradiction | (exfalso; omega))))
        all_goals try (exfalso; first | omega | contradiction)
        exact at_round (⟨k + 1, oa, op⟩ : DgX) (by exact ⟨rfl, rfl, by rw [hst]; rfl, rfl, rfl, rfl, trivial⟩) ⟨by dsimp only; rw [hst]; exact hm.tl, by dsimp only; omega⟩ (by dsimp only; omega)
  · obtain rfl : k = l.length := by omega
    rw [List.take_length] at hm ⊢
    repeat' (first|refine op_move (k:=?_)|refine op_assign (k:=?_)|refine op_lss (k:=?_)|refine wl_nil ?_|refine at_then_normal ?_|refine at_then_exit ?_|refine at_block_exit ?_|refine wc_seq ?_|refine wc_region ?_|refine wc_exit ?_|refine wc_ret ?_|refine at_ret1 (h:=?_)|(refine wc_cond_dec (ht:=fun _ => ?_) (hf:=fun _ => ?_)<;> (try first | contradiction | (exfalso; omega))))
    all_goals try (exfalso; first | omega | contradiction)
    obtain ⟨I4, hle4, hm4, hrow⟩ := hm.freeze
    exact ⟨I4, [], ⟨rfl, _, _, rfl, hrow⟩, hm4⟩
end
end Go.Proofs.YthmdffgiockcbaaGreatDoor
end
section
namespace Go.Sp
def runT : List UInt8 := [99, 104, 97, 110, 32, 99, 58, 32, 123, 125, 59, 10, 102, 110, 32, 102, 40, 120, 58, 32, 123, 125, 41, 58, 32, 123, 125, 32, 115, 101, 110, 100, 115, 32, 99, 32, 123, 32, 108, 101, 116, 32, 105, 32, 61, 32, 48, 59, 32, 119, 104, 105, 108, 101, 32, 105, 32, 60, 32, 120, 32, 123, 32, 115, 101, 110, 100, 32, 99, 32, 105, 32, 42, 32, 105, 59, 32, 105, 32, 61, 32, 105, 32, 43, 32, 49, 59, 32, 125, 32, 114, 101, 116, 117, 114, 110, 32, 105, 59, 32, 125]
theorem runT_err : fileErr runT = 0 := by decide +kernel
theorem runT_all : allD (fileItems runT) = [] := by decide +kernel
theorem runT_ran : (runR (fileItems runT) [102] [3]).ev = [⟨[99], 0⟩, ⟨[99], 1⟩, ⟨[99], 4⟩] ∧ (runR (fileItems runT) [102] [3]).n = 3 ∧ (runR (fileItems runT) [102] [3]).err = 0 := by decide +kernel
theorem runT_seen : (seenR (fileItems runT) [⟨[99], 0⟩, ⟨[99], 1⟩, ⟨[99], 4⟩] 0).length = 3 := by decide +kernel
theorem flows_meet {c a b : Nat} (h : flows c (a &&& b) = true) : flows c a = true := by
  rw [flows_iff] at h ⊢
  intro k hk hc
  have := h k hk hc
  rw [Nat.testBit_and, Bool.and_eq_true] at this
  exact this.1
theorem seen_meet (its : List Itm) (l : List Ev) (a b : Nat) : seenR its (seenR its l a) (a &&& b) = seenR its l (a &&& b) := by
  rw [seenR, seenR, seenR, List.filter_filter]
  refine List.filter_congr fun e _ => ?_
  rw [Bool.eq_iff_iff, Bool.and_eq_true]
  refine ⟨fun h => h.1, fun h => ⟨h, ?_⟩⟩
  rw [seenB] at h ⊢
  split at h
  · exact flows_meet h
  · cases h
theorem seen_len (its : List Itm) (l : List Ev) (a b : Nat) : (seenR its l (a &&& b)).length ≤ (seenR its l a).length ∧ (seenR its l a).length ≤ l.length := by
  refine ⟨?_, List.length_filter_le _ _⟩
  rw [← seen_meet]
  exact List.length_filter_le _ _
end Go.Sp
end
section
namespace Go.Proofs.YthmdffgiockcbaaGreatDoor
open Go.Fw
set_option maxHeartbeats 32000000 in
theorem u_alive (I : Imm) (hC : Conv I) : CalM Tryz.prog 29 #[] I [] (fun v _ H' => v = .bool true ∧ H' = []) := by
  refine CalM.of fun w E hm => enter (N := 51) Tryz.func29 rfl [] args0 rfl ?_
  have h1 := fun (J : Imm) (m : Le I J) => p_file Sp.runT J (hC.le m) (by decide)
  rw [Sp.runT_err] at h1
  have hA := Sp.file_ok Sp.runT_err
  have hok := Sp.run_ok Sp.runT_all
  have hall := Sp.runT_all
  have hran := Sp.runT_ran
  have hsn := Sp.runT_seen
  generalize Sp.fileItems Sp.runT = its at h1 hA hok hall hran hsn
  have hR := fun (J : Imm) (a cp xs) (h : FE J its a cp xs) (aa : Option Addr) (ac : Nat) (hr : RowI J 3 1 (.slice aa 1 ac) 1 (intV [3])) => r_run [102] [3] J h hA (fun _ => hok) aa ac hr
  have hD := fun (J : Imm) (a cp xs) (h : FE J its a cp xs) => r_all J h hA
  rw [hall] at hD
  obtain ⟨e1, e2, e3⟩ := hran
  unfold ToRan ranV at hR
  rw [e1, e2, e3] at hR
  have hS := fun (J : Imm) (a cp xs) (h : FE J its a cp xs) (la : Option Addr) (lc : Nat) (hr : RowI J 59 2 (.slice la 3 lc) 3 (([⟨[99], 0⟩, ⟨[99], 1⟩, ⟨[99], 4⟩] : List Sp.Ev).flatMap encEv)) => r_seen [⟨[99], 0⟩, ⟨[99], 1⟩, ⟨[99], 4⟩] 0 (by decide) J h hA (by decide) la lc hr
  rw [hsn] at hS
  repeat' (first|(refine m_call (d:=5) hm (hp:=pm0) (hc:=h1 I (Le.refl _)) (k:=?_); clear hm; rintro _ I2 _ _ ⟨a, cp, xs, rfl, hrow, hits, rfl⟩ hleI2 hm; try simp only [setn] at hm)|(refine m_buildRow (d:=9) hm (k:=?_); clear hm; intro b9 _ hm; obtain ⟨I3, hle3, hm3, hr9⟩ := hm.freeze; clear hm; have hm := hm3; clear hm3; have q3 := (fe_of hrow hits hA.few).le hle3)|(refine m_call (d:=10) hm (hp:=pm0) (hc:=hR I3 _ _ _ q3 _ _ hr9) (k:=?_); clear hm; rintro _ I4 _ _ ⟨rfl, ea, ep, rfl, hre⟩ hleI4 hm; try simp only [setn] at hm; have q4 := q3.le hleI4)|refine wc_hold 3 ?_|(refine m_varS (d:=1) hm (k:=?_); clear hm; intro b1 _ hm)|(refine m_varS (d:=3) hm (k:=?_); clear hm; intro b3 _ hm)|refine m_loadAll hm (k:=?_)|refine op_move (k:=?_)|refine op_assign (k:=?_)|refine op_extract (k:=?_)|refine wl_nil ?_|refine at_then_normal ?_|refine wc_seq ?_|refine wc_region ?_)
  all_goals try (exfalso; first | omega | contradiction)
  refine ⟨?_⟩
  repeat' (first|(refine i_indexFlat (d:=32) (enc:=encEv) (z:=⟨[99], 4⟩) (hr:=hre) (he:=fun _ => rfl) (h1:=by decide) (hz:=by rfl) (k:=?_); intro bz oz hpz)|(refine m_call (d:=39) hm (hp:=pm0) (hc:=hD I4 _ _ _ q4) (k:=?_); clear hm; rintro _ I5 _ _ ⟨rfl, da, dp, rfl, hrd⟩ hleI5 hm; try simp only [setn] at hm; have hre5 := hre.le hleI5)|(refine m_call (d:=47) hm (hp:=pm0) (hc:=hS I5 _ _ _ (q4.le hleI5) _ _ hre5) (k:=?_); clear hm; rintro _ I6 _ _ ⟨rfl, fa, fp, rfl, hrf⟩ hleI6 hm; try simp only [setn] at hm)|refine m_load1 hm (k:=?_)|refine i_load1 hm (k:=?_)|refine m_loadAll hm (k:=?_)|refine op_move (k:=?_)|refine op_assign (k:=?_)|refine op_pick_true (k:=?_)|refine op_eql (k:=?_)|refine op_len_slice (k:=?_)|refine op_fieldAddr (k:=?_)|refine wl_nil ?_|refine at_then_normal ?_|refine wc_region ?_|refine wc_ret ?_|refine at_ret1 (h:=?_))
  all_goals try (exfalso; first | omega | contradiction)
  all_goals exact ⟨I6, [], ⟨rfl, rfl⟩, hm.left (H := [])⟩
set_option maxHeartbeats 32000000 in
theorem sp_rbad (s : List UInt8) (nm : List UInt8) (args : List Int) (aa : Option Addr) (ac : Nat) (I : Imm) (hs : s.length ≤ 9223372036854775807) (_ : nm.length ≤ 9223372036854775807) (hal : args.length ≤ 9223372036854775807) (hC : Conv I) (hra : RowI I 3 1 (.slice aa args.length ac) args.length (intV args)) :
    CalM Tryz.prog 7 #[str s, str nm, .slice aa args.length ac] I [] (fun v _ H' => v = .bool true ∧ H' = []) := by
  refine CalM.of fun w E hm => enter (N := 69) Tryz.func7 rfl [(0, str s), (1, str nm), (2, .slice aa args.length ac)] args3 rfl ?_
  have hAl := u_alive I hC
  have hF := fun (J : Imm) (m : Le I J) => p_file s J (hC.le m) hs
  by_cases h0 : Sp.fileErr s ≠ 0
  · generalize Sp.fileErr s = er at hF h0
    generalize Sp.fileItems s = its at hF
    repeat' (first|(refine m_call (d:=11) hm (hp:=pm0) (hc:=hAl) (k:=?_); clear hm; rintro _ I1 _ _ ⟨rfl, rfl⟩ hleI1 hm; try simp only [setn] at hm)|(refine m_call (d:=15) hm (hp:=pm0) (hc:=hF I1 hleI1) (k:=?_); clear hm; rintro _ I2 _ _ ⟨a, cp, xs, rfl, hrow, hits, rfl⟩ hleI2 hm; try simp only [setn] at hm)|(refine m_varS (d:=7) hm (k:=?_); clear hm; intro b7 _ hm)|refine op_move (k:=?_)|refine op_assign (k:=?_)|refine op_neq (k:=?_)|refine op_not (k:=?_)|refine op_extract (k:=?_)|refine wl_nil ?_|refine at_then_normal ?_|refine at_then_ret ?_|refine wc_seq ?_|refine wc_region ?_|refine wc_skip ?_|refine wc_ret ?_|refine at_ret1 (h:=?_)|refine wc_cond_false (hf:=?_)|(refine wc_cond_dec (ht:=fun _ => ?_) (hf:=fun _ => ?_)<;> (try first | contradiction | (exfalso; omega))))
    all_goals try (exfalso; first | omega | contradiction)
    all_goals exact ⟨I2, [], ⟨rfl, rfl⟩, hm.left (H := [])⟩
  have h00 : Sp.fileErr s = 0 := by omega
  rw [h00] at hF
  have hA := Sp.file_ok h00
  have hok := fun h => Sp.run_ok (s := s) h
  generalize Sp.fileItems s = its at hF hA hok
  have hfew := hA.few
  obtain ⟨r1, r2, r3, r4⟩ := Sp.run_err its nm args
  repeat' (first|(refine m_call (d:=11) hm (hp:=pm0) (hc:=hAl) (k:=?_); clear hm; rintro _ I1 _ _ ⟨rfl, rfl⟩ hleI1 hm; try simp only [setn] at hm)|(refine m_call (d:=15) hm (hp:=pm0) (hc:=hF I1 hleI1) (k:=?_); clear hm; rintro _ I2 _ _ ⟨a, cp, xs, rfl, hrow, hits, rfl⟩ hleI2 hm; try simp only [setn] at hm)|refine wc_hold 6 ?_|(refine m_varS (d:=7) hm (k:=?_); clear hm; intro b7 _ hm)|refine op_move (k:=?_)|refine op_assign (k:=?_)|refine op_neq (k:=?_)|refine op_not (k:=?_)|refine op_extract (k:=?_)|refine wl_nil ?_|refine at_then_normal ?_|refine wc_seq ?_|refine wc_region ?_|refine wc_skip ?_|refine wc_cond_false (hf:=?_))
  all_goals try (exfalso; first | omega | contradiction)
  have q1 : FE I2 its a cp xs := fe_of hrow hits hA.few
  obtain ⟨I3, hle3, hm3, hpf⟩ := hm.freezeO
  clear hm
  have hm := hm3
  clear hm3
  have q3 := q1.le hle3
  have hR := r_run nm args I3 q3 hA hok aa ac ((hra.le (hleI1.trans hleI2)).le hle3)
  have hD := fun (J : Imm) (m : Le I3 J) => r_all J (q3.le m) hA
  have hfind := fun (J : Imm) (m : Le I3 J) => (n_find 2 nm its J a cp xs (q3.le m)).read
  unfold ToRan ranV at hR
  generalize Sp.runR its nm args = r at hR r1 r2 r3 r4
  refine ⟨?_⟩
  by_cases hbad : Sp.allD its ≠ []
  · have he := r1 hbad
    have hl0 : 0 < (Sp.allD its).length := List.length_pos_iff.2 hbad
    rw [he] at hR
    generalize Sp.allD its = all at hD hl0
    repeat' (first|(refine i_loadN (d:=20) hm (hp:=hpf) (k:=?_))|(refine m_call (d:=23) hm (hp:=pm0) (hc:=hR) (k:=?_); clear hm; rintro _ I4 _ _ ⟨rfl, ea, ep, rfl, hre⟩ hleI4 hm; try simp only [setn] at hm; have hpf4 := hpf.le hleI4)|(refine i_loadN (d:=24) hm (hp:=hpf4) (k:=?_))|(refine m_call (d:=25) hm (hp:=pm0) (hc:=hD I4 hleI4) (k:=?_); clear hm; rintro _ I5 _ _ ⟨rfl, da, dp, rfl, hrd⟩ hleI5 hm; try simp only [setn] at hm)|(refine m_varS (d:=9) hm (k:=?_); clear hm; intro b9 _ hm)|refine m_load1 hm (k:=?_)|refine op_move (k:=?_)|refine op_assign (k:=?_)|refine op_gtr (k:=?_)|refine op_eql (k:=?_)|refine op_len_slice (k:=?_)|refine op_fieldAddr (k:=?_)|refine wl_nil ?_|refine at_then_normal ?_|refine at_then_ret ?_|refine wc_seq ?_|refine wc_region ?_|refine wc_ret ?_|refine at_ret1 (h:=?_)|(refine wc_cond_dec (ht:=fun _ => ?_) (hf:=fun _ => ?_)<;> (try first | contradiction | (exfalso; omega))))
    all_goals try (exfalso; first | omega | contradiction)
    exact ⟨I5, [], ⟨rfl, rfl⟩, hm.left (H := [])⟩
  have hb0 : Sp.allD its = [] := Classical.not_not.1 hbad
  rw [hb0] at hD
  have hri := q3.row
  cases hf : Sp.findIt its 2 nm with
  | none =>
    rw [r2 hb0 hf] at hR
    rw [show Sp.findV its 2 nm = -1 by rw [Sp.findV, hf]] at hfind
    repeat' (first|(refine i_loadN (d:=20) hm (hp:=hpf) (k:=?_))|(refine m_call (d:=23) hm (hp:=pm0) (hc:=hR) (k:=?_); clear hm; rintro _ I4 _ _ ⟨rfl, ea, ep, rfl, hre⟩ hleI4 hm; try simp only [setn] at hm; have hpf4 := hpf.le hleI4)|(refine i_loadN (d:=24) hm (hp:=hpf4) (k:=?_))|(refine m_call (d:=25) hm (hp:=pm0) (hc:=hD I4 hleI4) (k:=?_); clear hm; rintro _ I5 _ _ ⟨rfl, da, dp, rfl, hrd⟩ hleI5 hm; try simp only [setn] at hm; have hpf5 := hpf4.le hleI5)|(refine i_loadN (d:=31) hm (hp:=hpf5) (k:=?_))|(refine m_readC (d:=33) hm (hc:=hfind I5 (hleI4.trans hleI5)) (k:=?_); clear hm; intro _ hm)|(refine m_varS (d:=9) hm (k:=?_); clear hm; intro b9 _ hm)|refine m_load1 hm (k:=?_)|refine op_move (k:=?_)|refine op_assign (k:=?_)|refine op_pick_true (k:=?_)|refine op_lss (k:=?_)|refine op_gtr (k:=?_)|refine op_eql (k:=?_)|refine op_len_slice (k:=?_)|refine op_fieldAddr (k:=?_)|refine wl_skip (k:=?_)|refine wl_nil ?_|refine at_then_normal ?_|refine at_then_ret ?_|refine wc_seq ?_|refine wc_region ?_|refine wc_skip ?_|refine wc_ret ?_|refine at_ret1 (h:=?_)|refine wc_cond_true (ht:=?_)|refine wc_cond_false (hf:=?_))
    all_goals try (exfalso; first | omega | contradiction)
    exact ⟨I5, [], ⟨rfl, rfl⟩, hm.left (H := [])⟩
  | some j =>
  rw [show Sp.findV its 2 nm = (j : Int) by rw [Sp.findV, hf]] at hfind
  obtain ⟨hjl, _, _, _, hmem⟩ := Sp.findIt_lt hf
  obtain ⟨ci, hci, hat, _⟩ := q3.get (Sp.itNo_get hjl)
  have hsm := (hA.fl _ hmem).small
  have r3' := r3 j hb0 hf
  have r4' := r4 j hb0 hf
  clear r1 r2 r3 r4
  generalize Sp.itNo its j = it at hat hsm r3' r4'
  obtain ⟨pa, pc, sa9, sc9, ba, bc9, da9, dc9, xb, rfl, hpar, _, _, _, _⟩ := hat
  have hsp := hsm.params
  by_cases hpl : it.params.length ≠ args.length
  · rw [r3' hpl] at hR
    repeat' (first|(refine i_loadN (d:=20) hm (hp:=hpf) (k:=?_))|(refine m_call (d:=23) hm (hp:=pm0) (hc:=hR) (k:=?_); clear hm; rintro _ I4 _ _ ⟨rfl, ea, ep, rfl, hre⟩ hleI4 hm; try simp only [setn] at hm; have hpf4 := hpf.le hleI4)|(refine i_loadN (d:=24) hm (hp:=hpf4) (k:=?_))|(refine m_call (d:=25) hm (hp:=pm0) (hc:=hD I4 hleI4) (k:=?_); clear hm; rintro _ I5 _ _ ⟨rfl, da, dp, rfl, hrd⟩ hleI5 hm; try simp only [setn] at hm; have hpf5 := hpf4.le hleI5; have hri5 := (hri.le hleI4).le hleI5)|(refine i_loadN (d:=31) hm (hp:=hpf5) (k:=?_))|(refine m_readC (d:=33) hm (hc:=hfind I5 (hleI4.trans hleI5)) (k:=?_); clear hm; intro _ hm)|(refine i_indexAddr (d:=40) (hr:=hri5) (k:=?_); intro bt ot hpt; rw [show ((j : Int).toNat * 10) = j * 10 from rfl, hci] at hpt)|(refine m_varS (d:=9) hm (k:=?_); clear hm; intro b9 _ hm)|refine m_load1 hm (k:=?_)|refine i_load1 hm (k:=?_)|refine op_move (k:=?_)|refine op_assign (k:=?_)|refine op_pick_false (k:=?_)|refine op_lss (k:=?_)|refine op_gtr (k:=?_)|refine op_eql (k:=?_)|refine op_neq (k:=?_)|refine op_len_slice (k:=?_)|refine op_fieldAddr (k:=?_)|refine wl_nil ?_|refine at_then_normal ?_|refine at_then_ret ?_|refine wc_seq ?_|refine wc_region ?_|refine wc_skip ?_|refine wc_ret ?_|refine at_ret1 (h:=?_)|refine wc_cond_false (hf:=?_)|(refine wc_cond_dec (ht:=fun _ => ?_) (hf:=fun _ => ?_)<;> (try first | contradiction | (exfalso; omega))))
    all_goals try (exfalso; first | omega | contradiction)
    all_goals exact ⟨I5, [], ⟨rfl, rfl⟩, hm.left (H := [])⟩
  · have hpl0 : it.params.length = args.length := by omega
    have h3 := r4' hpl0
    generalize r.err = er at hR h3
    rcases h3 with rfl | rfl | rfl
    all_goals
      repeat' (first|(refine i_loadN (d:=20) hm (hp:=hpf) (k:=?_))|(refine m_call (d:=23) hm (hp:=pm0) (hc:=hR) (k:=?_); clear hm; rintro _ I4 _ _ ⟨rfl, ea, ep, rfl, hre⟩ hleI4 hm; try simp only [setn] at hm; have hpf4 := hpf.le hleI4)|(refine i_loadN (d:=24) hm (hp:=hpf4) (k:=?_))|(refine m_call (d:=25) hm (hp:=pm0) (hc:=hD I4 hleI4) (k:=?_); clear hm; rintro _ I5 _ _ ⟨rfl, da, dp, rfl, hrd⟩ hleI5 hm; try simp only [setn] at hm; have hpf5 := hpf4.le hleI5; have hri5 := (hri.le hleI4).le hleI5)|(refine i_loadN (d:=31) hm (hp:=hpf5) (k:=?_))|(refine m_readC (d:=33) hm (hc:=hfind I5 (hleI4.trans hleI5)) (k:=?_); clear hm; intro _ hm)|(refine i_indexAddr (d:=40) (hr:=hri5) (k:=?_); intro bt ot hpt; rw [show ((j : Int).toNat * 10) = j * 10 from rfl, hci] at hpt)|(refine m_varS (d:=9) hm (k:=?_); clear hm; intro b9 _ hm)|refine m_load1 hm (k:=?_)|refine i_load1 hm (k:=?_)|refine op_move (k:=?_)|refine op_assign (k:=?_)|refine op_pick_true (k:=?_)|refine op_pick_false (k:=?_)|refine op_lss (k:=?_)|refine op_gtr (k:=?_)|refine op_eql (k:=?_)|refine op_neq (k:=?_)|refine op_len_slice (k:=?_)|refine op_fieldAddr (k:=?_)|refine wl_skip (k:=?_)|refine wl_nil ?_|refine at_then_normal ?_|refine wc_seq ?_|refine wc_region ?_|refine wc_skip ?_|refine wc_ret ?_|refine at_ret1 (h:=?_)|refine wc_cond_false (hf:=?_)|(refine wc_cond_dec (ht:=fun _ => ?_) (hf:=fun _ => ?_)<;> (try first | contradiction | (exfalso; omega))))
    all_goals try (exfalso; first | omega | contradiction)
    all_goals exact ⟨I5, [], ⟨rfl, rfl⟩, hm.left (H := [])⟩
end Go.Proofs.YthmdffgiockcbaaGreatDoor
end
section
namespace Go.Proofs.YthmdffgiockcbaaGreatDoor
open Go.ChangeShapes Go.WideShapes Go.ChangeAt Go.RowKit
open Go.Fw (Kept Cal str Ret)
open Go.ChangeMaps (open_string shut_string)

theorem ownKnobNone : ownKnob Tryz.prog.godebug = none := by kernel_rfl

theorem kept_but {W W' : World} (h : Kept [] W W') (may : MemPlace → Prop) : W.keptBut W' may := by
  refine ⟨h.os, h.output, fun i hi => ?_⟩
  rw [h.blk i hi (by simp)]
  rcases hh : W.heap[i]? with _ | o
  · trivial
  · cases o
    case cells c t fr => exact ⟨rfl, rfl, rfl, fun _ _ => rfl⟩
    case map es clock => exact Or.inr ⟨rfl, rfl⟩
    all_goals rfl

theorem bulk_one {H : Type} (d : DataW H) : 1 ≤ Rows.uptoBulk d := by
  cases d with
  | lit l => cases l <;> simp [Rows.uptoBulk]
  | nil => simp [Rows.uptoBulk]
  | ptr d => simp [Rows.uptoBulk]
  | slice elems spare => simp [Rows.uptoBulk]
  | agg parts => simp [Rows.uptoBulk]
  | iface t d => simp [Rows.uptoBulk]
  | map entries => simp [Rows.uptoBulk]
  | held h => simp [Rows.uptoBulk]

theorem bulk_part {H : Type} {d : DataW H} {l : List (DataW H)} (h : d ∈ l) : Rows.uptoBulk d ≤ Rows.uptoBulkAll l := by
  induction l with
  | nil => cases h
  | cons x r ih =>
    simp only [Rows.uptoBulkAll]
    cases List.mem_cons.1 h with
    | inl e => subst e; omega
    | inr e => have := ih e; omega

theorem bulk_str {H : Type} {l : List (DataW H)} (hk : Rows.uptoSmall H l = true) {s : List UInt8} (h : DataW.lit (.string s) ∈ l) : s.length ≤ 1048576 := by
  have h1 : Rows.uptoBulkAll l ≤ 1048576 := by simpa [Rows.uptoSmall] using hk
  have h2 := bulk_part h
  simp only [Rows.uptoBulk] at h2
  omega

end Go.Proofs.YthmdffgiockcbaaGreatDoor
end
section
namespace Go.Proofs.YthmdffgiockcbaaGreatDoor
open Go.Fw
open Go.RowKit
theorem star_es : "*" ++ "errors.errorString" = "*errors.errorString" := by decide
theorem row_es (u : TypeId) (h : Tryz.prog.typeName? 3 u = some "*errors.errorString") : u = 289 :=
  typeName_ptr_named (nm := "errors.errorString") (by rw [star_es]; kernel_rfl) (by kernel_rfl) (by decide) u (by rw [star_es]; exact h)
theorem conv_of {l : List (String × DataW Unit)} {W : World} (h : laidMetH Tryz.prog l W) (hp : (l.all fun x => x.2.handleName?.isNone) = true)
    (he : l.filter (fun x => x.1 == "strconv.ErrRange") = [("strconv.ErrRange", Rows.laid_strconv_ErrRange)]) : Conv (immOf W) := by
  rw [MakeChecks.laidMetH_plain _ _ _ hp] at h
  have h1 := h.filter (fun x => x.1 == "strconv.ErrRange")
  rw [he] at h1
  obtain ⟨a, s, hv, _⟩ := laid_sentinel (g := 5) h1 (by kernel_rfl) (ti := 139) (by kernel_rfl) Tryz.underlying139 row_es Tryz.underlying289 Tryz.underlying291 rfl rfl Tryz.underlying9 (by kernel_rfl) (by kernel_rfl)
  have hg : Tryz.prog.globalNamed "strconv.ErrRange" = some 5 := by kernel_rfl
  simp only [World.var?, hg, Option.bind_some] at hv
  split at hv
  · rename_i cs ty fr hw
    obtain rfl := Option.some.inj hv
    exact ⟨_, _, _, _, _, hw, rfl⟩
  · cases hv
theorem run_kept {f : FuncId} {args : Array Value} {v : Value} {W : World} (h : CalM Tryz.prog f args (immOf W) [] (fun u _ H' => u = v ∧ H' = [])) : Cal Tryz.prog f args W (fun u W' => u = v ∧ Kept [] W W') :=
  (h.run W (Mem.start (immOf_inv W))).mono (fun _ _ ⟨_, _, ⟨h1, _⟩, h2⟩ => ⟨h1, h2.kept⟩)
end Go.Proofs.YthmdffgiockcbaaGreatDoor
end
