/- Own work: texts RunD, RunE, PpA, one behind the other. -/
import Derived.Test.YthmdffgiockcbaaGreatDoorRb16
section
namespace Go.Proofs.YthmdffgiockcbaaGreatDoor
open Go.Fw
section
variable {I0 : Imm} {its : List Sp.Itm} {C : Sp.CallR} {br bm bf deep : Nat}
set_option maxHeartbeats 64000000 in
theorem r_stmt (hW : CallW I0 its C bm bf deep) (hC : Sp.CallOk C) (x : Sp.Stm) (hsm : x.small) (hok : x.e.all (Sp.okE its)) (hT : RBlkOk I0 C br bm bf deep x.thn) (hL : RBlkOk I0 C br bm bf deep x.els) : RStmOk I0 C br bm bf deep x := by
  by_cases k4 : x.kind = 4
  · exact r_while hW hC x hsm hok hT k4
  intro I b o tc cs s sa sp va vp hle0 hst hev hsc hp hx
  refine CalM.of fun w E hm => enter (N := 135) Tryz.func116 rfl [(0, ptr br), (1, .pointer (some ⟨b, o, none⟩))] args2 rfl ?_
  obtain ⟨s1, s2, s3, s4, s5⟩ := Sp.small_parts hsm
  have hcn := Sp.Stm.cnt_eq x
  obtain ⟨ea, ec, ex, a1', c1, xs1, a2', c2, xs2, rfl, hr3, hx3, hr4, hx4, hr5, hx5⟩ := hx.out
  have hS := fun (J : Imm) => r_step (bm := bm) (bf := bf) (m := s.m) (ea := va) (ep := vp) (deep := deep) hst J
  have hstt := Sp.step_to hst
  have hse := Sp.step_ev s.m
  have hgg := @Sp.step_go s.m
  have heq := Sp.stmR_eq C x s
  rw [if_neg k4] at heq
  obtain ⟨fin, hfin⟩ : ∃ fin, fin = Sp.stmR C x s := ⟨_, rfl⟩
  rw [← hfin] at heq ⊢
  clear hfin
  obtain ⟨sc, back, m⟩ := s
  dsimp only at hm hst hev hsc hS hstt hse hgg heq
  generalize hm1 : m.step = m1 at hS hstt hse heq hgg
  have hevr : evRow m1 va vp = evRow m va vp := by unfold evRow; rw [hse]
  have hev2 : m1.ev.length ≤ m1.steps := by have := hstt.ev; omega
  cases hgo : m.go with
  | false =>
    rw [hgo, if_pos rfl] at heq
    rw [hgo] at hS
    subst heq
    repeat' (first|(refine m_call (d:=43) hm (hp:=pm1_2) (hc:=hS _) (k:=?_); clear hm; rintro _ I2 _ _ ⟨rfl, rfl⟩ hleI2 hm; try simp only [setn] at hm; rw [← hevr] at hm)|refine m_load1 hm (k:=?_)|refine i_load1 hm (k:=?_)|refine op_move (k:=?_)|refine op_eql (k:=?_)|refine op_not (k:=?_)|refine op_nilCheck (k:=?_)|refine op_fieldAddr (k:=?_)|refine wl_nil ?_|refine at_then_normal ?_|refine at_then_ret ?_|refine wc_seq ?_|refine wc_region ?_|refine wc_skip ?_|refine wc_ret ?_|refine at_ret0 (h:=?_)|refine wc_cond_true (ht:=?_)|(refine wc_cond_dec (ht:=fun _ => ?_) (hf:=fun _ => ?_)<;> (try first | contradiction | (exfalso; omega))))
    all_goals try (exfalso; first | omega | contradiction)
    exact ⟨I2, _, ⟨rfl, sa, sp, va, vp, rfl⟩, hm.perm pm2_1⟩
  | true =>
  rw [hgo, if_neg (by simp)] at heq
  rw [hgo] at hS
  obtain ⟨hg1, hg2, hg3⟩ := hgg hgo
  have hE := fun (J : Imm) (mm : Le I J) (b o tc : Nat) (hpt : PtrI J b o tc (exCells x.e ea ec)) => r_expr (br := br) hW hC _ x.e (Nat.le_refl _) s1 hok J b o tc ea ec ex sc back m1 sa sp va vp (hle0.trans mm) hstt.top hev2 (by omega) hpt (hr3.le mm) (ExsAt.le mm _ _ hx3)
  have hte := Sp.exR_to hC sc x.e m1 hstt.top
  generalize Sp.exR C sc x.e m1 = r at hE heq hte
  have hte2 := hte.ev
  have hst4 := hte.top
  have hst3 : m1.steps = m.steps + 1 := by rw [hg1]
  have hev3 : r.2.ev.length ≤ r.2.steps := by omega
  have hpe := fun (J : Imm) (mm : Le I J) => stE_subR (hp.le mm)
  by_cases he : r.2.err ≠ 0
  · rw [if_pos he] at heq
    subst heq
    repeat' (first|(refine m_call (d:=43) hm (hp:=pm1_2) (hc:=hS _) (k:=?_); clear hm; rintro _ I2 _ _ ⟨rfl, rfl⟩ hleI2 hm; try simp only [setn] at hm; rw [← hevr] at hm; replace hm := hm.perm pm2_1; have hp2 := hp.le hleI2)|(refine m_call (d:=49) hm (hp:=pmR4) (hc:=hE I2 hleI2 _ _ _ (hpe _ hleI2)) (k:=?_); clear hm; rintro _ I3 _ _ ⟨rfl, va3, vp3, rfl⟩ hleI3 hm; try simp only [setn] at hm)|refine m_load1 hm (k:=?_)|refine i_load1 hm (k:=?_)|refine op_move (k:=?_)|refine op_assign (k:=?_)|refine op_eql (k:=?_)|refine op_neq (k:=?_)|refine op_not (k:=?_)|refine op_nilCheck (k:=?_)|refine op_fieldAddr (k:=?_)|refine wl_nil ?_|refine at_then_normal ?_|refine at_then_ret ?_|refine wc_seq ?_|refine wc_region ?_|refine wc_skip ?_|refine wc_ret ?_|refine at_ret0 (h:=?_)|refine wc_cond_false (hf:=?_)|(refine wc_cond_dec (ht:=fun _ => ?_) (hf:=fun _ => ?_)<;> (try first | contradiction | (exfalso; omega))))
    all_goals try (exfalso; first | omega | contradiction)
    exact ⟨I3, _, ⟨rfl, sa, sp, va3, vp3, rfl⟩, hm⟩
  rw [if_neg he] at heq
  have he0 : r.2.err = 0 := by omega
  repeat' (first|(refine m_call (d:=43) hm (hp:=pm1_2) (hc:=hS _) (k:=?_); clear hm; rintro _ I2 _ _ ⟨rfl, rfl⟩ hleI2 hm; try simp only [setn] at hm; rw [← hevr] at hm; replace hm := hm.perm pm2_1; have hp2 := hp.le hleI2)|(refine m_call (d:=49) hm (hp:=pmR4) (hc:=hE I2 hleI2 _ _ _ (hpe _ hleI2)) (k:=?_); clear hm; rintro _ I3 _ _ ⟨rfl, va3, vp3, rfl⟩ hleI3 hm; try simp only [setn] at hm; have hp3 := hp2.le hleI3)|refine wc_hold 6 ?_|refine m_load1 hm (k:=?_)|refine i_load1 hm (k:=?_)|refine op_move (k:=?_)|refine op_assign (k:=?_)|refine op_eql (k:=?_)|refine op_neq (k:=?_)|refine op_not (k:=?_)|refine op_nilCheck (k:=?_)|refine op_fieldAddr (k:=?_)|refine wl_nil ?_|refine at_then_normal ?_|refine wc_seq ?_|refine wc_region ?_|refine wc_skip ?_|refine wc_cond_false (hf:=?_)|(refine wc_cond_dec (ht:=fun _ => ?_) (hf:=fun _ => ?_)<;> (try first | contradiction | (exfalso; omega))))
  all_goals try (exfalso; first | omega | contradiction)
  refine ⟨?_⟩
  have hle3 := hleI2.trans hleI3
  by_cases k1 : x.kind = 1
  · rw [if_pos k1] at heq
    subst heq
    repeat' (first|(refine wc_semi_mem (id:=8) (hm.perm pm1_1) 11 13 (h:=?_); clear hm; intro wd hR hm)|refine mw_load1 hR (k:=?_)|refine iw_load1 hR (k:=?_)|(refine mt_push (d:=76) hm (k:=?_); clear hm; intro a76 cp76 _ _ hm; replace hm := hR.back hm; clear hR; try simp only [setn] at hm)|refine i_load1 hm (k:=?_)|(refine m_store1 hm (k:=?_); clear hm; intro _ hm; try simp only [setn] at hm)|refine op_move (k:=?_)|refine op_assign (k:=?_)|refine op_eql (k:=?_)|refine op_nilCheck (k:=?_)|refine op_fieldAddr (k:=?_)|refine wl_nil ?_|refine at_then_normal ?_|refine at_block_normal ?_|refine wc_seq ?_|refine wc_region ?_|refine wc_block ?_|refine at_end0 (h:=?_)|(refine wc_cond_dec (ht:=fun _ => ?_) (hf:=fun _ => ?_)<;> (try first | contradiction | (exfalso; omega)))|refine v_move (k:=?_)|refine v_nilCheck (k:=?_)|refine v_fieldAddr (k:=?_)|refine v_struct (k:=?_)|refine wv_nil ?_)
    all_goals try (exfalso; first | omega | contradiction)
    refine ⟨I3, _, ⟨rfl, a76, cp76, va3, vp3, ?_⟩, hm.swap⟩
    dsimp only [RSt, fCell, scRow]
    rw [List.flatMap_append, List.length_append]; rfl
  rw [if_neg k1] at heq
  by_cases k2 : x.kind = 2
  · rw [if_pos k2] at heq
    have hG := fun (J : Imm) => r_get (br := br) (bm := bm) (sc := sc) (sa := sa) (sp := sp) (back := back) x.name J (by omega)
    rw [Sp.setR] at heq
    repeat' (first|(refine m_call (d:=86) hm (hp:=pm2_0) (hc:=hG _) (k:=?_); clear hm; rintro _ I4 _ _ (⟨i, p, b2, hgi, hfl, rfl, rfl, rfl⟩ | ⟨hfl, bl, rfl, rfl⟩) hleI4 hm <;> try simp only [setn] at hm)|(refine mi_storeRow (i := 1) hm (by rfl) (by rfl) (by rfl) (by rfl) gt1 (by rfl) (by rfl) (by rw [encCl_len]; have := (List.getElem?_eq_some_iff.1 hgi).1; omega) ?_; clear hm; intro _ hm; try simp only [setn] at hm)|refine i_load1 hm (k:=?_)|(refine m_store1 hm (k:=?_); clear hm; intro _ hm; try simp only [setn] at hm)|refine op_move (k:=?_)|refine op_assign (k:=?_)|refine op_eql (k:=?_)|refine op_nilCheck (k:=?_)|refine op_fieldAddr (k:=?_)|refine wl_nil ?_|refine at_then_normal ?_|refine at_block_normal ?_|refine wc_seq ?_|refine wc_region ?_|refine wc_block ?_|refine at_end0 (h:=?_)|(refine wc_cond_dec (ht:=fun _ => ?_) (hf:=fun _ => ?_)<;> (try first | contradiction | (exfalso; omega))))
    all_goals try (exfalso; first | omega | contradiction)
    · rw [hfl] at heq
      have hd : sc.getD i ⟨[], 0⟩ = p := by rw [List.getD_eq_getElem?_getD, hgi]; rfl
      dsimp only at heq
      rw [hd] at heq
      subst heq
      refine ⟨I4, _, ⟨rfl, some ⟨b2, 0, none⟩, sp, va3, vp3, ?_⟩, hm⟩
      dsimp only [RSt, fCell, scRow]
      rw [← encCl_set r.1 hgi, List.length_set]
    · rw [hfl] at heq
      subst heq
      exact ⟨I4, _, ⟨rfl, sa, sp, va3, vp3, rfl⟩, hm.tl⟩
  rw [if_neg k2] at heq
  by_cases k5 : x.kind = 5
  · rw [if_pos k5] at heq
    subst heq
    repeat' (first|(refine wc_semi_mem (id:=12) (hm.perm pm1_3) 17 19 (h:=?_); clear hm; intro wd hR hm)|refine mw_load1 hR (k:=?_)|refine iw_load1 hR (k:=?_)|(refine mt_push (d:=110) hm (k:=?_); clear hm; intro a110 cp110 _ _ hm; replace hm := hR.back hm; clear hR; try simp only [setn] at hm)|refine i_load1 hm (k:=?_)|(refine m_store1 hm (k:=?_); clear hm; intro _ hm; try simp only [setn] at hm)|refine op_move (k:=?_)|refine op_assign (k:=?_)|refine op_eql (k:=?_)|refine op_nilCheck (k:=?_)|refine op_fieldAddr (k:=?_)|refine wl_nil ?_|refine at_then_normal ?_|refine at_block_normal ?_|refine wc_seq ?_|refine wc_region ?_|refine wc_block ?_|refine at_end0 (h:=?_)|(refine wc_cond_dec (ht:=fun _ => ?_) (hf:=fun _ => ?_)<;> (try first | contradiction | (exfalso; omega)))|refine v_move (k:=?_)|refine v_nilCheck (k:=?_)|refine v_fieldAddr (k:=?_)|refine v_struct (k:=?_)|refine wv_nil ?_)
    all_goals try (exfalso; first | omega | contradiction)
    refine ⟨I3, _, ⟨rfl, sa, sp, a110, cp110, ?_⟩, hm.perm pm1_3.symm⟩
    dsimp only [RSt, mCell, evRow]
    rw [List.flatMap_append, List.length_append]; rfl
  rw [if_neg k5] at heq
  by_cases k6 : x.kind = 6
  · rw [if_pos k6] at heq
    subst heq
    repeat' (first|refine i_load1 hm (k:=?_)|(refine m_store1 hm (k:=?_); clear hm; intro _ hm; try simp only [setn] at hm)|refine op_move (k:=?_)|refine op_assign (k:=?_)|refine op_eql (k:=?_)|refine op_nilCheck (k:=?_)|refine op_fieldAddr (k:=?_)|refine wl_nil ?_|refine at_then_normal ?_|refine at_block_normal ?_|refine wc_seq ?_|refine wc_region ?_|refine wc_block ?_|refine at_end0 (h:=?_)|(refine wc_cond_dec (ht:=fun _ => ?_) (hf:=fun _ => ?_)<;> (try first | contradiction | (exfalso; omega))))
    all_goals try (exfalso; first | omega | contradiction)
    exact ⟨I3, _, ⟨rfl, sa, sp, va3, vp3, rfl⟩, hm⟩
  rw [if_neg k6] at heq
  by_cases k3 : x.kind = 3
  · rw [if_pos k3] at heq
    by_cases hn : r.1 ≠ 0
    · rw [if_pos hn] at heq
      have hB := hT I3 a1' c1 xs1 ⟨sc, back, r.2⟩ sa sp va3 vp3 (hle0.trans hle3) hte.top hev3 (by dsimp only; omega) (hr4.le hle3) (StsAt.le hle3 _ _ hx4)
      dsimp only at hB
      rw [← heq] at hB
      repeat' (first|(refine m_call (d:=128) hm (hp:=pmR4) (hc:=hB) (k:=?_); clear hm; rintro _ I4 _ _ ⟨rfl, sa4, sp4, va4, vp4, rfl⟩ hleI4 hm; try simp only [setn] at hm)|refine i_load1 hm (k:=?_)|refine op_move (k:=?_)|refine op_assign (k:=?_)|refine op_eql (k:=?_)|refine op_neq (k:=?_)|refine op_nilCheck (k:=?_)|refine op_fieldAddr (k:=?_)|refine wl_nil ?_|refine at_then_normal ?_|refine at_block_normal ?_|refine wc_seq ?_|refine wc_region ?_|refine wc_block ?_|refine at_end0 (h:=?_)|(refine wc_cond_dec (ht:=fun _ => ?_) (hf:=fun _ => ?_)<;> (try first | contradiction | (exfalso; omega))))
      all_goals try (exfalso; first | omega | contradiction)
      exact ⟨I4, _, ⟨rfl, sa4, sp4, va4, vp4, rfl⟩, hm⟩
    · rw [if_neg hn] at heq
      have hn0 : r.1 = 0 := by omega
      have hB := hL I3 a2' c2 xs2 ⟨sc, back, r.2⟩ sa sp va3 vp3 (hle0.trans hle3) hte.top hev3 (by dsimp only; omega) (hr5.le hle3) (StsAt.le hle3 _ _ hx5)
      dsimp only at hB
      rw [← heq] at hB
      repeat' (first|(refine m_call (d:=134) hm (hp:=pmR4) (hc:=hB) (k:=?_); clear hm; rintro _ I4 _ _ ⟨rfl, sa4, sp4, va4, vp4, rfl⟩ hleI4 hm; try simp only [setn] at hm)|refine i_load1 hm (k:=?_)|refine op_move (k:=?_)|refine op_assign (k:=?_)|refine op_eql (k:=?_)|refine op_neq (k:=?_)|refine op_nilCheck (k:=?_)|refine op_fieldAddr (k:=?_)|refine wl_nil ?_|refine at_then_normal ?_|refine at_block_normal ?_|refine wc_seq ?_|refine wc_region ?_|refine wc_block ?_|refine at_end0 (h:=?_)|(refine wc_cond_dec (ht:=fun _ => ?_) (hf:=fun _ => ?_)<;> (try first | contradiction | (exfalso; omega))))
      all_goals try (exfalso; first | omega | contradiction)
      exact ⟨I4, _, ⟨rfl, sa4, sp4, va4, vp4, rfl⟩, hm⟩
  rw [if_neg k3] at heq
  subst heq
  repeat' (first|refine i_load1 hm (k:=?_)|refine op_move (k:=?_)|refine op_assign (k:=?_)|refine op_eql (k:=?_)|refine op_nilCheck (k:=?_)|refine op_fieldAddr (k:=?_)|refine wl_nil ?_|refine at_then_normal ?_|refine at_block_normal ?_|refine wc_seq ?_|refine wc_region ?_|refine wc_block ?_|refine wc_skip ?_|refine at_end0 (h:=?_)|(refine wc_cond_dec (ht:=fun _ => ?_) (hf:=fun _ => ?_)<;> (try first | contradiction | (exfalso; omega))))
  all_goals try (exfalso; first | omega | contradiction)
  exact ⟨I3, _, ⟨rfl, sa, sp, va3, vp3, rfl⟩, hm⟩
theorem r_blk (hW : CallW I0 its C bm bf deep) (hC : Sp.CallOk C) : ∀ (n : Nat) (l : List Sp.Stm), SizeOf.sizeOf l ≤ n → l.length ≤ 64 → Sp.stmsSmall l → Sp.stmsAll (Sp.okE its) Sp.anyS l → RBlkOk I0 C br bm bf deep l := by
  intro n
  induction n with
  | zero => intro l h; cases l <;> simp at h
  | succ n ih =>
  intro l hsz hll hsm hal
  refine r_block hC l hll (fun y hy => ?_)
  obtain ⟨j, hj, rfl⟩ := List.getElem_of_mem hy
  have hg := List.getElem?_eq_getElem hj
  have h1 := Sp.stmsSmall_get hsm hg
  have h2 := Sp.Stm.all_node (Sp.stmsAll_get hal hg)
  have h3 := Sp.sizeL_mem (List.getElem_mem hj)
  generalize l[j] = y at h1 h2 h3
  obtain ⟨s1, s2, s3, s4, s5⟩ := Sp.small_parts h1
  obtain ⟨z1, z2⟩ := Sp.size_thn (s := y)
  exact r_stmt hW hC y h1 h2.2.1 (ih y.thn (by omega) s2 s3 h2.2.2.1) (ih y.els (by omega) s4 s5 h2.2.2.2)
end
end Go.Proofs.YthmdffgiockcbaaGreatDoor
end
section
namespace Go.Sp
theorem parsR_step {l : List Par} {k : Nat} {p : Par} {args : List Int} {n : Int} (h : l[k]? = some p) (ha : args[k]? = some n) : parsR (l.take (k + 1)) args = parsR (l.take k) args ++ [⟨p.name, n⟩] := by
  induction l generalizing k args with
  | nil => simp at h
  | cons a l ih =>
    cases args with
    | nil => simp at ha
    | cons b args =>
      cases k with
      | zero =>
        simp only [List.getElem?_cons_zero, Option.some.injEq] at h ha
        subst h; subst ha
        simp [parsR]
      | succ k =>
        rw [List.getElem?_cons_succ] at h ha
        have := ih h ha
        simp only [parsR, List.take_succ_cons, List.zipWith_cons_cons, List.cons_append] at this ⊢
        rw [this]
theorem parsR_len {l : List Par} {k : Nat} {args : List Int} (hk : k ≤ l.length) (ha : l.length = args.length) : (parsR (l.take k) args).length = k := by
  rw [parsR, List.length_zipWith, List.length_take]; omega
end Go.Sp
namespace Go.Proofs.YthmdffgiockcbaaGreatDoor
open Go.Fw
theorem intV_flat (l : List Int) : intV l = l.flatMap (fun n => [.int .i64 n]) := by
  induction l with
  | nil => rfl
  | cons a l ih =>
    rw [List.flatMap_cons, ← ih]; rfl
structure RFile (I : Imm) (its : List Sp.Itm) (bf : Nat) (a : Option Addr) (cp : Nat) (xs : List Value) : Prop where
  file : PtrI I bf 0 25 [.slice a its.length cp]
  fe : FE I its a cp xs
  ok : ∀ it ∈ its, it.small ∧ Sp.stmsCnt it.body ≤ 400000000 ∧ (it.kind = 2 → Sp.stmsAll (Sp.okE its) Sp.anyS it.body)
structure RcX where
  k : Nat
  sa : Option Addr
  sp : Nat
section
variable {I0 : Imm} {its : List Sp.Itm} {bm bf : Nat} {a : Option Addr} {cp : Nat} {xs : List Value}
set_option maxHeartbeats 64000000 in
theorem r_calls (hF : RFile I0 its bf a cp xs) : ∀ d, d ≤ 40 → CallW I0 its (Sp.callR its d) bm bf (40 - d) := by
  intro d
  induction d with
  | zero =>
    intro _ J nm args m va vp aa ac hle hfd hra hst hev
    refine CalM.of fun w E hm => enter (N := 94) Tryz.func58 rfl [(0, ptr bm), (1, str nm), (2, .slice aa args.length ac)] args3 rfl ?_
    rw [Sp.callR]
    by_cases he : m.err ≠ 0
    · rw [if_pos he]
      repeat' (first|refine m_load1 hm (k:=?_)|refine op_move (k:=?_)|refine op_assign (k:=?_)|refine op_neq (k:=?_)|refine op_nilCheck (k:=?_)|refine op_fieldAddr (k:=?_)|refine wl_nil ?_|refine at_then_normal ?_|refine at_then_ret ?_|refine wc_seq ?_|refine wc_region ?_|refine wc_ret ?_|refine at_ret1 (h:=?_)|(refine wc_cond_dec (ht:=fun _ => ?_) (hf:=fun _ => ?_)<;> (try first | contradiction | (exfalso; omega))))
      all_goals try (exfalso; first | omega | contradiction)
      exact ⟨J, _, ⟨rfl, va, vp, rfl⟩, hm⟩
    · rw [if_neg he]
      have he0 : m.err = 0 := by omega
      repeat' (first|refine m_load1 hm (k:=?_)|(refine m_store1 hm (k:=?_); clear hm; intro _ hm; try simp only [setn] at hm)|refine op_move (k:=?_)|refine op_assign (k:=?_)|refine op_eql (k:=?_)|refine op_neq (k:=?_)|refine op_nilCheck (k:=?_)|refine op_fieldAddr (k:=?_)|refine wl_nil ?_|refine at_then_normal ?_|refine at_then_ret ?_|refine wc_seq ?_|refine wc_region ?_|refine wc_skip ?_|refine wc_ret ?_|refine at_ret1 (h:=?_)|refine wc_cond_true (ht:=?_)|(refine wc_cond_dec (ht:=fun _ => ?_) (hf:=fun _ => ?_)<;> (try first | contradiction | (exfalso; omega))))
      all_goals try (exfalso; first | omega | contradiction)
      exact ⟨J, _, ⟨rfl, va, vp, rfl⟩, hm⟩
  | succ d ihd =>
    intro hd J nm args m va vp aa ac hle hfd hra hst hev
    have ih := ihd (by omega)
    refine CalM.of fun w E hm => enter (N := 94) Tryz.func58 rfl [(0, ptr bm), (1, str nm), (2, .slice aa args.length ac)] args3 rfl ?_
    have heq : ∃ fin, fin = Sp.callR its (d + 1) nm args m := ⟨_, rfl⟩
    obtain ⟨fin, heq⟩ := heq
    rw [← heq]
    rw [Sp.callR] at heq
    by_cases he : m.err ≠ 0
    · rw [if_pos he] at heq
      subst heq
      repeat' (first|refine m_load1 hm (k:=?_)|refine op_move (k:=?_)|refine op_assign (k:=?_)|refine op_neq (k:=?_)|refine op_nilCheck (k:=?_)|refine op_fieldAddr (k:=?_)|refine wl_nil ?_|refine at_then_normal ?_|refine at_then_ret ?_|refine wc_seq ?_|refine wc_region ?_|refine wc_ret ?_|refine at_ret1 (h:=?_)|(refine wc_cond_dec (ht:=fun _ => ?_) (hf:=fun _ => ?_)<;> (try first | contradiction | (exfalso; omega))))
      all_goals try (exfalso; first | omega | contradiction)
      exact ⟨J, _, ⟨rfl, va, vp, rfl⟩, hm⟩
    rw [if_neg he] at heq
    have he0 : m.err = 0 := by omega
    obtain ⟨j, hf, hpl⟩ := hfd
    rw [hf] at heq
    dsimp only at heq
    obtain ⟨hjl, hjk, _, _, hmem⟩ := Sp.findIt_lt hf
    have hfind := (n_find 2 nm its J a cp xs (hF.fe.le hle)).read
    rw [show Sp.findV its 2 nm = (j : Int) by rw [Sp.findV, hf]] at hfind
    have hfile := hF.file.le hle
    have hri := (hF.fe.le hle).row
    have hfew := hF.fe.few
    obtain ⟨ci, hci, hat, _⟩ := (hF.fe.le hle).get (Sp.itNo_get hjl)
    obtain ⟨hsm, hcnt, hokk⟩ := hF.ok _ hmem
    have hok := hokk (by omega)
    have hto := Sp.blkR_to (Sp.callR_ok its d) (Sp.itNo its j).body ⟨Sp.parsR (Sp.itNo its j).params args, 0, m⟩ hst
    generalize Sp.itNo its j = it at heq hpl hat hsm hcnt hok hto
    obtain ⟨pa, pc, sa9, sc9, ba, bc9, da9, dc9, xb, rfl, hpar, _, hrb, hbs, _⟩ := hat
    have hsp := hsm.params
    have hsb := hsm.body
    have hBk := fun (br : Nat) => r_blk (br := br) ih (Sp.callR_ok its d) _ it.body (Nat.le_refl _) (by omega) hsm.stms hok
    have hra2 := hra
    rw [intV_flat] at hra2
    repeat' (first|(refine wc_semi_memL (id:=6) (hm.perm pm0) [0,1,2,3,4,5,6,7,8,9,10,11,12,13] [14,15] 16 (h:=?_); clear hm; intro wd hR hm)|(refine iw_load1 (j:=0) (d:=30) hR (hp:=hfile) (k:=?_))|(refine iw_loadN (d:=36) hR (hp:=hfile) (k:=?_))|(refine mt_readR (d:=38) hR hm (hc:=hfind) (k:=?_); clear hm; intro _ hm)|(refine it_indexAddr (d := 39) hm.kept (by rfl) (by rfl) (by rfl) (by rfl) hri (by omega) (by omega) ?_; intro bt ot hpt; rw [show ((j : Int).toNat * 10) = j * 10 from rfl, hci] at hpt)|refine wc_hold 8 ?_|refine mw_load1 hR (k:=?_)|(refine ws_nil ?_; replace hm := hR.back hm; clear hR; try simp only [setn] at hm)|(refine m_box (d:=42) hm (k:=?_); clear hm; intro b42 _ hm)|refine m_load1 hm (k:=?_)|refine op_move (k:=?_)|refine op_assign (k:=?_)|refine op_eql (k:=?_)|refine op_neq (k:=?_)|refine op_nilCheck (k:=?_)|refine op_fieldAddr (k:=?_)|refine op_struct (k:=?_)|refine wl_nil ?_|refine at_then_normal ?_|refine wc_seq ?_|refine wc_region ?_|refine wc_skip ?_|(refine wc_cond_dec (ht:=fun _ => ?_) (hf:=fun _ => ?_)<;> (try first | contradiction | (exfalso; omega)))|refine v_move (k:=?_)|refine v_nilCheck (k:=?_)|refine v_fieldAddr (k:=?_)|refine wv_nil ?_)
    all_goals try (exfalso; first | omega | contradiction)
    have hm := (hm.nil 172 2).swap
    refine ⟨?_⟩
    repeat' (first|refine i_load1 hm (k:=?_)|refine op_move (k:=?_)|refine op_len_slice (k:=?_)|refine op_nilCheck (k:=?_)|refine op_fieldAddr (k:=?_)|refine wl_nil ?_|refine at_then_normal ?_|refine wc_region ?_|refine wc_block ?_)
    all_goals try (exfalso; first | omega | contradiction)
    refine wc_loop (fun x : RcX => [(0, ptr bm), (2, .slice aa args.length ac), (7, .pointer (some ⟨bt, ot, none⟩)), (8, ptr b42), (46, .slice pa it.params.length pc), (47, nt it.params.length), (48, nt x.k)])
      (fun x w' => Mem E J [fCell b42 bm (Sp.parsR (it.params.take x.k) args) x.sa x.sp 0, scRow (Sp.parsR (it.params.take x.k) args) x.sa x.sp, mCell bm bf m va vp (40 - (d + 1)), evRow m va vp] w' ∧ x.k ≤ it.params.length) (fun x => it.params.length - x.k) ⟨0, none, 0⟩
      (by exact ⟨rfl, rfl, rfl, rfl, rfl, rfl, rfl, trivial⟩) ⟨hm, Nat.zero_le _⟩ ?_
    clear hm
    rintro ⟨k, sa, sp⟩ w1 ⟨hm, hk⟩
    dsimp only at hm hk ⊢
    have hpln := Sp.parsR_len hk hpl
    by_cases hlt : k < it.params.length
    · have hg : it.params[k]? = some it.params[k] := List.getElem?_eq_getElem hlt
      have hga : args[k]? = some args[k] := List.getElem?_eq_getElem (by omega)
      generalize it.params[k] = p at hg
      generalize args[k] = n at hga
      have hstp := Sp.parsR_step hg hga
      generalize Sp.parsR (it.params.take k) args = sc at hm hpln hstp
      repeat' (first|(refine i_indexFlat (d:=51) (enc:=encPar) (z:=p) (hr:=hpar) (he:=fun _ => rfl) (hz:=by exact hg) (k:=?_); intro bz oz hpz)|(refine wc_semi_mem (id:=11) (hm.perm pm1_2) 12 14 (h:=?_); clear hm; intro wd hR hm)|(refine iw_indexFlat (d:=62) (enc:=fun n => [.int .i64 n]) (z:=n) (hr:=hra2) (he:=fun _ => rfl) (hz:=by exact hga) (k:=?_); intro by_ oy hpy)|(refine iw_load1 (j:=0) (d:=63) hR (hp:=hpy) (k:=?_))|refine mw_load1 hR (k:=?_)|(refine mt_push (d:=66) hm (k:=?_); clear hm; intro a66 cp66 _ _ hm; replace hm := hR.back hm; clear hR; try simp only [setn] at hm)|(refine m_allocS (d:=10) hm (k:=?_); clear hm; intro b10 _ hm)|refine i_loadN hm (k:=?_)|(refine m_storeAll hm (k:=?_); clear hm; intro _ hm; try simp only [setn] at hm)|(refine m_store1 hm (k:=?_); clear hm; intro _ hm; try simp only [setn] at hm)|refine op_move (k:=?_)|refine op_assign (k:=?_)|refine op_lss (k:=?_)|refine op_nilCheck (k:=?_)|refine op_add (k:=?_)|refine op_fieldAddr (k:=?_)|refine wl_nil ?_|refine at_then_normal ?_|refine at_block_normal ?_|refine wc_seq ?_|refine wc_region ?_|refine wc_block ?_|refine wc_skip ?_|(refine wc_cond_dec (ht:=fun _ => ?_) (hf:=fun _ => ?_)<;> (try first | contradiction | (exfalso; omega)))|refine v_move (k:=?_)|refine v_nilCheck (k:=?_)|refine v_fieldAddr (k:=?_)|refine v_struct (k:=?_)|refine wv_nil ?_)
      all_goals try (exfalso; first | omega | contradiction)
      refine at_round (⟨k + 1, a66, cp66⟩ : RcX) (by exact ⟨rfl, rfl, rfl, rfl, rfl, rfl, rfl, trivial⟩) ⟨?_, by dsimp only; omega⟩ (by dsimp only; omega)
      dsimp only [fCell, scRow]
      rw [hstp, List.flatMap_append, List.length_append]
      exact hm.snd.swap
    obtain rfl : k = it.params.length := by omega
    rw [List.take_length] at hm hpln
    generalize Sp.parsR it.params args = sc at hm hpln heq hto
    have hB := hBk b42 J ba bc9 xb ⟨sc, 0, m⟩ sa sp va vp hle hst hev (by dsimp only; omega) hrb hbs
    dsimp only at hB
    generalize Sp.blkR (Sp.callR its d) it.body ⟨sc, 0, m⟩ = s9 at hB heq hto
    subst heq
    have e1 : (((40 - (d + 1) : Nat) : Int) + 1) = ((40 - d : Nat) : Int) := by omega
    have e2 : (((40 - d : Nat) : Int) - 1) = ((40 - (d + 1) : Nat) : Int) := by omega
    repeat' (first|refine wc_hold 14 ?_|refine m_load1 hm (k:=?_)|(refine m_store1 hm (k:=?_); clear hm; intro _ hm; try simp only [setn] at hm)|refine op_move (k:=?_)|refine op_lss (k:=?_)|refine op_nilCheck (k:=?_)|refine op_add (k:=?_)|refine op_fieldAddr (k:=?_)|refine wl_nil ?_|refine at_then_normal ?_|refine at_then_exit ?_|refine at_block_exit ?_|refine wc_seq ?_|refine wc_region ?_|refine wc_exit ?_|(refine wc_cond_dec (ht:=fun _ => ?_) (hf:=fun _ => ?_)<;> (try first | contradiction | (exfalso; omega))))
    all_goals try (exfalso; first | omega | contradiction)
    rw [e1] at hm
    refine ⟨?_⟩
    repeat' (first|(refine m_call (d:=82) hm (hp:=pmR4) (hc:=hB) (k:=?_); clear hm; rintro _ I4 _ _ ⟨rfl, sa4, sp4, va4, vp4, rfl⟩ hleI4 hm; try simp only [setn] at hm)|refine wc_hold 16 ?_|refine m_load1 hm (k:=?_)|refine i_load1 hm (k:=?_)|(refine m_store1 hm (k:=?_); clear hm; intro _ hm; try simp only [setn] at hm)|refine op_move (k:=?_)|refine op_nilCheck (k:=?_)|refine op_sub (k:=?_)|refine op_fieldAddr (k:=?_)|refine wl_nil ?_|refine at_then_normal ?_|refine wc_seq ?_|refine wc_region ?_)
    all_goals try (exfalso; first | omega | contradiction)
    rw [e2] at hm
    refine ⟨?_⟩
    repeat' (first|refine m_load1 hm (k:=?_)|refine op_move (k:=?_)|refine op_assign (k:=?_)|refine op_nilCheck (k:=?_)|refine op_fieldAddr (k:=?_)|refine wl_nil ?_|refine at_then_normal ?_|refine wc_region ?_|refine wc_ret ?_|refine at_ret1 (h:=?_))
    all_goals try (exfalso; first | omega | contradiction)
    exact ⟨I4, _, ⟨rfl, va4, vp4, rfl⟩, hm.right (H := [_, _])⟩
end
end Go.Proofs.YthmdffgiockcbaaGreatDoor
end
section
namespace Go.Proofs.YthmdffgiockcbaaGreatDoor
open Go.Fw
abbrev qObj (pb : Nat) (la : Option Addr) (lc : Nat) (T : Sp.Src) (s : Sp.St) (deep : Nat) (da : Option Addr) (dc : Nat) : HItem :=
  .obj pb (.cells [.slice la T.l.length lc, nt s.i, nt T.size, .slice da s.ds.length dc, nt deep].toArray 182 (0, 0))
abbrev QSt (pb : Nat) (la : Option Addr) (lc : Nat) (T : Sp.Src) (s : Sp.St) (deep : Nat) (da : Option Addr) (dc : Nat) : List HItem := [qObj pb la lc T s deep da dc, dgRow s.ds da dc]
section
variable {I : Imm} {pb deep lc dc : Nat} {la da : Option Addr} {T : Sp.Src}

theorem p_here (s : Sp.St) (hr : TokR I T la lc) : CalR Tryz.prog 100 #[ptr pb] I [qObj pb la lc T s deep da dc] (nt (T.tok s.i).pos) := by
  refine CalR.of fun w J hm hl hH hJ => enter (N := 28) Tryz.func100 rfl [(0, ptr pb)] args1 rfl ?_
  have hp := immOf_ptr (hH _ List.mem_cons_self)
  rw [← hJ] at hp
  replace hr := hr.le hl
  by_cases hi : s.i < T.l.length
  · have htk := tok_get hi
    repeat' (first|(refine iq_indexFlat (hr:=by exact hr) (he:=by intro _; rfl) (hz:=by exact htk) (k:=?_); intro b1 o1 hp1)|refine iq_load1 hm (k:=?_)|refine op_assign (k:=?_)|refine wl_nil ?_|refine at_then_normal ?_|refine at_then_ret ?_|refine wc_seq ?_|refine wc_region ?_|refine wc_ret ?_|refine at_ret1 (h:=?_)|refine wc_quiet (h:=?_)|(refine wq_nil ?_; intro _ hkq; replace hm := hm.kept0 hkq; clear hkq)|(refine wc_cond_dec (ht:=fun _ => ?_) (hf:=fun _ => ?_)<;> (try first | contradiction | (exfalso; omega)))|refine q_move (k:=?_)|refine q_assign (k:=?_)|refine q_lss (k:=?_)|refine q_len_slice (k:=?_)|refine q_nilCheck (k:=?_)|refine q_fieldAddr (k:=?_))
    exact ⟨rfl, hm.kept⟩
  · have he : T.tok s.i = ⟨0, [], T.size⟩ := Sp.tok_end (by omega)
    rw [he]
    repeat' (first|refine i_load1 hm (k:=?_)|refine iq_load1 hm (k:=?_)|refine op_move (k:=?_)|refine op_assign (k:=?_)|refine op_nilCheck (k:=?_)|refine op_fieldAddr (k:=?_)|refine wl_nil ?_|refine at_then_normal ?_|refine wc_seq ?_|refine wc_region ?_|refine wc_skip ?_|refine wc_ret ?_|refine at_ret1 (h:=?_)|refine wc_quiet (h:=?_)|(refine wq_nil ?_; intro _ hkq; replace hm := hm.kept0 hkq; clear hkq)|(refine wc_cond_dec (ht:=fun _ => ?_) (hf:=fun _ => ?_)<;> (try first | contradiction | (exfalso; omega)))|refine q_move (k:=?_)|refine q_lss (k:=?_)|refine q_len_slice (k:=?_)|refine q_nilCheck (k:=?_)|refine q_fieldAddr (k:=?_))
    exact ⟨rfl, hm.kept⟩
theorem p_peek (s : Sp.St) (hr : TokR I T la lc) : CalR Tryz.prog 128 #[ptr pb] I [qObj pb la lc T s deep da dc] (str (T.tok s.i).text) := by
  refine CalR.of fun w J hm hl hH hJ => enter (N := 24) Tryz.func128 rfl [(0, ptr pb)] args1 rfl ?_
  have hp := immOf_ptr (hH _ List.mem_cons_self)
  rw [← hJ] at hp
  replace hr := hr.le hl
  by_cases hi : s.i < T.l.length
  · have htk := tok_get hi
    repeat' (first|(refine iq_indexFlat (hr:=by exact hr) (he:=by intro _; rfl) (hz:=by exact htk) (k:=?_); intro b1 o1 hp1)|refine iq_load1 hm (k:=?_)|refine op_assign (k:=?_)|refine wl_nil ?_|refine at_then_normal ?_|refine at_then_ret ?_|refine wc_seq ?_|refine wc_region ?_|refine wc_ret ?_|refine at_ret1 (h:=?_)|refine wc_quiet (h:=?_)|(refine wq_nil ?_; intro _ hkq; replace hm := hm.kept0 hkq; clear hkq)|(refine wc_cond_dec (ht:=fun _ => ?_) (hf:=fun _ => ?_)<;> (try first | contradiction | (exfalso; omega)))|refine q_move (k:=?_)|refine q_assign (k:=?_)|refine q_lss (k:=?_)|refine q_len_slice (k:=?_)|refine q_nilCheck (k:=?_)|refine q_fieldAddr (k:=?_))
    exact ⟨rfl, hm.kept⟩
  · have he : T.tok s.i = ⟨0, [], T.size⟩ := Sp.tok_end (by omega)
    rw [he]
    repeat' (first|refine iq_load1 hm (k:=?_)|refine op_assign (k:=?_)|refine wl_nil ?_|refine at_then_normal ?_|refine wc_seq ?_|refine wc_region ?_|refine wc_skip ?_|refine wc_ret ?_|refine at_ret1 (h:=?_)|refine wc_quiet (h:=?_)|(refine wq_nil ?_; intro _ hkq; replace hm := hm.kept0 hkq; clear hkq)|(refine wc_cond_dec (ht:=fun _ => ?_) (hf:=fun _ => ?_)<;> (try first | contradiction | (exfalso; omega)))|refine q_move (k:=?_)|refine q_lss (k:=?_)|refine q_len_slice (k:=?_)|refine q_nilCheck (k:=?_)|refine q_fieldAddr (k:=?_))
    exact ⟨rfl, hm.kept⟩
theorem p_last (s : Sp.St) (hr : TokR I T la lc) (hT : Ok T) (hi : s.i ≤ T.l.length) : CalR Tryz.prog 185 #[ptr pb] I [qObj pb la lc T s deep da dc] (nt (T.endOf s.i)) := by
  refine CalR.of fun w J hm hl hH hJ => enter (N := 26) Tryz.func185 rfl [(0, ptr pb)] args1 rfl ?_
  have hp := immOf_ptr (hH _ List.mem_cons_self)
  rw [← hJ] at hp
  replace hr := hr.le hl
  have h1 := hT.at_ (s.i - 1)
  have h2 := hT.size
  have h3 := hT.len
  by_cases h0 : s.i = 0
  · rw [h0] at hp ⊢
    repeat' (first|refine i_load1 hm (k:=?_)|refine op_move (k:=?_)|refine op_assign (k:=?_)|refine op_eql (k:=?_)|refine op_nilCheck (k:=?_)|refine op_fieldAddr (k:=?_)|refine wl_nil ?_|refine at_then_normal ?_|refine at_then_ret ?_|refine wc_seq ?_|refine wc_region ?_|refine wc_ret ?_|refine at_ret1 (h:=?_)|refine wc_cond_true (ht:=?_))
    exact ⟨rfl, hm.kept⟩
  · have hlt : s.i - 1 < T.l.length := by omega
    have htk := tok_get hlt
    repeat' (first|(refine wc_semi_mem (id:=3) (hm.perm pm0) 11 12 (h:=?_); clear hm; intro wd hR hm)|(refine iw_indexFlat (hr:=by exact hr) (he:=by intro _; rfl) (hz:=by rw [show ((s.i : Int) - 1).toNat = s.i - 1 by omega]; exact htk) (k:=?_); intro b1 o1 hp1)|refine iw_load1 hR (k:=?_)|refine iw_loadN hR (k:=?_)|(refine mt_allocS (d:=3) hm (k:=?_); clear hm; intro b3 _ hm)|(refine ws_nil ?_; replace hm := hR.back hm; clear hR; try simp only [setn] at hm)|refine m_load1 hm (k:=?_)|refine i_load1 hm (k:=?_)|(refine m_storeAll hm (k:=?_); clear hm; intro _ hm; try simp only [setn] at hm)|refine op_move (k:=?_)|refine op_assign (k:=?_)|refine op_eql (k:=?_)|refine op_len_str (k:=?_)|refine op_nilCheck (k:=?_)|refine op_add (k:=?_)|refine op_fieldAddr (k:=?_)|refine wl_nil ?_|refine at_then_normal ?_|refine wc_seq ?_|refine wc_region ?_|refine wc_skip ?_|refine wc_ret ?_|refine at_ret1 (h:=?_)|(refine wc_cond_dec (ht:=fun _ => ?_) (hf:=fun _ => ?_)<;> (try first | contradiction | (exfalso; omega)))|refine v_move (k:=?_)|refine v_nilCheck (k:=?_)|refine v_sub (k:=?_)|refine v_fieldAddr (k:=?_)|refine wv_nil ?_)
    refine ⟨?_, hm.kept⟩
    rw [Sp.Src.endOf, if_neg h0, nt, Int.natCast_add]
end
end Go.Proofs.YthmdffgiockcbaaGreatDoor
end
