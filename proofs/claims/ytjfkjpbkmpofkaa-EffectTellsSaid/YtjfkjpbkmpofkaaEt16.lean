/- Own work: texts ReB, ReC, ReD, FwApp, FwCut3, FwApp2, ReE, ReF, one behind the other. -/
import Derived.Test.YtjfkjpbkmpofkaaEt15
section
namespace Go.Sp
open Go.Fw
/-- a map that is the set of these names. -/
structure SetE (es : Ents) (c : List Nm) : Prop where
  nodup : (es.map (·.1)).Nodup
  tru : ∀ p ∈ es, p.2 = .bool true
  mem : ∀ n, n ∈ es.map (·.1) ↔ n ∈ c
theorem SetE.put {es : Ents} {c : List Nm} {n : Nm} (h : SetE es c) (hn : n ≠ []) : SetE (mput es n (.bool true)) (addE c n) := by
  refine ⟨mput_nodup h.nodup, fun p hp => ?_, fun m => ?_⟩
  · rcases mput_mem hp with h1 | rfl
    · exact h.tru p h1
    · rfl
  · rw [mput_keys, addE_mem, h.mem]
    constructor
    · rintro (h1 | rfl)
      · exact .inl h1
      · exact .inr ⟨rfl, hn⟩
    · rintro (h1 | ⟨h1, _⟩)
      · exact .inl h1
      · exact .inr h1
end Go.Sp
namespace Go.Proofs.Ytjfkjpbkmpofkaa
open Go.Fw
structure SsX where
  k : Nat
  I : Imm
  es : Ents
set_option maxHeartbeats 8000000 in
theorem r_inside {b : Nat} : ∀ (n : Nat) (e : Sp.Ex), SizeOf.sizeOf e ≤ n → e.small → ∀ (I : Imm) (ea : Option Addr) (ec : Nat) (ys : List Value) (es : Ents) (c : List (List UInt8)),
    Sp.SetE es c → RowI I 111 6 (.slice ea e.args.length ec) e.args.length ys → ExsAt I e.args ys →
    CalM Try.prog 58 #[.agg (exCells e ea ec).toArray, .map (some b)] I [.mp b es] (fun v _ H' => v = .tuple #[] ∧ ∃ es', Sp.SetE es' (Sp.exE e c) ∧ H' = [.mp b es']) := by
  intro n
  induction n with
  | zero => intro e h; cases e; simp at h
  | succ n ih =>
  intro e hsz hsm I ea ec ys es c hS hr hx
  obtain ⟨hal, hasm⟩ := Sp.small_args hsm
  refine CalM.of fun w E hm => enter (N := 28) Try.func58 rfl [(0, .agg (exCells e ea ec).toArray), (1, .map (some b))] args2 rfl ?_
  rw [Sp.exE_eq]
  obtain ⟨c1, hc1⟩ : ∃ c1, c1 = if e.kind = 4 then Sp.addE c e.name else c := ⟨_, rfl⟩
  rw [← hc1]
  repeat' (first
  | (refine wc_cut_regN 1 (fun _ : SsX => [(1, .map (some b)), (2, ptr b2)]) (fun x w' => Mem E I [.obj b2 (.cells (exCells e ea ec).toArray 111 (0, 0)), .mp b x.es] w' ∧ Sp.SetE x.es c1) ?_ ?_)
  | (refine m_box (d:=2) hm (k:=?_); clear hm; intro b2 _ hm)
  | refine wl_nil ?_
  | refine at_then_normal ?_
  | refine wc_seq ?_
  | refine wc_region ?_)
  · refine ⟨?_⟩
    by_cases k4 : e.kind = 4
    · rw [if_pos k4] at hc1
      by_cases hn : e.name = []
      · rw [Sp.addE_same (.inl hn)] at hc1
        subst hc1
        repeat' (first
        | refine m_load1 hm (k:=?_)
        | refine op_move (k:=?_)
        | refine op_pick_true (k:=?_)
        | refine op_eql (k:=?_)
        | refine op_neq_str (k:=?_)
        | refine op_fieldAddr (k:=?_)
        | (refine wl_split_dec (h1:=fun _ => ?_) (h0:=fun _ => ?_)<;> (try first | contradiction | (exfalso; omega)))
        | refine wl_nil ?_
        | refine at_then_normal ?_
        | refine wc_seq ?_
        | refine wc_region ?_
        | refine wc_skip ?_
        | (refine wc_cond_dec (ht:=fun _ => ?_) (hf:=fun _ => ?_)<;> (try first | contradiction | (exfalso; omega))))
        all_goals try (exfalso; first | omega | contradiction)
        exact at_cut (⟨0, I, es⟩ : SsX) (by exact ⟨rfl, rfl, trivial⟩) ⟨hm, hS⟩
      · subst hc1
        repeat' (first
        | (refine wl_mapUpdate ?_; refine m_put hm (by rfl) (by rfl) (by rfl) (by rfl) (by rfl) (by first | exact gt0 | exact gt1 | exact gt2 | exact gt3 | exact gt4 | exact gt5 | exact gt6) hS.nodup ?_; clear hm; intro _ hm; try simp only [setn] at hm)
        | refine m_load1 hm (k:=?_)
        | refine op_move (k:=?_)
        | refine op_pick_true (k:=?_)
        | refine op_eql (k:=?_)
        | refine op_neq_str (k:=?_)
        | refine op_fieldAddr (k:=?_)
        | (refine wl_split_dec (h1:=fun _ => ?_) (h0:=fun _ => ?_)<;> (try first | contradiction | (exfalso; omega)))
        | refine wl_nil ?_
        | refine at_then_normal ?_
        | refine wc_seq ?_
        | refine wc_region ?_
        | (refine wc_cond_dec (ht:=fun _ => ?_) (hf:=fun _ => ?_)<;> (try first | contradiction | (exfalso; omega))))
        all_goals try (exfalso; first | omega | contradiction)
        exact at_cut (⟨0, I, mput es e.name (.bool true)⟩ : SsX) (by exact ⟨rfl, rfl, trivial⟩) ⟨hm, hS.put hn⟩
    · rw [if_neg k4] at hc1
      subst hc1
      repeat' (first
      | refine m_load1 hm (k:=?_)
      | refine op_move (k:=?_)
      | refine op_pick_false (k:=?_)
      | refine op_eql (k:=?_)
      | refine op_fieldAddr (k:=?_)
      | refine wl_skip (k:=?_)
      | (refine wl_split_dec (h1:=fun _ => ?_) (h0:=fun _ => ?_)<;> (try first | contradiction | (exfalso; omega)))
      | refine wl_nil ?_
      | refine at_then_normal ?_
      | refine wc_seq ?_
      | refine wc_region ?_
      | refine wc_skip ?_
      | refine wc_cond_false (hf:=?_))
      all_goals try (exfalso; first | omega | contradiction)
      exact at_cut (⟨0, I, es⟩ : SsX) (by exact ⟨rfl, rfl, trivial⟩) ⟨hm, hS⟩
  · clear hm hc1
    rintro ⟨_, _, es1⟩ w1 ⟨hm, hS1⟩
    dsimp only at hm hS1 ⊢
    obtain ⟨I1, hle1, hm1, hp⟩ := hm.freezeO
    clear hm
    have hm := hm1
    clear hm1
    repeat' (first
    | refine i_load1 hm (k:=?_)
    | refine op_move (k:=?_)
    | refine op_len_slice (k:=?_)
    | refine op_fieldAddr (k:=?_)
    | refine wl_nil ?_
    | refine at_then_normal ?_
    | refine wc_seq ?_
    | refine wc_region ?_
    | refine wc_block ?_)
    all_goals try (exfalso; omega)
    refine wc_loop (fun x : SsX => [(1, .map (some b)), (18, .slice ea e.args.length ec), (19, nt e.args.length), (20, nt x.k)])
      (fun x w' => Mem E x.I [.mp b x.es] w' ∧ Le I1 x.I ∧ Sp.SetE x.es (Sp.exsE (e.args.take x.k) c1) ∧ x.k ≤ e.args.length) (fun x => e.args.length - x.k) ⟨0, I1, es1⟩
      (by exact ⟨rfl, rfl, rfl, rfl, trivial⟩) ⟨hm, Le.refl _, by dsimp only; rw [List.take_zero, Sp.exsE]; exact hS1, Nat.zero_le _⟩ ?_
    clear hm
    rintro ⟨k, I2, es2⟩ w2 ⟨hm, hle2, hS2, hk⟩
    dsimp only at hm hle2 hS2 hk ⊢
    have hrow := (hr.le hle1).le hle2
    by_cases hlt : k < e.args.length
    · have hg : e.args[k]? = some e.args[k] := List.getElem?_eq_getElem hlt
      have hsz2 := Sp.size_args (List.getElem_mem hlt)
      have hsm2 := Sp.exsSmall_get hasm hg
      obtain ⟨ea2, ec2, ys2, hc2, hr2, hx2⟩ := (hx.get hg).out
      generalize e.args[k] = y at hg hsz2 hsm2 hc2 hr2 hx2
      have hst := Sp.exsE_step hg c1
      have hcl := ih y (by omega) hsm2 I2 ea2 ec2 ys2 es2 _ hS2 ((hr2.le hle1).le hle2) (ExsAt.le hle2 _ _ (ExsAt.le hle1 _ _ hx2))
      rw [← hst] at hcl
      repeat' (first
      | (refine i_indexAddr (d:=22) (hr:=hrow) (k:=?_); intro bt ot hpt; rw [show ((k : Int).toNat * 6) = k * 6 from rfl, hc2] at hpt)
      | (refine m_call (d:=26) hm (hc:=hcl) (k:=?_); clear hm; rintro _ I3 _ _ ⟨rfl, es3, hS3, rfl⟩ hle hm; have hleI3 := hle; try simp only [setn] at hm)
      | (refine m_varS (d:=5) hm (k:=?_); clear hm; intro b5 _ hm)
      | refine m_loadAll hm (k:=?_)
      | refine i_loadN hm (k:=?_)
      | refine op_move (k:=?_)
      | refine op_lss (k:=?_)
      | refine op_add (k:=?_)
      | refine wl_nil ?_
      | refine at_then_normal ?_
      | refine at_block_normal ?_
      | refine wc_seq ?_
      | refine wc_region ?_
      | refine wc_block ?_
      | refine wc_skip ?_
      | (refine wc_cond_dec (ht:=fun _ => ?_) (hf:=fun _ => ?_)<;> (try first | contradiction | (exfalso; omega))))
      all_goals try (exfalso; omega)
      exact at_round (⟨k + 1, I3, es3⟩ : SsX) (by exact ⟨rfl, rfl, rfl, rfl, trivial⟩) ⟨hm.left (H := [_]), hle2.trans hleI3, hS3, by dsimp only; omega⟩ (by dsimp only; omega)
    · obtain rfl : k = e.args.length := by omega
      rw [List.take_length] at hS2
      repeat' (first
      | refine op_lss (k:=?_)
      | refine wl_nil ?_
      | refine at_then_normal ?_
      | refine at_then_exit ?_
      | refine at_block_exit ?_
      | refine wc_seq ?_
      | refine wc_region ?_
      | refine wc_exit ?_
      | refine at_end0 (h:=?_)
      | (refine wc_cond_dec (ht:=fun _ => ?_) (hf:=fun _ => ?_)<;> (try first | contradiction | (exfalso; omega))))
      all_goals try (exfalso; omega)
      exact ⟨I2, _, ⟨rfl, es2, hS2, rfl⟩, hm⟩
end Go.Proofs.Ytjfkjpbkmpofkaa
end
section
namespace Go.Proofs.Ytjfkjpbkmpofkaa
open Go.Fw
structure SgX where
  k : Nat
  I : Imm
  es : Ents
  fs : Ents
set_option maxHeartbeats 16000000 in
theorem r_gather {bs bc : Nat} : ∀ (n : Nat) (l : List Sp.Stm), SizeOf.sizeOf l ≤ n → l.length ≤ 64 → Sp.stmsSmall l → ∀ (I : Imm) (ab : Option Addr) (cb : Nat) (xb : List Value) (es fs : Ents) (q : List (List UInt8) × List (List UInt8)),
    Sp.SetE es q.1 → Sp.SetE fs q.2 → RowI I 113 15 (.slice ab l.length cb) l.length xb → StsAt I l xb →
    CalM Try.prog 28 #[.slice ab l.length cb, .map (some bs), .map (some bc)] I [.mp bs es, .mp bc fs]
      (fun v _ H' => v = .tuple #[] ∧ ∃ es' fs', Sp.SetE es' (Sp.stmsE l q).1 ∧ Sp.SetE fs' (Sp.stmsE l q).2 ∧ H' = [.mp bs es', .mp bc fs']) := by
  intro n
  induction n with
  | zero => intro l h; cases l <;> simp at h
  | succ n ih =>
  intro l hsz hll hsm I ab cb xb es fs q hq1 hq2 hr hx
  refine CalM.of fun w E hm => enter (N := 40) Try.func28 rfl [(0, .slice ab l.length cb), (1, .map (some bs)), (2, .map (some bc))] args3 rfl ?_
  repeat' (first
  | refine op_move (k:=?_)
  | refine op_len_slice (k:=?_)
  | refine wl_nil ?_
  | refine at_then_normal ?_
  | refine wc_seq ?_
  | refine wc_region ?_
  | refine wc_block ?_)
  refine wc_loop (fun x : SgX => [(1, .map (some bs)), (2, .map (some bc)), (8, .slice ab l.length cb), (9, nt l.length), (10, nt x.k)])
    (fun x w' => Mem E x.I [.mp bs x.es, .mp bc x.fs] w' ∧ Le I x.I ∧ Sp.SetE x.es (Sp.stmsE (l.take x.k) q).1 ∧ Sp.SetE x.fs (Sp.stmsE (l.take x.k) q).2 ∧ x.k ≤ l.length) (fun x => l.length - x.k) ⟨0, I, es, fs⟩
    (by exact ⟨rfl, rfl, rfl, rfl, rfl, trivial⟩) ⟨hm, Le.refl _, by dsimp only; rw [List.take_zero, Sp.stmsE]; exact hq1, by dsimp only; rw [List.take_zero, Sp.stmsE]; exact hq2, Nat.zero_le _⟩ ?_
  clear hm hq1 hq2
  rintro ⟨k, I1, es1, fs1⟩ w1 ⟨hm, hle1, hs1, hf1, hk⟩
  dsimp only at hm hle1 hs1 hf1 hk ⊢
  have hrow := hr.le hle1
  by_cases hlt : k < l.length
  · have hg : l[k]? = some l[k] := List.getElem?_eq_getElem hlt
    have hme := Sp.sizeL_mem (List.getElem_mem hlt)
    obtain ⟨cs, hcs⟩ : ∃ cs, (xb.drop (k * 15)).take 15 = cs := ⟨_, rfl⟩
    have hat := hx.get hg
    rw [hcs] at hat
    have hsm2 := Sp.stmsSmall_get hsm hg
    generalize l[k] = y at hg hme hat hsm2
    have hst := Sp.stmsE_step hg q
    generalize Sp.stmsE (l.take k) q = r at hs1 hf1 hst
    obtain ⟨s1, s2, s3, s4, s5⟩ := Sp.small_parts hsm2
    obtain ⟨z1, z2⟩ := Sp.size_thn (s := y)
    obtain ⟨ea, ec, ex, a1', c1, xs1, a2', c2, xs2, rfl, hr3, hx3, hr4, hx4, hr5, hx5⟩ := hat.out
    rw [Sp.stmE_eq] at hst
    obtain ⟨r1, hr1⟩ : ∃ r1, r1 = if y.kind = 5 then Sp.addE r.1 y.name else r.1 := ⟨_, rfl⟩
    rw [← hr1] at hst
    repeat' (first
    | (refine i_indexAddr (d:=12) (hr:=hrow) (k:=?_); intro bt ot hpt; rw [show ((k : Int).toNat * 15) = k * 15 from rfl, hcs] at hpt)
    | (refine wc_cut_regN 3 (fun _ : SgX => [(1, .map (some bs)), (2, .map (some bc)), (7, ptr b7), (8, .slice ab l.length cb), (9, nt l.length), (10, nt k)]) (fun x w' => Mem E I1 [.obj b7 (.cells (stCells y.kind y.name y.at_ y.label y.opn y.e ea ec (.slice a1' y.thn.length c1) (.slice a2' y.els.length c2) y.fr y.to).toArray 113 (0, 0)), .mp bs x.es, .mp bc fs1] w' ∧ Sp.SetE x.es r1) ?_ ?_)
    | (refine m_varS (d:=7) hm (k:=?_); clear hm; intro b7 _ hm)
    | refine i_loadN hm (k:=?_)
    | refine op_lss (k:=?_)
    | refine wl_nil ?_
    | refine at_then_normal ?_
    | refine wc_seq ?_
    | refine wc_region ?_
    | refine wc_block ?_
    | refine wc_skip ?_
    | (refine wc_cond_dec (ht:=fun _ => ?_) (hf:=fun _ => ?_)<;> (try first | contradiction | (exfalso; omega))))
    · refine ⟨?_⟩
      by_cases k5 : y.kind = 5
      · rw [if_pos k5] at hr1
        by_cases hn : y.name = []
        · rw [Sp.addE_same (.inl hn)] at hr1
          subst hr1
          repeat' (first
          | refine m_load1 hm (k:=?_)
          | refine op_move (k:=?_)
          | refine op_pick_true (k:=?_)
          | refine op_eql (k:=?_)
          | refine op_neq_str (k:=?_)
          | refine op_fieldAddr (k:=?_)
          | (refine wl_split_dec (h1:=fun _ => ?_) (h0:=fun _ => ?_)<;> (try first | contradiction | (exfalso; omega)))
          | refine wl_nil ?_
          | refine at_then_normal ?_
          | refine wc_seq ?_
          | refine wc_region ?_
          | refine wc_skip ?_
          | (refine wc_cond_dec (ht:=fun _ => ?_) (hf:=fun _ => ?_)<;> (try first | contradiction | (exfalso; omega))))
          all_goals try (exfalso; first | omega | contradiction)
          exact at_cut (⟨0, I1, es1, fs1⟩ : SgX) (by exact ⟨rfl, rfl, rfl, rfl, rfl, rfl, trivial⟩) ⟨hm, hs1⟩
        · subst hr1
          repeat' (first
          | (refine wl_mapUpdate ?_; refine m_put hm (by rfl) (by rfl) (by rfl) (by rfl) (by rfl) (by first | exact gt0 | exact gt1 | exact gt2 | exact gt3 | exact gt4 | exact gt5 | exact gt6) hs1.nodup ?_; clear hm; intro _ hm; try simp only [setn] at hm)
          | refine m_load1 hm (k:=?_)
          | refine op_move (k:=?_)
          | refine op_pick_true (k:=?_)
          | refine op_eql (k:=?_)
          | refine op_neq_str (k:=?_)
          | refine op_fieldAddr (k:=?_)
          | (refine wl_split_dec (h1:=fun _ => ?_) (h0:=fun _ => ?_)<;> (try first | contradiction | (exfalso; omega)))
          | refine wl_nil ?_
          | refine at_then_normal ?_
          | refine wc_seq ?_
          | refine wc_region ?_
          | (refine wc_cond_dec (ht:=fun _ => ?_) (hf:=fun _ => ?_)<;> (try first | contradiction | (exfalso; omega))))
          all_goals try (exfalso; first | omega | contradiction)
          exact at_cut (⟨0, I1, mput es1 y.name (.bool true), fs1⟩ : SgX) (by exact ⟨rfl, rfl, rfl, rfl, rfl, rfl, trivial⟩) ⟨hm, hs1.put hn⟩
      · rw [if_neg k5] at hr1
        subst hr1
        repeat' (first
        | refine m_load1 hm (k:=?_)
        | refine op_move (k:=?_)
        | refine op_pick_false (k:=?_)
        | refine op_eql (k:=?_)
        | refine op_fieldAddr (k:=?_)
        | refine wl_skip (k:=?_)
        | (refine wl_split_dec (h1:=fun _ => ?_) (h0:=fun _ => ?_)<;> (try first | contradiction | (exfalso; omega)))
        | refine wl_nil ?_
        | refine at_then_normal ?_
        | refine wc_seq ?_
        | refine wc_region ?_
        | refine wc_skip ?_
        | refine wc_cond_false (hf:=?_))
        all_goals try (exfalso; first | omega | contradiction)
        exact at_cut (⟨0, I1, es1, fs1⟩ : SgX) (by exact ⟨rfl, rfl, rfl, rfl, rfl, rfl, trivial⟩) ⟨hm, hs1⟩
    · clear hm hr1
      rintro ⟨_, _, es2, _⟩ w2 ⟨hm, hs2⟩
      dsimp only at hm hs2 ⊢
      obtain ⟨I2, hle2, hm2, hpt2⟩ := hm.freezeO
      clear hm
      have hm := hm2
      clear hm2
      have hE := r_inside (b := bc) _ y.e (Nat.le_refl _) s1 I2 ea ec ex fs1 r.2 hf1 ((hr3.le hle1).le hle2) (ExsAt.le hle2 _ _ (ExsAt.le hle1 _ _ hx3))
      have hpe := stE_sub hpt2
      have hT := fun (J : Imm) (m : Le I2 J) (fs : Ents) (hf : Sp.SetE fs (Sp.exE y.e r.2)) => ih y.thn (by omega) s2 s3 J a1' c1 xs1 es2 fs (r1, Sp.exE y.e r.2) hs2 hf (((hr4.le hle1).le hle2).le m) (StsAt.le m _ _ (StsAt.le hle2 _ _ (StsAt.le hle1 _ _ hx4)))
      generalize Sp.stmsE y.thn (r1, Sp.exE y.e r.2) = r3 at hT hst
      have hL := fun (J : Imm) (m : Le I2 J) (es fs : Ents) (he : Sp.SetE es r3.1) (hf : Sp.SetE fs r3.2) => ih y.els (by omega) s4 s5 J a2' c2 xs2 es fs r3 he hf (((hr5.le hle1).le hle2).le m) (StsAt.le m _ _ (StsAt.le hle2 _ _ (StsAt.le hle1 _ _ hx5)))
      rw [← hst] at hL
      repeat' (first
      | (refine i_loadN (d:=26) hm (hp:=hpe) (k:=?_))
      | (refine m_call (d:=28) hm (hc:=hE) (k:=?_); clear hm; rintro _ I3 _ _ ⟨rfl, fs3, hf3, rfl⟩ hle hm; have hleI3 := hle; try simp only [setn] at hm; replace hpt2 := hpt2.le hleI3; replace hm := hm.swap)
      | (refine m_call (d:=33) hm (hc:=hT I3 hleI3 fs3 hf3) (k:=?_); clear hm; rintro _ I4 _ _ ⟨rfl, es4, fs4, he4, hf4, rfl⟩ hle hm; have hleI4 := hle; try simp only [setn] at hm; replace hpt2 := hpt2.le hleI4)
      | (refine m_call (d:=38) hm (hc:=hL I4 (hleI3.trans hleI4) es4 fs4 he4 hf4) (k:=?_); clear hm; rintro _ I5 _ _ ⟨rfl, es5, fs5, he5, hf5, rfl⟩ hle hm; have hleI5 := hle; try simp only [setn] at hm)
      | refine i_load1 hm (k:=?_)
      | refine op_move (k:=?_)
      | refine op_add (k:=?_)
      | refine op_fieldAddr (k:=?_)
      | refine wl_nil ?_
      | refine at_then_normal ?_
      | refine at_block_normal ?_
      | refine wc_seq ?_
      | refine wc_region ?_)
      all_goals try (exfalso; omega)
      exact at_round (⟨k + 1, I5, es5, fs5⟩ : SgX) (by exact ⟨rfl, rfl, rfl, rfl, rfl, trivial⟩) ⟨hm, (((hle1.trans hle2).trans hleI3).trans hleI4).trans hleI5, he5, hf5, by dsimp only; omega⟩ (by dsimp only; omega)
  · obtain rfl : k = l.length := by omega
    rw [List.take_length] at hs1 hf1
    repeat' (first
    | refine op_lss (k:=?_)
    | refine wl_nil ?_
    | refine at_then_normal ?_
    | refine at_then_exit ?_
    | refine at_block_exit ?_
    | refine wc_seq ?_
    | refine wc_region ?_
    | refine wc_exit ?_
    | refine at_end0 (h:=?_)
    | (refine wc_cond_dec (ht:=fun _ => ?_) (hf:=fun _ => ?_)<;> (try first | contradiction | (exfalso; omega))))
    all_goals try (exfalso; omega)
    exact ⟨I1, _, ⟨rfl, es1, fs1, hs1, hf1, rfl⟩, hm⟩
end Go.Proofs.Ytjfkjpbkmpofkaa
end
section
namespace Go.Sp
open Go.Fw
/-- the row of the entries that were met. -/
structure Risen (es : Ents) (S : List Nat) (r : List Nm) : Prop where
  srt : Srt r
  mem : ∀ n, n ∈ r ↔ ∃ j v, j ∈ S ∧ es[j]? = some (n, v)
theorem Risen.start (es : Ents) : Risen es [] [] := ⟨Srt.nil, fun n => by simp⟩
theorem Risen.new {es : Ents} {S : List Nat} {r : List Nm} {j : Nat} {u : Nm} {v : Value} (h : Risen es S r) (hn : (es.map (·.1)).Nodup) (hj : es[j]? = some (u, v)) (hS : j ∉ S) : u ∉ r := fun hu => by
  obtain ⟨i, v', hi, hg⟩ := (h.mem u).1 hu
  have h1 : (es.map (·.1))[j]? = some u := by rw [List.getElem?_map, hj]; rfl
  have h2 : (es.map (·.1))[i]? = some u := by rw [List.getElem?_map, hg]; rfl
  have hlt : j < (es.map (·.1)).length := (List.getElem?_eq_some_iff.1 h1).1
  have := (List.getElem?_inj hlt hn).1 (h1.trans h2.symm)
  exact hS (this ▸ hi)
theorem Risen.step {es : Ents} {S : List Nat} {r : List Nm} {j : Nat} {u : Nm} {v : Value} (h : Risen es S r) (hn : (es.map (·.1)).Nodup) (hj : es[j]? = some (u, v)) (hS : j ∉ S) : Risen es (S ++ [j]) (insT u r) := by
  refine ⟨insT_srt h.srt (h.new hn hj hS), fun n => ?_⟩
  rw [insT_mem, h.mem]
  constructor
  · rintro (rfl | ⟨i, v', hi, hg⟩)
    · exact ⟨j, v, by simp, hj⟩
    · exact ⟨i, v', by simp [hi], hg⟩
  · rintro ⟨i, v', hi, hg⟩
    rcases List.mem_append.1 hi with hi | hi
    · exact .inr ⟨i, v', hi, hg⟩
    · obtain rfl := List.mem_singleton.1 hi
      rw [hj] at hg
      exact .inl (Prod.mk.inj (Option.some.inj hg)).1.symm
theorem Risen.done {es : Ents} {S : List Nat} {r c : List Nm} (h : Risen es S r) (he : SetE es c) (hc : Srt c) (hS : ∀ j, j < es.length → j ∈ S) : r = c := by
  refine srt_ext h.srt hc (fun n => ?_)
  rw [h.mem, ← he.mem, List.mem_map]
  constructor
  · rintro ⟨j, v, _, hg⟩
    exact ⟨(n, v), List.mem_of_getElem? hg, rfl⟩
  · rintro ⟨⟨m, v⟩, hm, rfl⟩
    obtain ⟨j, hj⟩ := List.mem_iff_getElem?.1 hm
    exact ⟨j, v, hS j (List.getElem?_eq_some_iff.1 hj).1, hj⟩
end Go.Sp
end
section
namespace Go.Fw
open Go
section
variable {P : Program} {N : Nat} {ds : List Deferred} {Q : Exit → Act → World → Prop} {l : Log} {w : World} {ops : Array Oper} {os : List Oper}
variable {d : Nat} {ty : TypeId} {pos : String} {af : Array Edge} {g : Option (Nat × Bool)} {t : TypeId} {x y : Operand} {E : Ent} {I : Imm} {H : List HItem}
theorem run_append_none {e : TypeId} {sz by_ : Nat} [TySlice P t e] [he : Elem P e sz by_] {b : Option Addr} {n c c2 : Nat} (hc : n ≤ c) (ty : TypeId) :
    (Builtin.append_ #[t, t] ty #[.slice b n c, .slice none 0 c2]).run P w = .ok (.slice b n c) w := by
  obtain ⟨i, z, hi, hz, hs, hby, hzc, hpos⟩ := he.out
  have ht := run_underlying (P := P) (w := w) (TySlice.out (P := P) (t := t))
  cases b <;> simp [Builtin.append_, Builtin.firstCells, Builtin.lenOf, storeCells, ht, sizeOf, typeInfo, hi, hc]
end
end Go.Fw
end
section
namespace Go.Fw
open Go
theorem RowI.drop {I : Imm} {ty sz n m cp : Nat} {a : Option Addr} {xs : List Value} (h : RowI I ty sz (.slice a n cp) n xs) (hmn : m ≤ n) {a' : Option Addr} {cp' : Nat} (hc : n - m ≤ cp') (ha : m < n → a' = a.map (fun p => p.add (m * sz))) :
    RowI I ty sz (.slice a' (n - m) cp') (n - m) (xs.drop (m * sz)) := by
  obtain ⟨h0, a0, cap, h1, h2, h3⟩ := h
  obtain ⟨rfl, _, rfl⟩ := Value.slice.inj h1
  have hle : m * sz ≤ n * sz := Nat.mul_le_mul_right _ hmn
  refine ⟨by rw [List.length_drop, h0, Nat.sub_mul], a', cp', rfl, hc, fun hn => ?_⟩
  obtain ⟨b, off, c, fr, rfl, e2, e3⟩ := h3 (by omega)
  refine ⟨b, off + m * sz, c, fr, (ha (by omega)).trans (by rw [Option.map_some, Addr.add_lit]), e2, fun j u hj => ?_⟩
  rw [List.getElem?_drop] at hj
  rw [Nat.add_assoc]; exact e3 _ _ hj
section
variable {P : Program} {N : Nat} {ds : List Deferred} {Q : Exit → Act → World → Prop} {l : Log} {w : World} {ops : Array Oper} {os : List Oper}
variable {d : Nat} {ty : TypeId} {pos : String} {af : Array Edge} {g : Option (Nat × Bool)} {t : TypeId} {x y : Operand} {E : Ent} {I : Imm} {H : List HItem}
end
end Go.Fw
end
section
namespace Go.Fw
open Go
section
variable {P : Program} {N : Nat} {ds : List Deferred} {Q : Exit → Act → World → Prop} {l : Log} {w w0 : World} {ops : Array Oper} {os tail : List Oper} {X : List Nat}
variable {d : Nat} {ty : TypeId} {pos : String} {af : Array Edge} {g : Option (Nat × Bool)} {t : TypeId} {x y : Operand} {E : Ent} {I I0 : Imm} {H G R : List HItem} {m' f : Nat} {listed : Array Bool}
theorem run_build {e : TypeId} {sz by_ n : Nat} [TySlice P t e] [Elem P e sz by_] {ps : List (Nat × Operand)} {vs : List (Nat × Value)} {a : Act} (ha : Fits N ds l a) (hx : evp l ps = some vs)
    (hi : vs.map (·.1) = List.range' 0 n) (hs : vs.all (fun p => Nat.beq p.2.cells.toList.length sz) = true) (hn : n * sz ≤ 16777216) :
    (execOp a.eval ⟨some d, .buildSlice t n ps.toArray, ty, pos, af, g⟩).run P w = .ok (.value (.slice (some ⟨w.heap.size, 0, none⟩) n n)) (w.alloc (.cells (vs.flatMap (·.2.cells.toList)).toArray e (0, 0))) := by
  obtain ⟨i, z, hi', hz, hs', hby, hzc, hpos⟩ := Elem.out (P := P) (e := e)
  have h6 := fun w => run_underlying (P := P) (w := w) (TySlice.out (P := P) (t := t))
  have hlen : vs.length = n := by have := congrArg List.length hi; simpa using this
  have hf := fill_all sz vs 0 ((List.range (n * sz)).map (fun j => z.cells[j % z.cells.size]!)) (by rw [hlen]; exact hi) (by simp [hlen]) (fun p hp => by
    have := List.all_eq_true.1 hs p hp
    exact Nat.eq_of_beq_eq_true this)
  simp only [Nat.zero_mul, List.take_zero, List.nil_append] at hf
  have e1 := ha.evp hx
  have hz0 : ¬ (2 ^ 24 < n * sz) := by omega
  have e2 : (Array.range (n * sz)).map (fun j => z.cells[j % z.cells.size]!) = ((List.range (n * sz)).map (fun j => z.cells[j % z.cells.size]!)).toArray := by
    apply Array.ext'; simp
  simp only [execOp, Instr.buildSlice]
  by_cases hz1 : n * sz = 0
  · have hn0 : n = 0 := by
      rcases Nat.mul_eq_zero.1 hz1 with h | h
      · exact h
      · omega
    subst hn0
    have : vs = [] := List.eq_nil_of_length_eq_zero hlen
    subst this
    have e4 : Array.range 0 = #[] := rfl
    simp [e1, h6, sizeOf, typeInfo, hi', Instr.fill, newRow, newObj, e4]
    rfl
  · simp [e1, h6, sizeOf, typeInfo, hi', hs', zeroValue, hz, hz0, newRow, newObj, e2, hf]
    rw [if_neg hz1]
    rfl
theorem all_len {sz : Nat} : ∀ (vs : List (Nat × Value)), vs.all (fun p => Nat.beq p.2.cells.toList.length sz) = true → (vs.flatMap (·.2.cells.toList)).length = vs.length * sz
  | [], _ => by simp
  | p :: vs, h => by
    rw [List.all_cons, Bool.and_eq_true] at h
    rw [List.flatMap_cons, List.length_append, all_len vs h.2, Nat.eq_of_beq_eq_true h.1, List.length_cons, Nat.add_mul]; omega
theorem mu_buildI {e : TypeId} {sz by_ n : Nat} [TySlice P t e] [Elem P e sz by_] {ps : List (Nat × Operand)} {vs : List (Nat × Value)} {xs : List Value} (hm : Mem ⟨w0, X, I0⟩ I H w)
    (hw : want ops l ⟨some d, .buildSlice t n ps.toArray, ty, pos, af, g⟩ = some true) (hN : Nat.blt d N = true) (hx : evp l ps = some vs)
    (hi : vs.map (·.1) = List.range' 0 n) (hs : vs.all (fun p => Nat.beq p.2.cells.toList.length sz) = true) (hn : Nat.ble (n * sz) 16777216 = true) (hxs : vs.flatMap (·.2.cells.toList) = xs)
    (k : ∀ I' a w', Le I I' → Mem ⟨w0, X, I0⟩ I' H w' → RowI I' e sz (.slice a n n) n xs → WA P N ds ops Q X w0 m' f listed tail ((d, .slice a n n) :: l) w') :
    WU P N ds ops Q X w0 m' f listed tail ⟨some d, .buildSlice t n ps.toArray, ty, pos, af, g⟩ l w := by
  subst hxs
  have hk := Kept.alloc w (.cells (vs.flatMap (·.2.cells.toList)).toArray e (0, 0))
  obtain ⟨h1, h2⟩ := hm.fresh hk (Nat.le_refl _) (heap_alloc_new w _)
  refine wu_value rfl hw hN (fun a ha => run_build ha hx hi hs (Nat.le_of_ble_eq_true hn)) h2.kept (k _ _ _ h1 h2 ⟨?_, _, _, rfl, Nat.le_refl _, fun _ => ⟨w.heap.size, 0, _, (_, _), rfl, Imm.add_self _ _ _, fun j u hj => by rw [Nat.zero_add]; simpa using hj⟩⟩)
  have hlen : vs.length = n := by have := congrArg List.length hi; simpa using this
  rw [all_len vs hs, hlen]
theorem mu_buildRow {e : TypeId} {sz by_ n : Nat} [TySlice P t e] [Elem P e sz by_] {ps : List (Nat × Operand)} {vs : List (Nat × Value)} {xs : List Value} (hm : Mem ⟨w0, X, I0⟩ I H w)
    (hw : want ops l ⟨some d, .buildSlice t n ps.toArray, ty, pos, af, g⟩ = some true) (hN : Nat.blt d N = true) (hx : evp l ps = some vs)
    (hi : vs.map (·.1) = List.range' 0 n) (hs : vs.all (fun p => Nat.beq p.2.cells.toList.length sz) = true) (hn : Nat.ble (n * sz) 16777216 = true) (hn2 : Nat.ble n 16777216 = true) (hxs : vs.flatMap (·.2.cells.toList) = xs)
    (k : ∀ b w', Mem ⟨w0, X, I0⟩ I (.row (.slice (some ⟨b, 0, none⟩) n n) e sz n xs :: H) w' → WA P N ds ops Q X w0 m' f listed tail ((d, .slice (some ⟨b, 0, none⟩) n n) :: l) w') :
    WU P N ds ops Q X w0 m' f listed tail ⟨some d, .buildSlice t n ps.toArray, ty, pos, af, g⟩ l w := by
  subst hxs
  have hlen : vs.length = n := by have := congrArg List.length hi; simpa using this
  have hl : (vs.flatMap (·.2.cells.toList)).length = n * sz := by rw [all_len vs hs, hlen]
  have hk := Kept.alloc w (.cells (vs.flatMap (·.2.cells.toList)).toArray e (0, 0))
  have hm' := hm.add (x := .row (.slice (some ⟨w.heap.size, 0, none⟩) n n) e sz n (vs.flatMap (·.2.cells.toList))) hk ⟨hl, .inr ⟨w.heap.size, n, _, rfl, Nat.zero_le _, heap_alloc_new w _, Nat.le_refl _, by
    have := Nat.le_of_ble_eq_true hn2
    unfold maxLen; omega, by simpa using hl, by rw [← hl]; exact List.take_length⟩⟩ (fun b' hb' => by simp only [HItem.blk, Value.ownBlock, Option.some.injEq] at hb'; omega)
  exact wu_value rfl hw hN (fun a ha => run_build ha hx hi hs (Nat.le_of_ble_eq_true hn)) hm'.kept (k _ _ hm')
theorem Mem.appI {e : TypeId} {sz by_ : Nat} [TySlice P t e] [Elem P e sz by_] {i n m cp : Nat} {v : Value} {a : Option Addr} {xs ys : List Value} (ty : TypeId) (hm : Mem E I H w)
    (hi : H[i]? = some (.row v e sz n xs)) (hr : RowI I e sz (.slice a m cp) m ys) (h1 : ∀ u ∈ ys, u.oneCell' = true)
    (hlen : (n + m) * by_ ≤ 140737488355328) (h63 : n + m ≤ 9223372036854775807) :
    ∃ a' cp' w', (Builtin.append_ #[t, t] ty #[v, .slice a m cp]).run P w = .ok (.slice a' (n + m) cp') w' ∧ Mem E I (H.set i (.row (.slice a' (n + m) cp') e sz (n + m) (xs ++ ys))) w' := by
  have ho := hm.getRow hi
  obtain ⟨hl0, a', cap, hv, hmc, h3⟩ := hr
  obtain ⟨rfl, _, rfl⟩ := Value.slice.inj hv
  cases a with
  | none =>
    obtain rfl : m = 0 := Classical.byContradiction fun h => by obtain ⟨_, _, _, _, e1, _⟩ := h3 (by omega); cases e1
    obtain rfl : ys = [] := List.eq_nil_of_length_eq_zero (by simpa using hl0)
    obtain ⟨b, c, rfl⟩ := own_val ho
    have hnc := (own_cut ho (Nat.le_refl _)).2.1
    have hm' := hm.turn (h' := .row (.slice b (n + 0) c) e sz (n + 0) (xs ++ [])) hi (Kept.refl _ w) (by rw [Nat.add_zero, List.append_nil]; exact hm.ok _ (List.mem_of_getElem? hi)) (.inl rfl)
    exact ⟨b, c, w, run_append_none (P := P) (t := t) (w := w) (e := e) (b := b) (c2 := cp) hnc ty, hm'⟩
  | some ad =>
    have hcell : ∀ j u, ys[j]? = some u → w.cell? (ad.add j) = some u := fun j u hj => by
      have hm0 : 0 < m := by
        rcases Nat.eq_zero_or_pos m with h | h
        · subst h
          rw [List.eq_nil_of_length_eq_zero (l := ys) (by simpa using hl0)] at hj
          cases hj
        · exact h
      obtain ⟨b, off, c, fr, e1, e2, e3⟩ := h3 hm0
      obtain rfl := Option.some.inj e1
      rw [Addr.add_lit]
      exact cell_of (hm.inv _ _ e2) (e3 j u hj)
    obtain ⟨v', w', hr, ho', hk, hb⟩ := run_append (P := P) (t := t) ho ad m cp ys hl0 hcell h1 h63 hlen (Nat.zero_le _) ty
    obtain ⟨a2, c2, rfl⟩ := own_val ho'
    exact ⟨a2, c2, w', hr, hm.turn hi hk ho' (hb.imp_right fun ⟨g, h1, h2⟩ => ⟨g, h1, h2⟩)⟩
theorem mu_appI {e : TypeId} {sz by_ : Nat} [TySlice P t e] [Elem P e sz by_] {i n m cp : Nat} {v : Value} {a : Option Addr} {xs ys : List Value} (hm : Mem ⟨w0, X, I0⟩ I H w)
    (hw : want ops l ⟨some d, .call ⟨.builtin .append, #[x, y], #[t, t]⟩, ty, pos, af, g⟩ = some true) (hN : Nat.blt d N = true)
    (hx : ev l x = some v) (hy : ev l y = some (.slice a m cp)) (hi : H[i]? = some (.row v e sz n xs)) (hr : RowI I e sz (.slice a m cp) m ys) (h1 : ∀ u ∈ ys, u.oneCell' = true)
    (hlen : (n + m) * by_ ≤ 140737488355328) (h63 : n + m ≤ 9223372036854775807)
    (k : ∀ a' cp' w', Mem ⟨w0, X, I0⟩ I (H.set i (.row (.slice a' (n + m) cp') e sz (n + m) (xs ++ ys))) w' → WA P N ds ops Q X w0 m' f listed tail ((d, .slice a' (n + m) cp') :: l) w') :
    WU P N ds ops Q X w0 m' f listed tail ⟨some d, .call ⟨.builtin .append, #[x, y], #[t, t]⟩, ty, pos, af, g⟩ l w := by
  obtain ⟨a', cp', w', hr, hm'⟩ := Mem.appI (t := t) (P := P) ty hm hi hr h1 hlen h63
  exact wu_value (v := .slice a' (n + m) cp') rfl hw hN (fun a ha => by simp [execOp, resolve, invoke, builtin, ha.ev hx, ha.ev hy, hr]) hm'.kept (k _ _ _ hm')
theorem iv_sliceTo {KV : Act → Prop} {e : TypeId} {sz by_ : Nat} [TySlice P t e] [Elem P e sz by_] {n m cp : Nat} {a : Option Addr} {xs : List Value} (hr : RowI I e sz (.slice a n cp) n xs)
    (hw : want ops l ⟨some d, .slice t x none (some y) none, ty, pos, af, g⟩ = some true) (hN : Nat.blt d N = true)
    (hx : ev l x = some (.slice a n cp)) (hy : ev l y = some (.int .i64 (m : Int))) (hmn : m ≤ n)
    (k : RowI I e sz (.slice a m cp) m (xs.take (m * sz)) → WV P N ds ops X w KV os ((d, .slice a m cp) :: l)) :
    WV P N ds ops X w KV (⟨some d, .slice t x none (some y) none, ty, pos, af, g⟩ :: os) l := by
  have h2 : n ≤ cp := by
    obtain ⟨_, a', cap, h1, h2, _⟩ := hr
    obtain ⟨_, _, rfl⟩ := Value.slice.inj h1
    exact h2
  obtain ⟨inf, z, hinf, _, hs, _, _, _⟩ := Elem.out (P := P) (e := e)
  have h7 : m ≤ cp := by omega
  refine wv_value (v := .slice a m cp) rfl hw hN (fun w' _ c hc => ?_) (k (hr.take hmn))
  have h6 := run_underlying (P := P) (w := w') (TySlice.out (P := P) (t := t))
  rcases a with _ | ⟨b, off, o⟩
  · simp [execOp, Instr.sliceAt, Instr.slice, Instr.sliceBounds, Instr.sliceBound, hc.ev hx, hc.ev hy, h6, asIntOf, h7, sizeOf, typeInfo, hinf, hs]
  · simp [execOp, Instr.sliceAt, Instr.slice, Instr.sliceBounds, Instr.sliceBound, hc.ev hx, hc.ev hy, h6, asIntOf, h7, sizeOf, typeInfo, hinf, hs, Addr.add]
theorem iv_sliceFrom {KV : Act → Prop} {e : TypeId} {sz by_ : Nat} [TySlice P t e] [Elem P e sz by_] {n m cp : Nat} {a : Option Addr} {xs : List Value} (hr : RowI I e sz (.slice a n cp) n xs)
    (hw : want ops l ⟨some d, .slice t x (some y) none none, ty, pos, af, g⟩ = some true) (hN : Nat.blt d N = true)
    (hx : ev l x = some (.slice a n cp)) (hy : ev l y = some (.int .i64 (m : Int))) (hmn : m ≤ n)
    (k : ∀ a' cp', RowI I e sz (.slice a' (n - m) cp') (n - m) (xs.drop (m * sz)) → WV P N ds ops X w KV os ((d, .slice a' (n - m) cp') :: l)) :
    WV P N ds ops X w KV (⟨some d, .slice t x (some y) none none, ty, pos, af, g⟩ :: os) l := by
  have h2 : n ≤ cp := by
    obtain ⟨_, a', cap, h1, h2, _⟩ := hr
    obtain ⟨_, _, rfl⟩ := Value.slice.inj h1
    exact h2
  obtain ⟨inf, z, hinf, _, hs, _, _, _⟩ := Elem.out (P := P) (e := e)
  refine wv_value (v := .slice (if cp = m then a else a.map (fun p => p.add (m * sz))) (n - m) (cp - m)) rfl hw hN (fun w' _ c hc => ?_) (k _ _ (hr.drop hmn (by omega) (fun h => by
    have : cp ≠ m := by omega
    rw [if_neg this])))
  have h6 := run_underlying (P := P) (w := w') (TySlice.out (P := P) (t := t))
  rcases a with _ | ⟨b, off, o⟩
  · simp [execOp, Instr.sliceAt, Instr.slice, Instr.sliceBounds, Instr.sliceBound, hc.ev hx, hc.ev hy, h6, asIntOf, h2, hmn, sizeOf, typeInfo, hinf, hs]
  · simp [execOp, Instr.sliceAt, Instr.slice, Instr.sliceBounds, Instr.sliceBound, hc.ev hx, hc.ev hy, h6, asIntOf, h2, hmn, sizeOf, typeInfo, hinf, hs]
end
end Go.Fw
end
section
namespace Go.Fw
open Go
section
variable {P : Program} {N : Nat} {ds : List Deferred} {Q : Exit → Act → World → Prop} {l : Log} {w : World} {ops : Array Oper} {os : List Oper}
variable {d : Nat} {ty : TypeId} {pos : String} {af : Array Edge} {g : Option (Nat × Bool)} {t t' : TypeId} {x y : Operand}
theorem op_lss_str {s u : List UInt8} (hw : want ops l ⟨some d, .binOp .lss t x y t', ty, pos, af, g⟩ = some true) (hN : Nat.blt d N = true)
    (hx : ev l x = some (str s)) (hy : ev l y = some (str u)) (k : WL P N ds ops Q os ((d, .bool (decide (s < u))) :: l) w) :
    WL P N ds ops Q (⟨some d, .binOp .lss t x y t', ty, pos, af, g⟩ :: os) l w :=
  wl_value rfl hw hN (fun c hc => by simp [execOp, hc.ev hx, hc.ev hy, eqGuard, binOp, Op.stringOp, bytes_lt]) k
end
theorem rise_cells {r : List (List UInt8)} {ku : List UInt8} {k : Nat} (h : Sp.insT ku r = r.take k ++ ku :: r.drop k) :
    (([] ++ (r.flatMap encS).take (k * 1)) ++ [str ku]) ++ (r.flatMap encS).drop (k * 1) = (Sp.insT ku r).flatMap encS := by
  rw [h, flatS_ins, Nat.mul_one, List.nil_append, List.append_assoc]; rfl
end Go.Fw
namespace Go.Proofs.Ytjfkjpbkmpofkaa
open Go.Fw
structure RsX where
  S : List Nat
  I : Imm
  r : List (List UInt8)
  a : Option Addr
  cp : Nat
set_option maxHeartbeats 16000000 in
theorem r_rising {b : Nat} {es : Ents} {c : List (List UInt8)} (he : Sp.SetE es c) (hc : Sp.Srt c) (hl : c.length ≤ 1000000000) (I : Imm) (hM : MapI I b es) :
    CalM Try.prog 29 #[.map (some b)] I [] (fun v J H' => ∃ a cp, v = .slice a c.length cp ∧ H' = [] ∧ RowI J 9 1 (.slice a c.length cp) c.length (c.flatMap encS)) := by
  refine CalM.of fun w E hm => enter (N := 43) Try.func29 rfl [(0, .map (some b))] args1 rfl ?_
  repeat' (first
  | (refine m_range (d := 8) hm (by rfl) (by rfl) (by rfl) (hm.mapI hM) ?_; clear hm; intro rb _ hm)
  | refine op_move (k:=?_)
  | refine op_assign (k:=?_)
  | refine wl_nil ?_
  | refine at_then_normal ?_
  | refine wc_seq ?_
  | refine wc_region ?_
  | refine wc_block ?_)
  refine wc_loop (fun x : RsX => [(3, .slice x.a x.r.length x.cp), (8, ptr rb)])
    (fun x w' => Mem E x.I [.it rb b es.length x.S] w' ∧ Le I x.I ∧ Sp.Risen es x.S x.r ∧ RowI x.I 9 1 (.slice x.a x.r.length x.cp) x.r.length (x.r.flatMap encS)) (fun x => leftN es.length x.S) ⟨[], I, [], none, 0⟩
    (by exact ⟨rfl, rfl, trivial⟩) ⟨hm, Le.refl _, Sp.Risen.start es, rowI_nil _ _ _ _ _⟩ ?_
  clear hm
  rintro ⟨S, I1, r, a, cp⟩ w1 ⟨hm, hle1, hri, hrow⟩
  dsimp only at hm hle1 hri hrow ⊢
  have hM1 := hM.le hle1
  have hrl : r.length ≤ c.length := Sp.srt_len hri.srt (fun x hx => by
    obtain ⟨j, v, _, hg⟩ := (hri.mem x).1 hx
    exact (he.mem x).1 (List.mem_map_of_mem (f := (·.1)) (List.mem_of_getElem? hg)))
  have hone : ∀ u ∈ r.flatMap encS, u.oneCell' = true := List.all_eq_true.1 (flatS_one r)
  repeat' (first
  | (refine m_next (d := 9) hm (by rfl) (by rfl) (by rfl) (by first | exact gt0 | exact gt1 | exact gt2 | exact gt3 | exact gt4 | exact gt5 | exact gt6) (hm.mapI hM1) (fun hall => ?_) ?_; rotate_left; intro j ku kv w2 hj hS hm2; obtain rfl : kv = .bool true := he.tru _ (List.mem_of_getElem? hj))
  | (refine m_entry (d := 11) hm2 (by rfl) (by rfl) (by rfl) (by first | exact gt0 | exact gt1 | exact gt2 | exact gt3 | exact gt4 | exact gt5 | exact gt6) (hm2.mapI hM1) hj ?_; clear hm; have hm := hm2; clear hm2; try simp only [setn] at hm)
  | refine op_move (k:=?_)
  | refine op_assign (k:=?_)
  | refine op_not (k:=?_)
  | refine op_extract (k:=?_)
  | refine wl_nil ?_
  | refine at_then_normal ?_
  | refine at_then_exit ?_
  | refine at_block_exit ?_
  | refine wc_seq ?_
  | refine wc_region ?_
  | refine wc_block ?_
  | refine wc_skip ?_
  | refine wc_exit ?_
  | refine wc_ret ?_
  | refine at_ret1 (h:=?_)
  | refine wc_cond_true (ht:=?_)
  | refine wc_cond_false (hf:=?_))
  · refine wc_loop (fun k : Nat => [(3, .slice a r.length cp), (4, str ku), (6, nt k), (8, ptr rb)])
      (fun k w' => Mem E I1 [.it rb b es.length (S ++ [j])] w' ∧ k ≤ r.length ∧ ∀ i x, i < k → r[i]? = some x → x < ku) (fun k => r.length - k) 0
      (by exact ⟨rfl, rfl, rfl, rfl, trivial⟩) ⟨hm, Nat.zero_le _, fun i _ hi => absurd hi (Nat.not_lt_zero i)⟩ ?_
    clear hm
    rintro k w3 ⟨hm, hk, hbf⟩
    try dsimp only at hm hk hbf ⊢
    by_cases hgo : ∃ y, r[k]? = some y ∧ y < ku
    · obtain ⟨y, hg, hy⟩ := hgo
      have hlt := (List.getElem?_eq_some_iff.1 hg).1
      repeat' (first
      | (refine i_indexFlat (d:=23) (enc:=encS) (z:=y) (hr:=hrow) (he:=fun _ => rfl) (hz:=by exact hg) (k:=?_); intro bz oz hpz)
      | refine op_lss_str (by rfl) (by rfl) (by rfl) (by rfl) ?_
      | refine i_load1z hm (k:=?_)
      | refine op_move (k:=?_)
      | refine op_assign (k:=?_)
      | refine op_pick_true (k:=?_)
      | refine op_lss (k:=?_)
      | refine op_len_slice (k:=?_)
      | refine op_add (k:=?_)
      | (refine wl_split_dec (h1:=fun _ => ?_) (h0:=fun _ => ?_)<;> (try first | contradiction | (exfalso; omega)))
      | refine wl_nil ?_
      | refine at_then_normal ?_
      | refine at_block_normal ?_
      | refine wc_seq ?_
      | refine wc_region ?_
      | refine wc_block ?_
      | refine wc_skip ?_
      | (refine wc_cond_dec (ht:=fun _ => ?_) (hf:=fun _ => ?_)<;> (try first | contradiction | (exfalso; omega))))
      all_goals try (exfalso; first | omega | contradiction)
      refine at_round (k + 1 : Nat) (by exact ⟨rfl, rfl, rfl, rfl, trivial⟩) ⟨hm, by omega, fun i x hi hx => ?_⟩ (by omega)
      rcases Nat.lt_or_ge i k with h | h
      · exact hbf i x h hx
      · obtain rfl : i = k := by omega
        rw [hg] at hx
        exact Option.some.inj hx ▸ hy
    · have hno : ∀ x, r[k]? = some x → ¬ x < ku := fun x hx hl => hgo ⟨x, hx, hl⟩
      clear hgo
      have hin := Sp.insT_at hk hbf hno
      rcases Nat.lt_or_ge k r.length with hlt | hge
      focus
        have hg : r[k]? = some r[k] := List.getElem?_eq_getElem hlt
        have hy := hno _ hg
        generalize r[k] = y at hg hy
        repeat' (first
        | refine wc_hold 9 ?_
        | (refine i_indexFlat (d:=23) (enc:=encS) (z:=y) (hr:=hrow) (he:=fun _ => rfl) (hz:=by exact hg) (k:=?_); intro bz oz hpz)
        | refine op_lss_str (by rfl) (by rfl) (by rfl) (by rfl) ?_
        | refine i_load1z hm (k:=?_)
        | refine op_move (k:=?_)
        | refine op_pick_true (k:=?_)
        | refine op_lss (k:=?_)
        | refine op_len_slice (k:=?_)
        | (refine wl_split_dec (h1:=fun _ => ?_) (h0:=fun _ => ?_)<;> (try first | contradiction | (exfalso; omega)))
        | refine wl_nil ?_
        | refine at_then_normal ?_
        | refine at_then_exit ?_
        | refine at_block_exit ?_
        | refine wc_seq ?_
        | refine wc_region ?_
        | refine wc_exit ?_
        | (refine wc_cond_dec (ht:=fun _ => ?_) (hf:=fun _ => ?_)<;> (try first | contradiction | (exfalso; omega))))
      rotate_left
      focus
        repeat' (first
        | refine wc_hold 9 ?_
        | refine op_move (k:=?_)
        | refine op_pick_false (k:=?_)
        | refine op_lss (k:=?_)
        | refine op_len_slice (k:=?_)
        | refine wl_skip (k:=?_)
        | (refine wl_split_dec (h1:=fun _ => ?_) (h0:=fun _ => ?_)<;> (try first | contradiction | (exfalso; omega)))
        | refine wl_nil ?_
        | refine at_then_normal ?_
        | refine at_then_exit ?_
        | refine at_block_exit ?_
        | refine wc_seq ?_
        | refine wc_region ?_
        | refine wc_exit ?_
        | refine wc_cond_false (hf:=?_))
      all_goals try (exfalso; first | omega | contradiction)
      all_goals refine ⟨?_⟩
      all_goals
        repeat' (first
        | (refine wc_fork_mem (id:=9) (hm.perm pm0) [1,2,3,5,8,9,10] 12 (h:=?_); clear hm; intro wd hR hm)
        | (refine iv_sliceTo (d := 33) hrow (by rfl) (by rfl) (by rfl) (by rfl) hk ?_; intro hrT)
        | (refine iv_sliceFrom (d := 40) hrow (by rfl) (by rfl) (by rfl) (by rfl) hk ?_; intro a40 cp40 hrF)
        | (refine mu_buildRow (d := 30) hm (by rfl) (by rfl) (by rfl) (by rfl) (by rfl) (by rfl) (by rfl) (by rfl) ?_; clear hm; intro b30 _ hm)
        | (refine mu_buildI (d := 36) hm (by rfl) (by rfl) (by rfl) (by rfl) (by rfl) (by rfl) (by rfl) ?_; clear hm; intro I36 a36 _ hle36 hm hr36)
        | (refine mu_appI (d := 34) hm (by rfl) (by rfl) (by rfl) (by rfl) (by first | exact gt0 | exact gt1 | exact gt2 | exact gt3 | exact gt4 | exact gt5 | exact gt6) (by first | exact hrT | exact hrT.le hle36) (fun u hu => hone u (List.mem_of_mem_take hu)) (by omega) (by omega) ?_; clear hm; intro a34 cp34 _ hm; try simp only [setn] at hm)
        | (refine mu_appI (d := 37) hm (by rfl) (by rfl) (by rfl) (by rfl) (by first | exact gt0 | exact gt1 | exact gt2 | exact gt3 | exact gt4 | exact gt5 | exact gt6) hr36 (by intro u hu; obtain rfl := List.mem_singleton.1 hu; rfl) (by omega) (by omega) ?_; clear hm; intro a37 cp37 _ hm; try simp only [setn] at hm)
        | (refine mu_appI (d := 41) hm (by rfl) (by rfl) (by rfl) (by rfl) (by first | exact gt0 | exact gt1 | exact gt2 | exact gt3 | exact gt4 | exact gt5 | exact gt6) (hrF.le hle36) (fun u hu => hone u (List.mem_of_mem_drop hu)) (by omega) (by omega) ?_; clear hm; intro a41 cp41 _ hm; try simp only [setn] at hm)
        | (refine wa_two (i:=0) (j:=6) (by decide +kernel) (h:=?_) (h2:=?_))
        | (refine wa_two (i:=4) (j:=6) (by decide +kernel) (h:=?_) (h2:=?_))
        | (refine wa_one (i:=0) (by decide +kernel) (h:=?_))
        | (refine wa_one (i:=4) (by decide +kernel) (h:=?_))
        | (refine wa_one (i:=6) (by decide +kernel) (h:=?_))
        | (refine wa_one (i:=7) (by decide +kernel) (h:=?_))
        | (refine wa_one (i:=11) (by decide +kernel) (h:=?_))
        | (refine wa_nil (by decide +kernel) ?_; replace hm := hR.back hm; clear hR; try simp only [setn] at hm)
        | refine wv_nilA ?_
        | refine op_assign (k:=?_)
        | refine wl_nil ?_
        | refine at_block_normal ?_
        | refine v_move (k:=?_))
      all_goals
        have hl41 : 0 + k + 1 + (r.length - k) = (Sp.insT ku r).length := by rw [Sp.insT_len]; omega
        rw [hl41] at hm ⊢
        obtain ⟨I5, hle5, hm5, hr5⟩ := hm.freeze
        have hr6 : RowI I5 9 1 (.slice a41 (Sp.insT ku r).length cp41) (Sp.insT ku r).length ((Sp.insT ku r).flatMap encS) := by
          rw [← rise_cells hin]; exact hr5
        exact at_round (⟨S ++ [j], I5, Sp.insT ku r, a41, cp41⟩ : RsX) (by exact ⟨rfl, rfl, trivial⟩) ⟨hm5, (hle1.trans hle36).trans hle5, hri.step hM.nodup hj hS, hr6⟩ (leftN_step (List.getElem?_eq_some_iff.1 hj).1 hS)
  · obtain rfl := hri.done he hc hall
    exact ⟨I1, [], ⟨a, cp, rfl, rfl, hrow⟩, hm.tl⟩
end Go.Proofs.Ytjfkjpbkmpofkaa
end
section
namespace Go.Sp
open Go.Fw
theorem SetE.nil : SetE [] [] := ⟨List.nodup_nil, fun _ h => (by cases h), fun n => ⟨fun h => (by cases h), fun h => (by cases h)⟩⟩
end Go.Sp
namespace Go.Proofs.Ytjfkjpbkmpofkaa
open Go.Fw
/-- rows that are written no more. -/
abbrev StrI (J : Imm) (l : List (List UInt8)) (a : Option Addr) (cp : Nat) : Prop := RowI J 9 1 (.slice a l.length cp) l.length (l.flatMap encS)
theorem _root_.Go.Fw.pmRf {x y z : HItem} : [x, y, z].Perm [y, x, z] := .swap _ _ _
set_option maxHeartbeats 8000000 in
theorem r_own (it : Sp.Itm) (hs : it.small) (hcn : Sp.stmsCnt it.body ≤ 400000000) (I : Imm) (cs : List Value) (hi : ItAt I it cs) :
    CalM Try.prog 11 #[.agg cs.toArray] I [] (fun v J H' => H' = [] ∧ ∃ sa sp ca cp, v = .tuple #[.slice sa (Sp.ownE it).1.length sp, .slice ca (Sp.ownE it).2.length cp] ∧ StrI J (Sp.ownE it).1 sa sp ∧ StrI J (Sp.ownE it).2 ca cp) := by
  obtain ⟨ap, cp, as_, cs', ab, cb, ad, cd, xb, rfl, r1, r2, r3, r4, r5⟩ := hi
  have hsb := hs.body
  have hG := fun (J : Imm) (m : Le I J) (bs bc : Nat) => r_gather (bs := bs) (bc := bc) _ it.body (Nat.le_refl _) (by omega) hs.stms J ab cb xb [] [] ([], []) Sp.SetE.nil Sp.SetE.nil (r3.le m) (StsAt.le m _ _ r4)
  rw [show Sp.stmsE it.body ([], []) = Sp.ownE it from rfl] at hG
  have hsr := Sp.ownE_srt it
  have hln := Sp.ownE_len it
  obtain ⟨r, hr⟩ : ∃ r, r = Sp.ownE it := ⟨_, rfl⟩
  rw [← hr] at hG hsr hln
  rw [← hr]
  refine CalM.of fun w E hm => enter (N := 17) Try.func11 rfl [(0, .agg (itCells it.kind it.name it.label (.slice ap it.params.length cp) (.slice as_ it.sends.length cs') (.slice ab it.body.length cb) it.at_ it.size it.mark (.slice ad it.diags.length cd)).toArray)] args1 rfl ?_
  repeat' (first
  | (refine m_makeMap (d:=7) hm (k:=?_); have := b6; clear hm; intro b7 _ hm)
  | (refine m_makeMap (d:=6) hm (k:=?_); clear hm; intro b6 _ hm)
  | refine wc_hold 2 ?_
  | (refine m_box (d:=1) hm (k:=?_); clear hm; intro b1 _ hm)
  | refine op_assign (k:=?_)
  | refine wl_nil ?_
  | refine at_then_normal ?_
  | refine wc_seq ?_
  | refine wc_region ?_)
  all_goals try (exfalso; omega)
  have hm := hm.perm pmRf
  refine ⟨?_⟩
  repeat' (first
  | (refine m_call (d:=12) hm (hp:=pm2_0) (hc:=hG I (Le.refl _) b6 b7) (k:=?_); clear hm; rintro _ I2 _ _ ⟨rfl, es, fs, he, hf, rfl⟩ hleI2 hm; try simp only [setn] at hm)
  | refine wc_hold 3 ?_
  | refine m_load1 hm (k:=?_)
  | refine op_move (k:=?_)
  | refine op_fieldAddr (k:=?_)
  | refine wl_nil ?_
  | refine at_then_normal ?_
  | refine wc_seq ?_
  | refine wc_region ?_)
  all_goals try (exfalso; omega)
  obtain ⟨I3, hle3, hm3, hM3⟩ := Mem.freezeM hm he.nodup
  obtain ⟨I4, hle4, hm4, hM4⟩ := Mem.freezeM hm3 hf.nodup
  clear hm hm3
  have hm := hm4.left (H := [])
  clear hm4
  have hA := r_rising (b := b6) he hsr.1 (by omega) I4 (hM3.le hle4)
  have hB := fun (J : Imm) (m : Le I4 J) => r_rising (b := b7) hf hsr.2 (by omega) J (hM4.le m)
  refine ⟨?_⟩
  repeat' (first
  | (refine m_call (d:=14) hm (hp:=pm0) (hc:=hA) (k:=?_); clear hm; rintro _ I5 _ _ ⟨sa, sp, rfl, rfl, hr5⟩ hleI5 hm; try simp only [setn] at hm)
  | (refine m_call (d:=16) hm (hp:=pm0) (hc:=hB I5 hleI5) (k:=?_); clear hm; rintro _ I6 _ _ ⟨ca, cp6, rfl, rfl, hr6⟩ hleI6 hm; try simp only [setn] at hm)
  | refine op_move (k:=?_)
  | refine op_assign (k:=?_)
  | refine wl_nil ?_
  | refine at_then_normal ?_
  | refine wc_region ?_
  | refine wc_ret ?_
  | refine at_ret2 (h:=?_))
  all_goals try (exfalso; omega)
  exact ⟨I6, [], ⟨rfl, sa, sp, ca, cp6, rfl, hr5.le hleI6, hr6⟩, hm⟩
end Go.Proofs.Ytjfkjpbkmpofkaa
end
