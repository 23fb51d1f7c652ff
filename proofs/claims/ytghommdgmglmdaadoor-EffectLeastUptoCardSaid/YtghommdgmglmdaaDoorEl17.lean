/- Own work: texts NsR, EfD, SpecEff3, EfE, ReA, FwMap2, one behind the other. -/
import Derived.Test.YtghommdgmglmdaaDoorEl16
section
namespace Go.Proofs.YtghommdgmglmdaaDoor
open Go.Fw
theorem n_idxRef (fi : FuncId) [Own Tryd.prog fi] (ca : List Value) (F : Sp.Rf → Bool) (l : List Sp.Rf) (hl : l.length ≤ 1000000000) (I : Imm) (a : Option Addr) (cp : Nat) (hr : RowI I 45 2 (.slice a l.length cp) l.length (l.flatMap encRf))
    (hF : ∀ I', Le I I' → ∀ x, CalM Tryd.prog fi (.agg (encRf x).toArray :: ca).toArray I' [] (fun v _ H' => v = .bool (F x) ∧ H' = [])) :
    CalM Tryd.prog 26 #[.slice a l.length cp, .func (.func fi) #[] ca.toArray] I [] (fun v _ H' => v = .int .i64 (match l.findIdx? F with | some j => (j : Int) | none => -1) ∧ H' = []) := by
  refine CalM.of fun w E hm => enter (N := 19) Tryd.func26 rfl [(0, .slice a l.length cp), (1, .func (.func fi) #[] ca.toArray)] args2 rfl ?_
  repeat' (first
  | refine op_move (k:=?_)
  | refine op_assign (k:=?_)
  | refine op_len_slice (k:=?_)
  | refine wl_nil ?_
  | refine at_then_normal ?_
  | refine wc_seq ?_
  | refine wc_region ?_
  | refine wc_block ?_)
  refine wc_loop (fun x : NI => [(0, .slice a l.length cp), (1, .func (.func fi) #[] ca.toArray), (7, nt l.length), (8, nt x.k)])
    (fun x w' => Mem E x.I [] w' ∧ Le I x.I ∧ x.k ≤ l.length ∧ ∀ j it', j < x.k → l[j]? = some it' → F it' = false) (fun x => l.length - x.k) ⟨0, I⟩ (by exact ⟨rfl, rfl, rfl, rfl, trivial⟩) ⟨hm, Le.refl _, Nat.zero_le _, fun j _ hj => absurd hj (Nat.not_lt_zero j)⟩ ?_
  clear hm
  rintro ⟨k, I1⟩ w1 ⟨hm, hle1, hk, hno⟩
  dsimp only at hm hle1 hk hno ⊢
  by_cases hlt : k < l.length
  · have hg : l[k]? = some l[k] := List.getElem?_eq_getElem hlt
    have hri := hr.le hle1
    have hc := hF I1 hle1 l[k]
    have hgk : l[((k : Nat) : Int).toNat]? = some l[k] := hg
    generalize l[k] = x at hg hc hgk
    cases hb : F x with
    | true =>
      rw [hb] at hc
      repeat' (first
      | (refine i_indexFlat (d:=14) (enc:=encRf) (z:=x) (hr:=hri) (he:=fun _ => rfl) (hz:=hgk) (k:=?_); intro bt ot hpt)
      | (refine i_loadN (d:=15) hm (hp:=hpt) (k:=?_))
      | (refine m_callv (d:=16) hm (hp:=pm0) (hc:=by exact hc) (k:=?_); clear hm; rintro _ I2 _ _ ⟨rfl, rfl⟩ hle hm)
      | refine op_move (k:=?_)
      | refine op_assign (k:=?_)
      | refine op_lss (k:=?_)
      | refine wl_nil ?_
      | refine at_then_normal ?_
      | refine at_then_ret ?_
      | refine at_block_ret ?_
      | refine wc_seq ?_
      | refine wc_region ?_
      | refine wc_block ?_
      | refine wc_skip ?_
      | refine wc_ret ?_
      | refine at_ret1 (h:=?_)
      | refine wc_cond_true (ht:=?_)
      | (refine wc_cond_dec (ht:=fun _ => ?_) (hf:=fun _ => ?_)<;> (try first | contradiction | (exfalso; omega))))
      all_goals try (exfalso; omega)
      refine ⟨I2, [], ⟨?_, rfl⟩, hm.left (H := [])⟩
      have : l.findIdx? F = some k := by
        rw [List.findIdx?_eq_some_iff_getElem]
        obtain ⟨hk, e⟩ := List.getElem?_eq_some_iff.1 hg
        refine ⟨hk, by rw [e]; exact hb, fun j hj => ?_⟩
        have := hno j l[j] hj (List.getElem?_eq_getElem (by omega))
        rw [this]; simp
      rw [this]
    | false =>
      rw [hb] at hc
      repeat' (first
      | (refine i_indexFlat (d:=14) (enc:=encRf) (z:=x) (hr:=hri) (he:=fun _ => rfl) (hz:=hgk) (k:=?_); intro bt ot hpt)
      | (refine i_loadN (d:=15) hm (hp:=hpt) (k:=?_))
      | (refine m_callv (d:=16) hm (hp:=pm0) (hc:=by exact hc) (k:=?_); clear hm; rintro _ I2 _ _ ⟨rfl, rfl⟩ hle hm)
      | refine op_move (k:=?_)
      | refine op_assign (k:=?_)
      | refine op_lss (k:=?_)
      | refine op_add (k:=?_)
      | refine wl_nil ?_
      | refine at_then_normal ?_
      | refine at_block_normal ?_
      | refine wc_seq ?_
      | refine wc_region ?_
      | refine wc_block ?_
      | refine wc_skip ?_
      | refine wc_cond_false (hf:=?_)
      | (refine wc_cond_dec (ht:=fun _ => ?_) (hf:=fun _ => ?_)<;> (try first | contradiction | (exfalso; omega))))
      all_goals try (exfalso; omega)
      refine at_round (⟨k + 1, I2⟩ : NI) (by exact ⟨rfl, rfl, rfl, rfl, trivial⟩) ⟨hm.left (H := []), hle1.trans hle, by dsimp only; omega, fun j it' hj hg' => ?_⟩ (by dsimp only; omega)
      rcases Nat.lt_or_ge j k with hjk | hjk
      · exact hno j it' hjk hg'
      · obtain rfl : j = k := by dsimp only at hj; omega
        rw [hg] at hg'
        obtain rfl := Option.some.inj hg'
        exact hb
  · obtain rfl : k = l.length := by omega
    repeat' (first
    | refine op_assign (k:=?_)
    | refine op_lss (k:=?_)
    | refine wl_nil ?_
    | refine at_then_normal ?_
    | refine at_then_exit ?_
    | refine at_block_exit ?_
    | refine wc_seq ?_
    | refine wc_region ?_
    | refine wc_exit ?_
    | refine wc_ret ?_
    | refine at_ret1 (h:=?_)
    | (refine wc_cond_dec (ht:=fun _ => ?_) (hf:=fun _ => ?_)<;> (try first | contradiction | (exfalso; omega))))
    all_goals try (exfalso; omega)
    refine ⟨I1, [], ⟨?_, rfl⟩, hm.left (H := [])⟩
    have : l.findIdx? F = none := by
      rw [List.findIdx?_eq_none_iff]
      intro x hx
      obtain ⟨j, hj, rfl⟩ := List.getElem_of_mem hx
      exact hno j _ hj (List.getElem?_eq_getElem hj)
    rw [this]
theorem n_contains (fi : FuncId) [Own Tryd.prog fi] (ca : List Value) (F : Sp.Rf → Bool) (l : List Sp.Rf) (hl : l.length ≤ 1000000000) (I : Imm) (a : Option Addr) (cp : Nat) (hr : RowI I 45 2 (.slice a l.length cp) l.length (l.flatMap encRf))
    (hF : ∀ I', Le I I' → ∀ x, CalM Tryd.prog fi (.agg (encRf x).toArray :: ca).toArray I' [] (fun v _ H' => v = .bool (F x) ∧ H' = [])) :
    CalM Tryd.prog 16 #[.slice a l.length cp, .func (.func fi) #[] ca.toArray] I [] (fun v _ H' => v = .bool (l.any F) ∧ H' = []) := by
  refine CalM.of fun w E hm => enter (N := 9) Tryd.func16 rfl [(0, .slice a l.length cp), (1, .func (.func fi) #[] ca.toArray)] args2 rfl ?_
  have hc := n_idxRef fi ca F l hl I a cp hr hF
  have hany : l.any F = decide (0 ≤ (match l.findIdx? F with | some j => (j : Int) | none => -1)) := by
    cases h : l.findIdx? F with
    | some j =>
      obtain ⟨hj, e, _⟩ := List.findIdx?_eq_some_iff_getElem.1 h
      rw [List.any_eq_true.2 ⟨l[j], List.getElem_mem hj, e⟩]
      exact (decide_eq_true (show (0 : Int) ≤ (j : Int) by omega)).symm
    | none =>
      rw [List.findIdx?_eq_none_iff] at h
      rw [List.any_eq_false.2 (fun x hx => by rw [h x hx]; simp)]
      rfl
  rw [hany]
  generalize (match l.findIdx? F with | some j => (j : Int) | none => -1) = z at hc
  repeat' (first
  | (refine m_call (d:=7) hm (hc:=hc) (k:=?_); clear hm; rintro _ I4 _ _ ⟨rfl, rfl⟩ hle hm; have hleI4 := hle; try simp only [setn] at hm)
  | refine op_move (k:=?_)
  | refine op_assign (k:=?_)
  | refine op_geq (k:=?_)
  | refine wl_nil ?_
  | refine at_then_normal ?_
  | refine wc_seq ?_
  | refine wc_region ?_
  | refine wc_ret ?_
  | refine at_ret1 (h:=?_))
  exact ⟨I4, [], ⟨rfl, rfl⟩, hm.left (H := [])⟩
end Go.Proofs.YtghommdgmglmdaaDoor
end
section
namespace Go.Sp
theorem filt_step {l : List Nm} {k : Nat} {c : Nm} {p : Nm → Bool} (h : l[k]? = some c) : ((l.take (k + 1)).filter p).map diagE = ((l.take k).filter p).map diagE ++ (if p c then [diagE c] else []) := by
  rw [take_succ_get h, List.filter_append, List.map_append]
  cases hp : p c <;> simp [hp]
theorem allE_len {its : List Itm} (i : Nat) : (allE its i).length ≤ (namesE its).length := srt_len (allE_srt its i) (((allsE_end its).2.1.getD i).2.1)
end Go.Sp
namespace Go.Proofs.YtghommdgmglmdaaDoor
open Go.Fw
theorem e_saidC (I : Imm) (b : Nat) (c : List UInt8) (hb : PtrI I b 0 9 [str c]) (x : Sp.Rf) :
    CalM Tryd.prog 17 #[.agg (encRf x).toArray, ptr b] I [] (fun v _ H' => v = .bool (decide (x.name = c)) ∧ H' = []) := by
  refine CalM.of fun w E hm => enter (N := 8) Tryd.func17 rfl [(0, .agg (encRf x).toArray), (1, ptr b)] args2 rfl ?_
  repeat' (first
  | (refine m_box (d:=2) hm (k:=?_); clear hm; intro b2 _ hm)
  | refine m_load1 hm (k:=?_)
  | refine i_load1z hm (k:=?_)
  | refine op_assign (k:=?_)
  | refine op_eql_str (k:=?_)
  | refine op_fieldAddr (k:=?_)
  | refine wl_nil ?_
  | refine at_then_normal ?_
  | refine wc_seq ?_
  | refine wc_region ?_
  | refine wc_ret ?_
  | refine at_ret1 (h:=?_))
  exact ⟨I, [], ⟨rfl, rfl⟩, hm.left (H := [])⟩
theorem tri_at {its : List Sp.Itm} {i : Nat} {T : List (Tri (List UInt8))} (hT : T.map (·.1) = Sp.allsE its) (hi : i < its.length) :
    ∃ a cp, T[i]? = some (Sp.allE its i, a, cp) ∧ (T.map triV)[i]? = some (.slice a (Sp.allE its i).length cp) := by
  have hl : T.length = its.length := by
    have := congrArg List.length hT
    rw [Sp.allsE_len] at this
    simpa using this
  have hg : T[i]? = some T[i] := List.getElem?_eq_getElem (by omega)
  have h1 : Sp.allE its i = T[i].1 := by
    rw [Sp.allE, ← hT, List.getD_eq_getElem?_getD, List.getElem?_map, hg]; rfl
  generalize T[i] = t at hg h1
  obtain ⟨l, a, cp⟩ := t
  dsimp only at h1
  subst h1
  exact ⟨a, cp, hg, by rw [List.getElem?_map, hg]; rfl⟩
structure EdX where
  k : Nat
  I : Imm
  a : Option Addr
  cp : Nat
abbrev dgRw (l : List Sp.Dg) (a : Option Addr) (cp : Nat) : HItem := .row (.slice a l.length cp) 60 4 l.length (l.flatMap encDg)
set_option maxHeartbeats 16000000 in
theorem e_diags {its : List Sp.Itm} (i : Nat) (hi : i < its.length) (I : Imm) (a : Option Addr) (cp : Nat) (xs : List Value) (hfe : FE I its a cp xs) (hsm : ∀ it ∈ its, it.fit ∧ Sp.stmsCnt it.body ≤ 400000000) (hN : (Sp.namesE its).length ≤ 1000000000) :
    CalM Tryd.prog 11 #[.agg [.slice a its.length cp].toArray, nt i] I [] (fun v I' H' => H' = [] ∧ ∃ da dp, v = .slice da (Sp.effD its i).length dp ∧ RowI I' 60 4 (.slice da (Sp.effD its i).length dp) (Sp.effD its i).length ((Sp.effD its i).flatMap encDg)) := by
  refine CalM.of fun w E hm => enter (N := 52) Tryd.func11 rfl [(0, .agg [.slice a its.length cp].toArray), (1, nt i)] args2 rfl ?_
  have hfew := hfe.few
  have hg : its[i]? = some its[i] := List.getElem?_eq_getElem hi
  have hno : Sp.itNo its i = its[i] := by rw [Sp.itNo, List.getD_eq_getElem?_getD, hg]; rfl
  have hss := (hsm _ (List.getElem_mem hi)).1
  repeat' (first
  | refine wc_hold 1 ?_
  | (refine m_box (d:=2) hm (k:=?_); clear hm; intro b2 _ hm)
  | refine op_assign (k:=?_)
  | refine wl_nil ?_
  | refine at_then_normal ?_
  | refine wc_seq ?_
  | refine wc_region ?_)
  all_goals try (exfalso; omega)
  obtain ⟨I1, hle1, hm1, hpf⟩ := hm.freezeO
  clear hm
  have hm := hm1
  clear hm1
  have hfe1 := hfe.le hle1
  obtain ⟨cs, hcs, hat, hl10⟩ := hfe1.get hg
  have hri := hfe1.row
  have hA := e_all (its := its) I1 a cp xs hfe1 hsm hN
  rw [← hno] at hat hss
  have hk2 := fun h => Sp.allE_none (its := its) (i := i) h
  generalize hit : Sp.itNo its i = it at hat hss hk2
  obtain ⟨ap, cp', as_, cs', ab, cb', ad, cd, xb, rfl, _, hsd, _, _, _⟩ := hat
  have hfo : ∀ k : Nat, (0 : Nat) + (k : Int).toNat * 1 = k := fun k => by rw [Int.toNat_natCast]; omega
  refine ⟨?_⟩
  by_cases k2 : it.kind = 2
  · skip
    repeat' (first
    | (refine i_indexAddr (d:=21) (hr:=hri) (k:=?_); intro bt ot hpt; rw [show ((i : Int).toNat * 10) = i * 10 from rfl, hcs] at hpt)
    | refine wc_hold 4 ?_
    | refine i_load1 hm (k:=?_)
    | refine op_move (k:=?_)
    | refine op_assign (k:=?_)
    | refine op_pick_false (k:=?_)
    | refine op_lss (k:=?_)
    | refine op_geq (k:=?_)
    | refine op_neq (k:=?_)
    | refine op_len_slice (k:=?_)
    | refine op_fieldAddr (k:=?_)
    | (refine wl_split_dec (h1:=fun _ => ?_) (h0:=fun _ => ?_)<;> (try first | contradiction | (exfalso; omega)))
    | refine wl_nil ?_
    | refine at_then_normal ?_
    | refine wc_seq ?_
    | refine wc_region ?_
    | refine wc_skip ?_
    | (refine wc_cond_dec (ht:=fun _ => ?_) (hf:=fun _ => ?_)<;> (try first | contradiction | (exfalso; omega))))
    all_goals try (exfalso; omega)
    have hal := Nat.le_trans (Sp.allE_len (its := its) i) hN
    refine ⟨?_⟩
    repeat' (first
    | (refine m_call (d:=27) hm (hp:=pm0) (hc:=hA) (k:=?_); clear hm; rintro _ I2 _ w2 ⟨ob, T, hT, rfl, rfl⟩ hleI2 hm; rw [List.append_nil] at hm; obtain ⟨ta, tc, hti, hcell⟩ := tri_at hT hi)
    | (refine mi_loadRow (i := 0) (d := 30) hm (by rfl) (by rfl) (by rfl) (by rfl) (by rw [hfo]; exact hcell) ?_)
    | refine i_loadN hm (k:=?_)
    | refine op_move (k:=?_)
    | refine op_len_slice (k:=?_)
    | refine op_indexAddr (k:=?_)
    | refine wl_nil ?_
    | refine at_then_normal ?_
    | refine wc_region ?_
    | refine wc_block ?_)
    all_goals try (exfalso; omega)
    obtain ⟨I3, hle3, hm3, hrow⟩ := (hm.front (i + 1) (by rw [List.getElem?_cons_succ, List.getElem?_map, hti]; rfl)).freeze
    clear hm
    have hm := (hm3.left (H := [])).nil 60 4
    clear hm3
    have hle13 : Le I1 I3 := hleI2.trans hle3
    have heD : Sp.effD its i = ((Sp.allE its i).filter (fun c => !Sp.saidE it c)).map Sp.diagE := by rw [Sp.effD, hit]
    generalize Sp.allE its i = al at *
    refine wc_loop (fun x : EdX => [(1, nt i), (2, ptr b2), (5, .slice x.a (((al.take x.k).filter (fun c => !Sp.saidE it c)).map Sp.diagE).length x.cp), (30, .slice ta al.length tc), (31, nt al.length), (32, nt x.k)])
      (fun x w' => Mem E x.I [dgRw (((al.take x.k).filter (fun c => !Sp.saidE it c)).map Sp.diagE) x.a x.cp] w' ∧ Le I3 x.I ∧ x.k ≤ al.length)
      (fun x => al.length - x.k) ⟨0, I3, none, 0⟩ (by exact ⟨rfl, rfl, rfl, rfl, rfl, rfl, trivial⟩) ⟨hm, Le.refl _, Nat.zero_le _⟩ ?_
    clear hm
    rintro ⟨k, I4, da, dp⟩ w4 ⟨hm, hle4, hk⟩
    dsimp only at hm hle4 hk ⊢
    by_cases hlt : k < al.length
    · have hgk : al[k]? = some al[k] := List.getElem?_eq_getElem hlt
      have hst := Sp.filt_step (p := fun c => !Sp.saidE it c) hgk
      have hdl : (((al.take k).filter (fun c => !Sp.saidE it c)).map Sp.diagE).length ≤ 1000000000 := by
        rw [List.length_map]
        refine Nat.le_trans (List.length_filter_le _ _) ?_
        rw [List.length_take]; omega
      generalize al[k] = c at hgk hst
      generalize ((al.take k).filter (fun c => !Sp.saidE it c)).map Sp.diagE = ds at hm hst hdl ⊢
      have hrow4 := hrow.le hle4
      have hri4 := (hri.le hle13).le hle4
      have hpf4 := (hpf.le hle13).le hle4
      repeat' (first
      | (refine i_indexFlat (d:=34) (enc:=encS) (z:=c) (hr:=hrow4) (he:=fun _ => rfl) (hz:=by exact hgk) (k:=?_); intro bz oz hpz)
      | refine wc_hold 7 ?_
      | (refine m_var1 (d:=7) hm (k:=?_); clear hm; intro b7 _ hm)
      | refine i_load1z hm (k:=?_)
      | refine op_lss (k:=?_)
      | refine wl_nil ?_
      | refine at_then_normal ?_
      | refine wc_seq ?_
      | refine wc_region ?_
      | refine wc_block ?_
      | refine wc_skip ?_
      | (refine wc_cond_dec (ht:=fun _ => ?_) (hf:=fun _ => ?_)<;> (try first | contradiction | (exfalso; omega))))
      all_goals try (exfalso; omega)
      obtain ⟨I5, hle5, hm5, hpc⟩ := hm.freezeO
      clear hm
      have hm := hm5
      clear hm5
      have hri5 := hri4.le hle5
      have hpf5 := hpf4.le hle5
      have hsd5 := ((hsd.le hle13).le hle4).le hle5
      have hE := n_contains 17 [ptr b7] (fun x => decide (x.name = c)) it.sends (by have := hss.sends; omega) I5 as_ cs' hsd5 (fun J m x => e_saidC J b7 c (hpc.le m) x)
      rw [show it.sends.any (fun x => decide (x.name = c)) = Sp.saidE it c from rfl] at hE
      refine ⟨?_⟩
      cases hc : Sp.saidE it c with
      | true =>
        rw [hc] at hE hst
        repeat' (first
        | (refine i_indexAddr (d:=39) (hr:=hri5) (k:=?_); intro bt ot hpt; rw [show ((i : Int).toNat * 10) = i * 10 from rfl, hcs] at hpt)
        | (refine m_call (d:=43) hm (hc:=hE) (k:=?_); clear hm; rintro _ I6 _ _ ⟨rfl, rfl⟩ hle hm; have hleI6 := hle; try simp only [setn] at hm)
        | refine i_load1 hm (k:=?_)
        | refine op_move (k:=?_)
        | refine op_not (k:=?_)
        | refine op_makeFunc (k:=?_)
        | refine op_add (k:=?_)
        | refine op_fieldAddr (k:=?_)
        | refine wl_nil ?_
        | refine at_then_normal ?_
        | refine at_block_normal ?_
        | refine wc_region ?_
        | refine wc_skip ?_
        | refine wc_cond_false (hf:=?_))
        all_goals try (exfalso; omega)
        refine at_round (⟨k + 1, I6, da, dp⟩ : EdX) (by dsimp only; rw [hst, if_neg (by simp), List.append_nil]; exact ⟨rfl, rfl, rfl, rfl, rfl, rfl, trivial⟩) ⟨?_, (hle4.trans hle5).trans hleI6, by dsimp only; omega⟩ (by dsimp only; omega)
        dsimp only; rw [hst, if_neg (by simp), List.append_nil]; exact hm
      | false =>
        rw [hc] at hE hst
        repeat' (first
        | (refine i_indexAddr (d:=39) (hr:=hri5) (k:=?_); intro bt ot hpt; rw [show ((i : Int).toNat * 10) = i * 10 from rfl, hcs] at hpt)
        | (refine m_call (d:=43) hm (hc:=hE) (k:=?_); clear hm; rintro _ I6 _ _ ⟨rfl, rfl⟩ hle hm; have hleI6 := hle; try simp only [setn] at hm; replace hpc := hpc.le hleI6)
        | (refine m_push (d:=49) hm (k:=?_); clear hm; intro a49 cp49 _ _ hm; try simp only [setn] at hm)
        | refine i_load1 hm (k:=?_)
        | refine i_load1z hm (k:=?_)
        | refine op_move (k:=?_)
        | refine op_assign (k:=?_)
        | refine op_not (k:=?_)
        | refine op_makeFunc (k:=?_)
        | refine op_add (k:=?_)
        | refine op_fieldAddr (k:=?_)
        | refine op_struct (k:=?_)
        | refine wl_nil ?_
        | refine at_then_normal ?_
        | refine at_block_normal ?_
        | refine wc_region ?_
        | refine wc_cond_true (ht:=?_))
        all_goals try (exfalso; omega)
        rw [if_pos (by simp)] at hst
        refine at_round (⟨k + 1, I6, a49, cp49⟩ : EdX) (by dsimp only; rw [hst, List.length_append]; exact ⟨rfl, rfl, rfl, rfl, rfl, rfl, trivial⟩) ⟨?_, (hle4.trans hle5).trans hleI6, by dsimp only; omega⟩ (by dsimp only; omega)
        dsimp only [dgRw]
        rw [hst, List.flatMap_append, List.length_append]
        exact hm
    · obtain rfl : k = al.length := by omega
      rw [List.take_length, ← heD] at hm
      repeat' (first
      | refine op_move (k:=?_)
      | refine op_assign (k:=?_)
      | refine op_lss (k:=?_)
      | refine wl_nil ?_
      | refine at_then_normal ?_
      | refine at_then_exit ?_
      | refine at_block_exit ?_
      | refine wc_seq ?_
      | refine wc_region ?_
      | refine wc_exit ?_
      | refine wc_ret ?_
      | refine at_ret1 (h:=?_)
      | (refine wc_cond_dec (ht:=fun _ => ?_) (hf:=fun _ => ?_)<;> (try first | contradiction | (exfalso; omega))))
      all_goals try (exfalso; omega)
      rw [List.take_length, ← heD]
      obtain ⟨I5, hle5, hm5, hr5⟩ := hm.freeze
      exact ⟨I5, [], ⟨rfl, da, dp, rfl, hr5⟩, hm5⟩
  · skip
    repeat' (first
    | (refine i_indexAddr (d:=21) (hr:=hri) (k:=?_); intro bt ot hpt; rw [show ((i : Int).toNat * 10) = i * 10 from rfl, hcs] at hpt)
    | refine i_load1 hm (k:=?_)
    | refine op_move (k:=?_)
    | refine op_assign (k:=?_)
    | refine op_pick_false (k:=?_)
    | refine op_lss (k:=?_)
    | refine op_geq (k:=?_)
    | refine op_neq (k:=?_)
    | refine op_len_slice (k:=?_)
    | refine op_fieldAddr (k:=?_)
    | (refine wl_split_dec (h1:=fun _ => ?_) (h0:=fun _ => ?_)<;> (try first | contradiction | (exfalso; omega)))
    | refine wl_nil ?_
    | refine at_then_normal ?_
    | refine at_then_ret ?_
    | refine wc_seq ?_
    | refine wc_region ?_
    | refine wc_ret ?_
    | refine at_ret1 (h:=?_)
    | (refine wc_cond_dec (ht:=fun _ => ?_) (hf:=fun _ => ?_)<;> (try first | contradiction | (exfalso; omega))))
    all_goals try (exfalso; omega)
    have he : Sp.effD its i = [] := by rw [Sp.effD, hk2 k2]; rfl
    rw [he]
    obtain ⟨I4, hle4, hm4, hrow⟩ := (hm.nil 60 4).freeze
    exact ⟨I4, [], ⟨rfl, none, 0, rfl, hrow⟩, hm4.left (H := [])⟩
end Go.Proofs.YtghommdgmglmdaaDoor
end
section
namespace Go.Sp
/-- the same items, but for what they say. -/
structure SameB (its jts : List Itm) : Prop where
  len : jts.length = its.length
  kind : ∀ k, (itNo jts k).kind = (itNo its k).kind
  body : ∀ k, (itNo jts k).body = (itNo its k).body
  find : ∀ n, findIt jts 2 n = findIt its 2 n
theorem SameB.init {its jts : List Itm} (h : SameB its jts) (k : Nat) : initE jts k = initE its k := by
  rw [initE, initE, ownE, ownE, h.kind, h.body]
theorem SameB.calls {its jts : List Itm} (h : SameB its jts) (k : Nat) : callsE jts k = callsE its k := by
  have hf : findsE jts = findsE its := by
    funext l
    rw [findsE, findsE, show findIt jts 2 = findIt its 2 from funext h.find]
  rw [callsE, callsE, ownE, ownE, h.kind, h.body, hf]
theorem SameB.inits {its jts : List Itm} (h : SameB its jts) : initsE jts = initsE its := by
  rw [initsE, initsE, h.len, show initE jts = initE its from funext h.init]
theorem SameB.round {its jts : List Itm} (h : SameB its jts) : roundE jts = roundE its := by
  have hs : stepE jts = stepE its := by
    funext r i
    rw [stepE, stepE, rowE, rowE, h.calls]
  funext r
  rw [roundE, roundE, h.len, hs]
theorem SameB.iter {its jts : List Itm} (h : SameB its jts) : ∀ (n : Nat) (r : List (List Nm)), iterE jts n r = iterE its n r
  | 0, r => rfl
  | n + 1, r => by rw [iterE, iterE, h.round, h.iter n]
theorem SameB.alls {its jts : List Itm} (h : SameB its jts) : allsE jts = allsE its := by
  rw [allsE, allsE, namesE, namesE, h.inits, h.len, h.iter]
theorem SameB.names {its jts : List Itm} (h : SameB its jts) : namesE jts = namesE its := by rw [namesE, namesE, h.inits]
theorem SameB.all {its jts : List Itm} (h : SameB its jts) (i : Nat) : allE jts i = allE its i := by rw [allE, allE, h.alls]
theorem findIdx_map {α : Type} {p : α → Bool} : ∀ {l m : List α}, l.map p = m.map p → l.findIdx? p = m.findIdx? p
  | [], [], _ => rfl
  | [], _ :: _, h => by cases h
  | _ :: _, [], h => by cases h
  | a :: l, b :: m, h => by
    simp only [List.map_cons, List.cons.injEq] at h
    rw [List.findIdx?_cons, List.findIdx?_cons, h.1, findIdx_map h.2]
/-- an item that says other things. -/
theorem SameB.set {its : List Itm} {i : Nat} {it : Itm} (hg : its[i]? = some it) (l : List Rf) : SameB its (its.set i { it with sends := l }) := by
  have hi := (List.getElem?_eq_some_iff.1 hg).1
  have key : ∀ k, itNo (its.set i { it with sends := l }) k = if i = k then { it with sends := l } else itNo its k := fun k => by
    by_cases e : i = k
    · subst e
      rw [if_pos rfl, itNo, List.getD_eq_getElem?_getD, List.getElem?_set_self hi]; rfl
    · rw [if_neg e, itNo, itNo, List.getD_eq_getElem?_getD, List.getD_eq_getElem?_getD, List.getElem?_set_ne e]
  have hit : itNo its i = it := by rw [itNo, List.getD_eq_getElem?_getD, hg]; rfl
  refine ⟨by rw [List.length_set], fun k => ?_, fun k => ?_, fun n => ?_⟩
  · rw [key]; split
    · rename_i e; subst e; rw [hit]
    · rfl
  · rw [key]; split
    · rename_i e; subst e; rw [hit]
    · rfl
  · rw [findIt, findIt]
    refine findIdx_map ?_
    apply List.ext_getElem?
    intro k
    rw [List.getElem?_map, List.getElem?_map, List.getElem?_set]
    by_cases e : i = k
    · subst e
      rw [if_pos rfl, if_pos hi, hg]; rfl
    · rw [if_neg e]
theorem set_no {its : List Itm} {i : Nat} {it : Itm} (hg : its[i]? = some it) (l : List Rf) : itNo (its.set i { it with sends := l }) i = { it with sends := l } := by
  rw [itNo, List.getD_eq_getElem?_getD, List.getElem?_set_self (List.getElem?_eq_some_iff.1 hg).1]; rfl
/-- who says all is told nothing. -/
theorem effD_said {its : List Itm} {i : Nat} (h : ∀ c ∈ allE its i, saidE (itNo its i) c = true) : effD its i = [] := by
  rw [effD, List.filter_eq_nil_iff.2 (fun c hc => by rw [h c hc]; simp)]; rfl
theorem said_map {l : List Nm} {c : Nm} (h : c ∈ l) (it : Itm) : saidE { it with sends := l.map (fun n => (⟨n, 0⟩ : Rf)) } c = true := by
  rw [saidE, List.any_eq_true]
  exact ⟨⟨c, 0⟩, List.mem_map.2 ⟨c, h, rfl⟩, by simp⟩
/-- one step: what it itself sends to, and what those may that it calls. -/
theorem allE_next {its : List Itm} {i : Nat} (hi : i < its.length) (x : Nm) : x ∈ allE its i ↔ x ∈ initE its i ∨ ∃ k ∈ callsE its i, x ∈ allE its k := by
  constructor
  · intro h
    obtain ⟨k, hk, hx⟩ := (allE_mem hi x).1 h
    cases hk with
    | refl => exact .inl hx
    | step h1 r => exact .inr ⟨_, h1, (allE_mem (callsE_lt h1).1 x).2 ⟨k, r, hx⟩⟩
  · rintro (h | ⟨k, hk, hx⟩)
    · exact (allE_mem hi x).2 ⟨i, .refl i, h⟩
    · exact allE_closed hk hx
/-- what is wanted, as far as calls were looked at. -/
def wantE (its : List Itm) (a : List Nm) (l : List Nm) : List Nm := (findsE its l).foldl (fun c k => joinE c (allE its k)) a
theorem wantE_snoc (its : List Itm) (a l : List Nm) (n : Nm) : wantE its a (l ++ [n]) = match findIt its 2 n with
    | some k => joinE (wantE its a l) (allE its k)
    | none => wantE its a l := by
  rw [wantE, findsE, List.filterMap_append, List.foldl_append, wantE, findsE]
  cases hf : findIt its 2 n <;> simp [hf]
theorem foldj_mem (its : List Itm) : ∀ (l : List Nat) (a : List Nm), Srt a → Srt (l.foldl (fun c k => joinE c (allE its k)) a) ∧ ∀ x, x ∈ l.foldl (fun c k => joinE c (allE its k)) a ↔ x ∈ a ∨ ∃ k ∈ l, x ∈ allE its k
  | [], a, h => ⟨h, fun x => by simp⟩
  | k :: l, a, h => by
    rw [List.foldl_cons]
    obtain ⟨h1, h2⟩ := foldj_mem its l (joinE a (allE its k)) (joinE_srt _ h)
    refine ⟨h1, fun x => ?_⟩
    rw [h2, joinE_mem]
    constructor
    · rintro ((h | h) | ⟨j, hj, h⟩)
      · exact .inl h
      · exact .inr ⟨k, List.mem_cons_self, h.1⟩
      · exact .inr ⟨j, List.mem_cons_of_mem _ hj, h⟩
    · rintro (h | ⟨j, hj, h⟩)
      · exact .inl (.inl h)
      · rcases List.mem_cons.1 hj with rfl | hj
        · exact .inl (.inr ⟨h, fun e => allE_ne its j (e ▸ h)⟩)
        · exact .inr ⟨j, hj, h⟩
theorem wantE_all {its : List Itm} {i : Nat} (hi : i < its.length) (hk : (itNo its i).kind = 2) : wantE its (ownE (itNo its i)).1 (ownE (itNo its i)).2 = allE its i := by
  obtain ⟨h1, h2⟩ := foldj_mem its (findsE its (ownE (itNo its i)).2) (ownE (itNo its i)).1 (ownE_srt _).1
  refine srt_ext h1 (allE_srt its i) (fun x => ?_)
  rw [allE_next hi, callsE, if_pos hk, initE, if_pos hk]
  exact h2 x
end Go.Sp
end
section
namespace Go.Sp
theorem flat_len {α : Type} {c : Nat} : ∀ (L : List (List α)), (∀ a ∈ L, a.length ≤ c) → L.flatten.length ≤ L.length * c
  | [], _ => by simp
  | a :: L, h => by
    have h1 := h a List.mem_cons_self
    have h2 := flat_len L (fun b hb => h b (List.mem_cons_of_mem _ hb))
    rw [List.flatten_cons, List.length_append, List.length_cons, Nat.add_mul]; omega
theorem file_eff (s : List UInt8) : (∀ x ∈ fileItems s, x.small ∧ stmsCnt x.body ≤ 32000) ∧ (fileItems s).length ≤ 30 := by
  by_cases h0 : fileErr s = 0
  · have hl : s.length ≤ 4000 ∧ (cuts s).length ≤ 30 := by
      rw [fileErr] at h0
      split at h0
      · cases h0
      · split at h0
        · cases h0
        · omega
    rw [fileItems, if_pos h0]
    refine ⟨fun x hx => ?_, by simp [items, hl.2]⟩
    obtain ⟨j, _, rfl⟩ := List.mem_map.1 hx
    have hp : (piece s (cuts s) j).length ≤ 4000 := by rw [piece, List.length_take, List.length_drop]; omega
    have hc := item_cnt (piece s (cuts s) j) ((cuts s).getD j 0)
    exact ⟨item_small _ _ (by omega), by rw [itemAt]; omega⟩
  · rw [fileItems, if_neg h0]
    exact ⟨fun x hx => (by cases hx), Nat.zero_le _⟩
theorem names_len {its : List Itm} (h : ∀ x ∈ its, x.small ∧ stmsCnt x.body ≤ 32000) (h2 : its.length ≤ 30) : (namesE its).length ≤ 960000 := by
  have h3 := flat_len (c := 32000) (initsE its) (fun a ha => by
    obtain ⟨j, hj, rfl⟩ := List.mem_map.1 ha
    rw [initE]
    split
    · have h4 := ownE_len (itNo its j)
      have h5 := (h (itNo its j) (by rw [itNo, List.getD_eq_getElem?_getD, List.getElem?_eq_getElem (List.mem_range.1 hj)]; exact List.getElem_mem (List.mem_range.1 hj))).2
      omega
    · exact Nat.zero_le _)
  rw [initsE_len] at h3
  have : its.length * 32000 ≤ 30 * 32000 := Nat.mul_le_mul_right _ h2
  exact Nat.le_trans h3 (by omega)
end Go.Sp
namespace Go.Proofs.YtghommdgmglmdaaDoor
open Go.Fw
theorem triS_freeze {E : Ent} {w : World} : ∀ (T : List (Tri (List UInt8))) {I : Imm} {R : List HItem}, Mem E I (T.map triS ++ R) w → ∃ J, Le I J ∧ Mem E J R w ∧ ∀ t ∈ T, RowI J 9 1 (.slice t.2.1 t.1.length t.2.2) t.1.length (t.1.flatMap encS)
  | [], I, R, hm => ⟨I, Le.refl _, hm, fun _ h => (by cases h)⟩
  | t :: T, I, R, hm => by
    obtain ⟨I1, l1, m1, r1⟩ := Mem.freeze (H := T.map triS ++ R) hm
    obtain ⟨I2, l2, m2, r2⟩ := triS_freeze T m1
    refine ⟨I2, l1.trans l2, m2, fun u hu => ?_⟩
    rcases List.mem_cons.1 hu with rfl | hu
    · exact r1.le l2
    · exact r2 u hu
end Go.Proofs.YtghommdgmglmdaaDoor
namespace Go.Proofs.YtghommdgmglmdaaDoor
open Go.Fw
theorem ItsAt.say {I : Imm} {l : List Sp.Rf} {sa : Option Addr} {sp : Nat} (hr : RowI I 45 2 (.slice sa l.length sp) l.length (l.flatMap encRf)) :
    ∀ {es : List Sp.Itm} {xs : List Value} {i : Nat} {it : Sp.Itm}, ItsAt I es xs → es[i]? = some it → ItsAt I (es.set i { it with sends := l }) (xs.set (i * 10 + 4) (.slice sa l.length sp))
  | [], _, _, _, _, he => by simp at he
  | a :: es, xs, 0, it, h, he => by
    obtain ⟨c, r, rfl, h2, h3⟩ := h
    simp only [List.getElem?_cons_zero, Option.some.injEq] at he
    subst he
    obtain ⟨ap, cp, as_, cs', ab, cb, ad, cd, xb, rfl, h5, h6, h7, h8, h9⟩ := h2
    exact ⟨_, r, rfl, ⟨ap, cp, sa, sp, ab, cb, ad, cd, xb, rfl, h5, hr, h7, h8, h9⟩, h3⟩
  | a :: es, xs, i + 1, it, h, he => by
    obtain ⟨c, r, rfl, h2, h3⟩ := h
    rw [List.getElem?_cons_succ] at he
    have hl := h2.len
    refine ⟨c, r.set (i * 10 + 4) (.slice sa l.length sp), ?_, h2, h3.say hr he⟩
    rw [show (i + 1) * 10 + 4 = 10 + (i * 10 + 4) by omega, List.set_append, if_neg (by omega), hl, show 10 + (i * 10 + 4) - 10 = i * 10 + 4 by omega]
theorem its_oneE {I : Imm} : ∀ {its : List Sp.Itm} {xs : List Value}, ItsAt I its xs → ∀ u ∈ xs, u.oneCell' = true
  | [], xs, h => by obtain rfl : xs = [] := h; intro u hu; cases hu
  | it :: its, xs, ⟨c, r, e1, h1, h2⟩ => by
    obtain ⟨ap, cp, as_, cs', ab, cb, ad, cd, xb, rfl, _⟩ := h1
    intro u hu
    rw [e1] at hu
    rcases List.mem_append.1 hu with hu | hu
    · have : (itCells it.kind it.name it.label (.slice ap it.params.length cp) (.slice as_ it.sends.length cs') (.slice ab it.body.length cb) it.at_ it.size it.mark (.slice ad it.diags.length cd)).all (·.oneCell') = true := rfl
      exact List.all_eq_true.1 this u hu
    · exact its_oneE h2 u hu
theorem it_fit_say {it : Sp.Itm} (h : it.fit) {l : List Sp.Rf} (hl : l.length ≤ 1000000000) : ({ it with sends := l } : Sp.Itm).fit := ⟨hl, h.body, h.stms⟩
end Go.Proofs.YtghommdgmglmdaaDoor
end
section
namespace Go.Proofs.YtghommdgmglmdaaDoor
open Go.Fw
structure SmX where
  k : Nat
  I : Imm
theorem s_texts (l : List (List UInt8)) (hl : l.length ≤ 1000000000) (I : Imm) (a b : Option Addr) (c d : Nat) (ha : RowI I 9 1 (.slice a l.length c) l.length (l.flatMap encS)) (hb : RowI I 9 1 (.slice b l.length d) l.length (l.flatMap encS)) :
    CalM Tryd.prog 9 #[.slice a l.length c, .slice b l.length d] I [] (fun v _ H' => v = .bool true ∧ H' = []) := by
  refine CalM.of fun w E hm => enter (N := 26) Tryd.func9 rfl [(0, .slice a l.length c), (1, .slice b l.length d)] args2 rfl ?_
  repeat' (first
  | refine op_move (k:=?_)
  | refine op_assign (k:=?_)
  | refine op_neq (k:=?_)
  | refine op_len_slice (k:=?_)
  | refine wl_nil ?_
  | refine at_then_normal ?_
  | refine wc_seq ?_
  | refine wc_region ?_
  | refine wc_block ?_
  | refine wc_skip ?_
  | (refine wc_cond_dec (ht:=fun _ => ?_) (hf:=fun _ => ?_)<;> (try first | contradiction | (exfalso; omega))))
  all_goals try (exfalso; first | omega | contradiction)
  refine wc_loop (fun x : SmX => [(0, .slice a l.length c), (1, .slice b l.length d), (12, nt l.length), (13, nt x.k)])
    (fun x w' => Mem E x.I [] w' ∧ Le I x.I ∧ x.k ≤ l.length) (fun x => l.length - x.k) ⟨0, I⟩ (by exact ⟨rfl, rfl, rfl, rfl, trivial⟩) ⟨hm, Le.refl _, Nat.zero_le _⟩ ?_
  clear hm
  rintro ⟨k, I1⟩ w1 ⟨hm, hle1, hk⟩
  dsimp only at hm hle1 hk ⊢
  by_cases hlt : k < l.length
  · have hg : l[k]? = some l[k] := List.getElem?_eq_getElem hlt
    generalize l[k] = s at hg
    have ha1 := ha.le hle1
    have hb1 := hb.le hle1
    repeat' (first
    | (refine iq_indexFlat (d:=18) (enc:=encS) (z:=s) (hr:=ha1) (he:=fun _ => rfl) (hz:=by exact hg) (k:=?_); intro b1 o1 p1)
    | (refine iq_indexFlat (d:=22) (enc:=encS) (z:=s) (hr:=hb1) (he:=fun _ => rfl) (hz:=by exact hg) (k:=?_); intro b2 o2 p2)
    | refine iq_load1z hm (k:=?_)
    | refine op_move (k:=?_)
    | refine op_assign (k:=?_)
    | refine op_lss (k:=?_)
    | refine op_add (k:=?_)
    | refine wl_nil ?_
    | refine at_then_normal ?_
    | refine at_block_normal ?_
    | refine wc_seq ?_
    | refine wc_region ?_
    | refine wc_block ?_
    | refine wc_skip ?_
    | refine wc_quiet (h:=?_)
    | (refine wq_nil ?_; intro _ hkq; replace hm := hm.kept0 hkq; clear hkq)
    | (refine wc_cond_dec (ht:=fun _ => ?_) (hf:=fun _ => ?_)<;> (try first | contradiction | (exfalso; omega)))
    | refine q_move (k:=?_)
    | refine q_neq_str (k:=?_))
    all_goals try (exfalso; first | omega | contradiction)
    exact at_round (⟨k + 1, I1⟩ : SmX) (by exact ⟨rfl, rfl, rfl, rfl, trivial⟩) ⟨hm, hle1, by dsimp only; omega⟩ (by dsimp only; omega)
  · obtain rfl : k = l.length := by omega
    repeat' (first
    | refine op_assign (k:=?_)
    | refine op_lss (k:=?_)
    | refine wl_nil ?_
    | refine at_then_normal ?_
    | refine at_then_exit ?_
    | refine at_block_exit ?_
    | refine wc_seq ?_
    | refine wc_region ?_
    | refine wc_exit ?_
    | refine wc_ret ?_
    | refine at_ret1 (h:=?_)
    | (refine wc_cond_dec (ht:=fun _ => ?_) (hf:=fun _ => ?_)<;> (try first | contradiction | (exfalso; omega))))
    all_goals try (exfalso; first | omega | contradiction)
    exact ⟨I1, [], ⟨rfl, rfl⟩, hm⟩
end Go.Proofs.YtghommdgmglmdaaDoor
end
section
namespace Go.Fw
open Go
def mput (es : Ents) (s : List UInt8) (v : Value) : Ents := match es.findIdx? (fun p => decide (p.1 = s)) with
  | some i => es.set i (s, v)
  | none => es ++ [(s, v)]
theorem ents_modify (es : Ents) (i : Nat) (s : List UInt8) (v : Value) : (entsOf es 0).toArray.modify i (fun e => { e with key := str s, val := v }) = (entsOf (es.set i (s, v)) 0).toArray := by
  apply Array.ext_getElem?
  intro j
  rw [Array.getElem?_modify]
  simp only [entsOf, List.getElem?_toArray, List.getElem?_map, List.getElem?_zipIdx, List.getElem?_set]
  by_cases h : i = j
  · subst h
    rw [if_pos rfl, if_pos rfl]
    by_cases h2 : i < es.length
    · rw [if_pos h2, List.getElem?_eq_getElem h2]; rfl
    · rw [if_neg h2, List.getElem?_eq_none (by omega)]; rfl
  · rw [if_neg h, if_neg h]
theorem mput_mem {es : Ents} {s : List UInt8} {v : Value} {p : List UInt8 × Value} (h : p ∈ mput es s v) : p ∈ es ∨ p = (s, v) := by
  rw [mput] at h
  split at h
  · rcases List.mem_or_eq_of_mem_set h with h | h
    · exact .inl h
    · exact .inr h
  · rcases List.mem_append.1 h with h | h
    · exact .inl h
    · exact .inr (List.mem_singleton.1 h)
theorem mput_keys {es : Ents} {s : List UInt8} {v : Value} (u : List UInt8) : u ∈ (mput es s v).map (·.1) ↔ u ∈ es.map (·.1) ∨ u = s := by
  rw [mput]
  cases hf : es.findIdx? (fun p => decide (p.1 = s)) with
  | some i =>
    obtain ⟨hi, hs, _⟩ := List.findIdx?_eq_some_iff_getElem.1 hf
    have hs' : es[i].1 = s := by simpa using hs
    have : (es.set i (s, v)).map (·.1) = es.map (·.1) := by
      apply List.ext_getElem?
      intro j
      simp only [List.getElem?_map, List.getElem?_set]
      split
      · rename_i h
        subst h
        rw [List.getElem?_eq_getElem hi]
        simp [hs']
      · rfl
    dsimp only
    rw [this]
    constructor
    · exact .inl
    · rintro (h | h)
      · exact h
      · subst h; rw [← hs']; exact List.mem_map_of_mem (List.getElem_mem hi)
  | none => simp
theorem mput_nodup {es : Ents} {s : List UInt8} {v : Value} (h : (es.map (·.1)).Nodup) : ((mput es s v).map (·.1)).Nodup := by
  rw [mput]
  cases hf : es.findIdx? (fun p => decide (p.1 = s)) with
  | some i =>
    obtain ⟨hi, hs, _⟩ := List.findIdx?_eq_some_iff_getElem.1 hf
    have hs' : es[i].1 = s := by simpa using hs
    have : (es.set i (s, v)).map (·.1) = es.map (·.1) := by
      apply List.ext_getElem?
      intro j
      simp only [List.getElem?_map, List.getElem?_set]
      split
      · rename_i h
        subst h
        rw [List.getElem?_eq_getElem hi]
        simp [hs']
      · rfl
    dsimp only
    rw [this]
    exact h
  | none =>
    dsimp only
    rw [List.map_append, List.nodup_append]
    refine ⟨h, by simp, fun a h1 b h2 => ?_⟩
    simp only [List.map_cons, List.map_nil, List.mem_singleton] at h2
    subst h2
    rintro rfl
    obtain ⟨p, hp, hps⟩ := List.mem_map.1 h1
    have := List.findIdx?_eq_none_iff.1 hf p hp
    simp [hps] at this
section
variable {P : Program} {N : Nat} {ds : List Deferred} {Q : Exit → Act → World → Prop} {l : Log} {w : World} {ops : Array Oper} {os : List Oper}
variable {d : Nat} {ty : TypeId} {pos : String} {af : Array Edge} {g : Option (Nat × Bool)} {t t' : TypeId} {x y z : Operand} {E : Ent} {I : Imm} {H : List HItem}
theorem m_put {kt et : TypeId} [TyMap P t kt et] [TyStr P kt] {i b : Nat} {es : Ents} {s : List UInt8} {v : Value} {dst : Option Nat} (hm : Mem E I H w) (hd : dst = none) (hw : want ops l ⟨dst, .insert t x y z, ty, pos, af, g⟩ = some true)
    (hx : ev l x = some (.map (some b))) (hy : ev l y = some (str s)) (hz : ev l z = some v) (hi : H[i]? = some (.mp b es)) (hn : (es.map (·.1)).Nodup)
    (k : ∀ w', Mem E I (H.set i (.mp b (mput es s v))) w' → WL P N ds ops Q os l w') :
    WL P N ds ops Q (⟨dst, .insert t x y z, ty, pos, af, g⟩ :: os) l w := by
  cases hf : es.findIdx? (fun p => decide (p.1 = s)) with
  | none =>
    have hs : (es.map (·.1)).contains s = false := by
      rw [← Bool.not_eq_true, List.contains_iff_mem]
      intro h1
      obtain ⟨p, hp, hps⟩ := List.mem_map.1 h1
      have := List.findIdx?_eq_none_iff.1 hf p hp
      simp [hps] at this
    have e : mput es s v = es ++ [(s, v)] := by rw [mput, hf]
    rw [e] at k
    exact m_insertNew hm hd hw hx hy hz hi hn hs k
  | some j =>
    obtain ⟨hj, hsj, _⟩ := List.findIdx?_eq_some_iff_getElem.1 hf
    have hsj' : es[j].1 = s := by simpa using hsj
    have e : mput es s v = es.set j (s, v) := by rw [mput, hf]
    rw [e] at k
    have hget := hm.get hi
    subst hd
    refine wl_op hw fun a ha => ?_
    have h1 := run_underlying (P := P) (w := w) (TyMap.out (P := P) (t := t))
    have hk := TyStr.out (P := P) (t := kt)
    have h2 := run_findKey (P := P) (w := w) hk s es 0
    have h3 := run_checkKey (P := P) (w := w) hk s false
    have h4 := MapKept.run_getObj_map (P := P) hget
    rw [hf] at h2
    have hg : es[j]? = some es[j] := List.getElem?_eq_getElem hj
    simp only [Option.bind_some, hg, Option.map_some, Nat.zero_add] at h2
    have h5 := fun o' => MapKept.run_setObj_map (P := P) o' hget
    have hkey : (entsOf es 0).toArray[j]? = some { key := str s, val := es[j].2, born := j } := by
      simp [entsOf, List.getElem?_zipIdx, hg, hsj']
    have h6 : (Instr.keyThatStays (str s) (str s)).run P w = .ok (str s) w := by
      have : Instr.sameBits 10000 (str s) (str s) = true := (MapKept.bytes_beq _ _).2 rfl
      simp [Instr.keyThatStays, this]
    have hb := lt_of_heap hget
    have hkept : Kept [b] w { w with heap := w.heap.setIfInBounds b (.map ((entsOf es 0).toArray.modify j (fun e => { e with key := str s, val := v })) es.length) } :=
      ⟨rfl, rfl, rfl, by simp, fun i hi hx => by
        have : b ≠ i := by rintro rfl; simp at hx
        simp [Array.getElem?_setIfInBounds_ne this]⟩
    have hm' := hm.turn (h' := .mp b (es.set j (s, v))) hi (by simpa [HItem.blk] using hkept) (by
      show HItem.ok _ _
      have e2 := ents_modify es j s v
      simp only [HItem.ok, ← e2, List.length_set]
      simp [hb]) (.inl rfl)
    have h7 := (k _ hm').run _ ha
    simp only [Oper.wp, execOp, Instr.mapUpdate, ha.ev hx, ha.ev hy, ha.ev hz, Sem.run_bind, h1, Result.andThen_ok, h4, h3, h2, hkey, Option.map_some, Option.getD_some, h6, h5, Oper.upon_skip, Act.put, Sem.run_pure]
    simpa only [List.modify_toArray] using h7
theorem wl_mapUpdate {dst : Option Nat} (h : WL P N ds ops Q (⟨dst, .insert t x y z, ty, pos, af, g⟩ :: os) l w) : WL P N ds ops Q (⟨dst, .mapUpdate t x y z, ty, pos, af, g⟩ :: os) l w := ⟨fun a ha => h.run a ha⟩
end
end Go.Fw
end
