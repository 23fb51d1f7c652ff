/- Own work: texts NsR, EfD, ReA, FwMap2, FwMap3, FwTyM, one behind the other. -/
import Derived.Test.YtjfkjpbkmpofkaaEt14
import Derived.Maps.RangeRun
section
namespace Go.Proofs.Ytjfkjpbkmpofkaa
open Go.Fw
theorem n_idxRef (fi : FuncId) [Own Try.prog fi] (ca : List Value) (F : Sp.Rf → Bool) (l : List Sp.Rf) (hl : l.length ≤ 64) (I : Imm) (a : Option Addr) (cp : Nat) (hr : RowI I 85 2 (.slice a l.length cp) l.length (l.flatMap encRf))
    (hF : ∀ I', Le I I' → ∀ x, CalM Try.prog fi (.agg (encRf x).toArray :: ca).toArray I' [] (fun v _ H' => v = .bool (F x) ∧ H' = [])) :
    CalM Try.prog 59 #[.slice a l.length cp, .func (.func fi) #[] ca.toArray] I [] (fun v _ H' => v = .int .i64 (match l.findIdx? F with | some j => (j : Int) | none => -1) ∧ H' = []) := by
  refine CalM.of fun w E hm => enter (N := 19) Try.func59 rfl [(0, .slice a l.length cp), (1, .func (.func fi) #[] ca.toArray)] args2 rfl ?_
  repeat' (first
  | refine op_move (k:=?_)
  | refine op_assign (k:=?_)
  | refine op_len_slice (k:=?_)
  | refine wl_nil ?_
  | refine at_then_normal ?_
  | refine wc_seq ?_
  | refine wc_region ?_
  | refine wc_block ?_)
  refine wc_loop (fun x : NI => [(0, .slice a l.length cp), (1, .func (.func fi) #[] ca.toArray), (7, nt l.length), (8, nt x.k)])
    (fun x w' => Mem E x.I [] w' ∧ Le I x.I ∧ x.k ≤ l.length ∧ ∀ j it', j < x.k → l[j]? = some it' → F it' = false) (fun x => l.length - x.k) ⟨0, I⟩ (by exact ⟨rfl, rfl, rfl, rfl, trivial⟩) ⟨hm, Le.refl _, Nat.zero_le _, fun j _ hj => absurd hj (Nat.not_lt_zero j)⟩ ?_
  clear hm
  rintro ⟨k, I1⟩ w1 ⟨hm, hle1, hk, hno⟩
  dsimp only at hm hle1 hk hno ⊢
  by_cases hlt : k < l.length
  · have hg : l[k]? = some l[k] := List.getElem?_eq_getElem hlt
    have hri := hr.le hle1
    have hc := hF I1 hle1 l[k]
    have hgk : l[((k : Nat) : Int).toNat]? = some l[k] := hg
    generalize l[k] = x at hg hc hgk
    cases hb : F x with
    | true =>
      rw [hb] at hc
      repeat' (first
      | (refine i_indexFlat (d:=14) (enc:=encRf) (z:=x) (hr:=hri) (he:=fun _ => rfl) (hz:=hgk) (k:=?_); intro bt ot hpt)
      | (refine i_loadN (d:=15) hm (hp:=hpt) (k:=?_))
      | (refine m_callv (d:=16) hm (hp:=pm0) (hc:=by exact hc) (k:=?_); clear hm; rintro _ I2 _ _ ⟨rfl, rfl⟩ hle hm)
      | refine op_move (k:=?_)
      | refine op_assign (k:=?_)
      | refine op_lss (k:=?_)
      | refine wl_nil ?_
      | refine at_then_normal ?_
      | refine at_then_ret ?_
      | refine at_block_ret ?_
      | refine wc_seq ?_
      | refine wc_region ?_
      | refine wc_block ?_
      | refine wc_skip ?_
      | refine wc_ret ?_
      | refine at_ret1 (h:=?_)
      | refine wc_cond_true (ht:=?_)
      | (refine wc_cond_dec (ht:=fun _ => ?_) (hf:=fun _ => ?_)<;> (try first | contradiction | (exfalso; omega))))
      all_goals try (exfalso; omega)
      refine ⟨I2, [], ⟨?_, rfl⟩, hm.left (H := [])⟩
      have : l.findIdx? F = some k := by
        rw [List.findIdx?_eq_some_iff_getElem]
        obtain ⟨hk, e⟩ := List.getElem?_eq_some_iff.1 hg
        refine ⟨hk, by rw [e]; exact hb, fun j hj => ?_⟩
        have := hno j l[j] hj (List.getElem?_eq_getElem (by omega))
        rw [this]; simp
      rw [this]
    | false =>
      rw [hb] at hc
      repeat' (first
      | (refine i_indexFlat (d:=14) (enc:=encRf) (z:=x) (hr:=hri) (he:=fun _ => rfl) (hz:=hgk) (k:=?_); intro bt ot hpt)
      | (refine i_loadN (d:=15) hm (hp:=hpt) (k:=?_))
      | (refine m_callv (d:=16) hm (hp:=pm0) (hc:=by exact hc) (k:=?_); clear hm; rintro _ I2 _ _ ⟨rfl, rfl⟩ hle hm)
      | refine op_move (k:=?_)
      | refine op_assign (k:=?_)
      | refine op_lss (k:=?_)
      | refine op_add (k:=?_)
      | refine wl_nil ?_
      | refine at_then_normal ?_
      | refine at_block_normal ?_
      | refine wc_seq ?_
      | refine wc_region ?_
      | refine wc_block ?_
      | refine wc_skip ?_
      | refine wc_cond_false (hf:=?_)
      | (refine wc_cond_dec (ht:=fun _ => ?_) (hf:=fun _ => ?_)<;> (try first | contradiction | (exfalso; omega))))
      all_goals try (exfalso; omega)
      refine at_round (⟨k + 1, I2⟩ : NI) (by exact ⟨rfl, rfl, rfl, rfl, trivial⟩) ⟨hm.left (H := []), hle1.trans hle, by dsimp only; omega, fun j it' hj hg' => ?_⟩ (by dsimp only; omega)
      rcases Nat.lt_or_ge j k with hjk | hjk
      · exact hno j it' hjk hg'
      · obtain rfl : j = k := by dsimp only at hj; omega
        rw [hg] at hg'
        obtain rfl := Option.some.inj hg'
        exact hb
  · obtain rfl : k = l.length := by omega
    repeat' (first
    | refine op_assign (k:=?_)
    | refine op_lss (k:=?_)
    | refine wl_nil ?_
    | refine at_then_normal ?_
    | refine at_then_exit ?_
    | refine at_block_exit ?_
    | refine wc_seq ?_
    | refine wc_region ?_
    | refine wc_exit ?_
    | refine wc_ret ?_
    | refine at_ret1 (h:=?_)
    | (refine wc_cond_dec (ht:=fun _ => ?_) (hf:=fun _ => ?_)<;> (try first | contradiction | (exfalso; omega))))
    all_goals try (exfalso; omega)
    refine ⟨I1, [], ⟨?_, rfl⟩, hm.left (H := [])⟩
    have : l.findIdx? F = none := by
      rw [List.findIdx?_eq_none_iff]
      intro x hx
      obtain ⟨j, hj, rfl⟩ := List.getElem_of_mem hx
      exact hno j _ hj (List.getElem?_eq_getElem hj)
    rw [this]
theorem n_contains (fi : FuncId) [Own Try.prog fi] (ca : List Value) (F : Sp.Rf → Bool) (l : List Sp.Rf) (hl : l.length ≤ 64) (I : Imm) (a : Option Addr) (cp : Nat) (hr : RowI I 85 2 (.slice a l.length cp) l.length (l.flatMap encRf))
    (hF : ∀ I', Le I I' → ∀ x, CalM Try.prog fi (.agg (encRf x).toArray :: ca).toArray I' [] (fun v _ H' => v = .bool (F x) ∧ H' = [])) :
    CalM Try.prog 31 #[.slice a l.length cp, .func (.func fi) #[] ca.toArray] I [] (fun v _ H' => v = .bool (l.any F) ∧ H' = []) := by
  refine CalM.of fun w E hm => enter (N := 9) Try.func31 rfl [(0, .slice a l.length cp), (1, .func (.func fi) #[] ca.toArray)] args2 rfl ?_
  have hc := n_idxRef fi ca F l hl I a cp hr hF
  have hany : l.any F = decide (0 ≤ (match l.findIdx? F with | some j => (j : Int) | none => -1)) := by
    cases h : l.findIdx? F with
    | some j =>
      obtain ⟨hj, e, _⟩ := List.findIdx?_eq_some_iff_getElem.1 h
      rw [List.any_eq_true.2 ⟨l[j], List.getElem_mem hj, e⟩]
      exact (decide_eq_true (show (0 : Int) ≤ (j : Int) by omega)).symm
    | none =>
      rw [List.findIdx?_eq_none_iff] at h
      rw [List.any_eq_false.2 (fun x hx => by rw [h x hx]; simp)]
      rfl
  rw [hany]
  generalize (match l.findIdx? F with | some j => (j : Int) | none => -1) = z at hc
  repeat' (first
  | (refine m_call (d:=7) hm (hc:=hc) (k:=?_); clear hm; rintro _ I4 _ _ ⟨rfl, rfl⟩ hle hm; have hleI4 := hle; try simp only [setn] at hm)
  | refine op_move (k:=?_)
  | refine op_assign (k:=?_)
  | refine op_geq (k:=?_)
  | refine wl_nil ?_
  | refine at_then_normal ?_
  | refine wc_seq ?_
  | refine wc_region ?_
  | refine wc_ret ?_
  | refine at_ret1 (h:=?_))
  exact ⟨I4, [], ⟨rfl, rfl⟩, hm.left (H := [])⟩
end Go.Proofs.Ytjfkjpbkmpofkaa
end
section
namespace Go.Sp
theorem filt_step {l : List Nm} {k : Nat} {c : Nm} {p : Nm → Bool} (h : l[k]? = some c) : ((l.take (k + 1)).filter p).map diagE = ((l.take k).filter p).map diagE ++ (if p c then [diagE c] else []) := by
  rw [take_succ_get h, List.filter_append, List.map_append]
  cases hp : p c <;> simp [hp]
theorem allE_len {its : List Itm} (i : Nat) : (allE its i).length ≤ (namesE its).length := srt_len (allE_srt its i) (((allsE_end its).2.1.getD i).2.1)
end Go.Sp
namespace Go.Proofs.Ytjfkjpbkmpofkaa
open Go.Fw
theorem e_saidC (I : Imm) (b : Nat) (c : List UInt8) (hb : PtrI I b 0 9 [str c]) (x : Sp.Rf) :
    CalM Try.prog 32 #[.agg (encRf x).toArray, ptr b] I [] (fun v _ H' => v = .bool (decide (x.name = c)) ∧ H' = []) := by
  refine CalM.of fun w E hm => enter (N := 8) Try.func32 rfl [(0, .agg (encRf x).toArray), (1, ptr b)] args2 rfl ?_
  repeat' (first
  | (refine m_box (d:=2) hm (k:=?_); clear hm; intro b2 _ hm)
  | refine m_load1 hm (k:=?_)
  | refine i_load1z hm (k:=?_)
  | refine op_assign (k:=?_)
  | refine op_eql_str (k:=?_)
  | refine op_fieldAddr (k:=?_)
  | refine wl_nil ?_
  | refine at_then_normal ?_
  | refine wc_seq ?_
  | refine wc_region ?_
  | refine wc_ret ?_
  | refine at_ret1 (h:=?_))
  exact ⟨I, [], ⟨rfl, rfl⟩, hm.left (H := [])⟩
theorem tri_at {its : List Sp.Itm} {i : Nat} {T : List (Tri (List UInt8))} (hT : T.map (·.1) = Sp.allsE its) (hi : i < its.length) :
    ∃ a cp, T[i]? = some (Sp.allE its i, a, cp) ∧ (T.map triV)[i]? = some (.slice a (Sp.allE its i).length cp) := by
  have hl : T.length = its.length := by
    have := congrArg List.length hT
    rw [Sp.allsE_len] at this
    simpa using this
  have hg : T[i]? = some T[i] := List.getElem?_eq_getElem (by omega)
  have h1 : Sp.allE its i = T[i].1 := by
    rw [Sp.allE, ← hT, List.getD_eq_getElem?_getD, List.getElem?_map, hg]; rfl
  generalize T[i] = t at hg h1
  obtain ⟨l, a, cp⟩ := t
  dsimp only at h1
  subst h1
  exact ⟨a, cp, hg, by rw [List.getElem?_map, hg]; rfl⟩
structure EdX where
  k : Nat
  I : Imm
  a : Option Addr
  cp : Nat
abbrev dgRw (l : List Sp.Dg) (a : Option Addr) (cp : Nat) : HItem := .row (.slice a l.length cp) 82 4 l.length (l.flatMap encDg)
set_option maxHeartbeats 16000000 in
theorem e_diags {its : List Sp.Itm} (i : Nat) (hi : i < its.length) (I : Imm) (a : Option Addr) (cp : Nat) (xs : List Value) (hfe : FE I its a cp xs) (hsm : ∀ it ∈ its, it.small ∧ Sp.stmsCnt it.body ≤ 400000000) (hN : (Sp.namesE its).length ≤ 1000000000) :
    CalM Try.prog 15 #[.agg [.slice a its.length cp].toArray, nt i] I [] (fun v I' H' => H' = [] ∧ ∃ da dp, v = .slice da (Sp.effD its i).length dp ∧ RowI I' 82 4 (.slice da (Sp.effD its i).length dp) (Sp.effD its i).length ((Sp.effD its i).flatMap encDg)) := by
  refine CalM.of fun w E hm => enter (N := 52) Try.func15 rfl [(0, .agg [.slice a its.length cp].toArray), (1, nt i)] args2 rfl ?_
  have hfew := hfe.few
  have hg : its[i]? = some its[i] := List.getElem?_eq_getElem hi
  have hno : Sp.itNo its i = its[i] := by rw [Sp.itNo, List.getD_eq_getElem?_getD, hg]; rfl
  have hss := (hsm _ (List.getElem_mem hi)).1
  repeat' (first
  | refine wc_hold 1 ?_
  | (refine m_box (d:=2) hm (k:=?_); clear hm; intro b2 _ hm)
  | refine op_assign (k:=?_)
  | refine wl_nil ?_
  | refine at_then_normal ?_
  | refine wc_seq ?_
  | refine wc_region ?_)
  all_goals try (exfalso; omega)
  obtain ⟨I1, hle1, hm1, hpf⟩ := hm.freezeO
  clear hm
  have hm := hm1
  clear hm1
  have hfe1 := hfe.le hle1
  obtain ⟨cs, hcs, hat, hl10⟩ := hfe1.get hg
  have hri := hfe1.row
  have hA := e_all (its := its) I1 a cp xs hfe1 hsm hN
  rw [← hno] at hat hss
  have hk2 := fun h => Sp.allE_none (its := its) (i := i) h
  generalize hit : Sp.itNo its i = it at hat hss hk2
  obtain ⟨ap, cp', as_, cs', ab, cb', ad, cd, xb, rfl, _, hsd, _, _, _⟩ := hat
  have hfo : ∀ k : Nat, (0 : Nat) + (k : Int).toNat * 1 = k := fun k => by rw [Int.toNat_natCast]; omega
  refine ⟨?_⟩
  by_cases k2 : it.kind = 2
  · skip
    repeat' (first
    | (refine i_indexAddr (d:=21) (hr:=hri) (k:=?_); intro bt ot hpt; rw [show ((i : Int).toNat * 10) = i * 10 from rfl, hcs] at hpt)
    | refine wc_hold 4 ?_
    | refine i_load1 hm (k:=?_)
    | refine op_move (k:=?_)
    | refine op_assign (k:=?_)
    | refine op_pick_false (k:=?_)
    | refine op_lss (k:=?_)
    | refine op_geq (k:=?_)
    | refine op_neq (k:=?_)
    | refine op_len_slice (k:=?_)
    | refine op_fieldAddr (k:=?_)
    | (refine wl_split_dec (h1:=fun _ => ?_) (h0:=fun _ => ?_)<;> (try first | contradiction | (exfalso; omega)))
    | refine wl_nil ?_
    | refine at_then_normal ?_
    | refine wc_seq ?_
    | refine wc_region ?_
    | refine wc_skip ?_
    | (refine wc_cond_dec (ht:=fun _ => ?_) (hf:=fun _ => ?_)<;> (try first | contradiction | (exfalso; omega))))
    all_goals try (exfalso; omega)
    have hal := Nat.le_trans (Sp.allE_len (its := its) i) hN
    refine ⟨?_⟩
    repeat' (first
    | (refine m_call (d:=27) hm (hp:=pm0) (hc:=hA) (k:=?_); clear hm; rintro _ I2 _ w2 ⟨ob, T, hT, rfl, rfl⟩ hleI2 hm; rw [List.append_nil] at hm; obtain ⟨ta, tc, hti, hcell⟩ := tri_at hT hi)
    | (refine mi_loadRow (i := 0) (d := 30) hm (by rfl) (by rfl) (by rfl) (by rfl) (by rw [hfo]; exact hcell) ?_)
    | refine i_loadN hm (k:=?_)
    | refine op_move (k:=?_)
    | refine op_len_slice (k:=?_)
    | refine op_indexAddr (k:=?_)
    | refine wl_nil ?_
    | refine at_then_normal ?_
    | refine wc_region ?_
    | refine wc_block ?_)
    all_goals try (exfalso; omega)
    obtain ⟨I3, hle3, hm3, hrow⟩ := (hm.front (i + 1) (by rw [List.getElem?_cons_succ, List.getElem?_map, hti]; rfl)).freeze
    clear hm
    have hm := (hm3.left (H := [])).nil 82 4
    clear hm3
    have hle13 : Le I1 I3 := hleI2.trans hle3
    have heD : Sp.effD its i = ((Sp.allE its i).filter (fun c => !Sp.saidE it c)).map Sp.diagE := by rw [Sp.effD, hit]
    generalize Sp.allE its i = al at *
    refine wc_loop (fun x : EdX => [(1, nt i), (2, ptr b2), (5, .slice x.a (((al.take x.k).filter (fun c => !Sp.saidE it c)).map Sp.diagE).length x.cp), (30, .slice ta al.length tc), (31, nt al.length), (32, nt x.k)])
      (fun x w' => Mem E x.I [dgRw (((al.take x.k).filter (fun c => !Sp.saidE it c)).map Sp.diagE) x.a x.cp] w' ∧ Le I3 x.I ∧ x.k ≤ al.length)
      (fun x => al.length - x.k) ⟨0, I3, none, 0⟩ (by exact ⟨rfl, rfl, rfl, rfl, rfl, rfl, trivial⟩) ⟨hm, Le.refl _, Nat.zero_le _⟩ ?_
    clear hm
    rintro ⟨k, I4, da, dp⟩ w4 ⟨hm, hle4, hk⟩
    dsimp only at hm hle4 hk ⊢
    by_cases hlt : k < al.length
    · have hgk : al[k]? = some al[k] := List.getElem?_eq_getElem hlt
      have hst := Sp.filt_step (p := fun c => !Sp.saidE it c) hgk
      have hdl : (((al.take k).filter (fun c => !Sp.saidE it c)).map Sp.diagE).length ≤ 1000000000 := by
        rw [List.length_map]
        refine Nat.le_trans (List.length_filter_le _ _) ?_
        rw [List.length_take]; omega
      generalize al[k] = c at hgk hst
      generalize ((al.take k).filter (fun c => !Sp.saidE it c)).map Sp.diagE = ds at hm hst hdl ⊢
      have hrow4 := hrow.le hle4
      have hri4 := (hri.le hle13).le hle4
      have hpf4 := (hpf.le hle13).le hle4
      repeat' (first
      | (refine i_indexFlat (d:=34) (enc:=encS) (z:=c) (hr:=hrow4) (he:=fun _ => rfl) (hz:=by exact hgk) (k:=?_); intro bz oz hpz)
      | refine wc_hold 7 ?_
      | (refine m_var1 (d:=7) hm (k:=?_); clear hm; intro b7 _ hm)
      | refine i_load1z hm (k:=?_)
      | refine op_lss (k:=?_)
      | refine wl_nil ?_
      | refine at_then_normal ?_
      | refine wc_seq ?_
      | refine wc_region ?_
      | refine wc_block ?_
      | refine wc_skip ?_
      | (refine wc_cond_dec (ht:=fun _ => ?_) (hf:=fun _ => ?_)<;> (try first | contradiction | (exfalso; omega))))
      all_goals try (exfalso; omega)
      obtain ⟨I5, hle5, hm5, hpc⟩ := hm.freezeO
      clear hm
      have hm := hm5
      clear hm5
      have hri5 := hri4.le hle5
      have hpf5 := hpf4.le hle5
      have hsd5 := ((hsd.le hle13).le hle4).le hle5
      have hE := n_contains 32 [ptr b7] (fun x => decide (x.name = c)) it.sends (by have := hss.sends; omega) I5 as_ cs' hsd5 (fun J m x => e_saidC J b7 c (hpc.le m) x)
      rw [show it.sends.any (fun x => decide (x.name = c)) = Sp.saidE it c from rfl] at hE
      refine ⟨?_⟩
      cases hc : Sp.saidE it c with
      | true =>
        rw [hc] at hE hst
        repeat' (first
        | (refine i_indexAddr (d:=39) (hr:=hri5) (k:=?_); intro bt ot hpt; rw [show ((i : Int).toNat * 10) = i * 10 from rfl, hcs] at hpt)
        | (refine m_call (d:=43) hm (hc:=hE) (k:=?_); clear hm; rintro _ I6 _ _ ⟨rfl, rfl⟩ hle hm; have hleI6 := hle; try simp only [setn] at hm)
        | refine i_load1 hm (k:=?_)
        | refine op_move (k:=?_)
        | refine op_not (k:=?_)
        | refine op_makeFunc (k:=?_)
        | refine op_add (k:=?_)
        | refine op_fieldAddr (k:=?_)
        | refine wl_nil ?_
        | refine at_then_normal ?_
        | refine at_block_normal ?_
        | refine wc_region ?_
        | refine wc_skip ?_
        | refine wc_cond_false (hf:=?_))
        all_goals try (exfalso; omega)
        refine at_round (⟨k + 1, I6, da, dp⟩ : EdX) (by dsimp only; rw [hst, if_neg (by simp), List.append_nil]; exact ⟨rfl, rfl, rfl, rfl, rfl, rfl, trivial⟩) ⟨?_, (hle4.trans hle5).trans hleI6, by dsimp only; omega⟩ (by dsimp only; omega)
        dsimp only; rw [hst, if_neg (by simp), List.append_nil]; exact hm
      | false =>
        rw [hc] at hE hst
        repeat' (first
        | (refine i_indexAddr (d:=39) (hr:=hri5) (k:=?_); intro bt ot hpt; rw [show ((i : Int).toNat * 10) = i * 10 from rfl, hcs] at hpt)
        | (refine m_call (d:=43) hm (hc:=hE) (k:=?_); clear hm; rintro _ I6 _ _ ⟨rfl, rfl⟩ hle hm; have hleI6 := hle; try simp only [setn] at hm; replace hpc := hpc.le hleI6)
        | (refine m_push (d:=49) hm (k:=?_); clear hm; intro a49 cp49 _ _ hm; try simp only [setn] at hm)
        | refine i_load1 hm (k:=?_)
        | refine i_load1z hm (k:=?_)
        | refine op_move (k:=?_)
        | refine op_assign (k:=?_)
        | refine op_not (k:=?_)
        | refine op_makeFunc (k:=?_)
        | refine op_add (k:=?_)
        | refine op_fieldAddr (k:=?_)
        | refine op_struct (k:=?_)
        | refine wl_nil ?_
        | refine at_then_normal ?_
        | refine at_block_normal ?_
        | refine wc_region ?_
        | refine wc_cond_true (ht:=?_))
        all_goals try (exfalso; omega)
        rw [if_pos (by simp)] at hst
        refine at_round (⟨k + 1, I6, a49, cp49⟩ : EdX) (by dsimp only; rw [hst, List.length_append]; exact ⟨rfl, rfl, rfl, rfl, rfl, rfl, trivial⟩) ⟨?_, (hle4.trans hle5).trans hleI6, by dsimp only; omega⟩ (by dsimp only; omega)
        dsimp only [dgRw]
        rw [hst, List.flatMap_append, List.length_append]
        exact hm
    · obtain rfl : k = al.length := by omega
      rw [List.take_length, ← heD] at hm
      repeat' (first
      | refine op_move (k:=?_)
      | refine op_assign (k:=?_)
      | refine op_lss (k:=?_)
      | refine wl_nil ?_
      | refine at_then_normal ?_
      | refine at_then_exit ?_
      | refine at_block_exit ?_
      | refine wc_seq ?_
      | refine wc_region ?_
      | refine wc_exit ?_
      | refine wc_ret ?_
      | refine at_ret1 (h:=?_)
      | (refine wc_cond_dec (ht:=fun _ => ?_) (hf:=fun _ => ?_)<;> (try first | contradiction | (exfalso; omega))))
      all_goals try (exfalso; omega)
      rw [List.take_length, ← heD]
      obtain ⟨I5, hle5, hm5, hr5⟩ := hm.freeze
      exact ⟨I5, [], ⟨rfl, da, dp, rfl, hr5⟩, hm5⟩
  · skip
    repeat' (first
    | (refine i_indexAddr (d:=21) (hr:=hri) (k:=?_); intro bt ot hpt; rw [show ((i : Int).toNat * 10) = i * 10 from rfl, hcs] at hpt)
    | refine i_load1 hm (k:=?_)
    | refine op_move (k:=?_)
    | refine op_assign (k:=?_)
    | refine op_pick_false (k:=?_)
    | refine op_lss (k:=?_)
    | refine op_geq (k:=?_)
    | refine op_neq (k:=?_)
    | refine op_len_slice (k:=?_)
    | refine op_fieldAddr (k:=?_)
    | (refine wl_split_dec (h1:=fun _ => ?_) (h0:=fun _ => ?_)<;> (try first | contradiction | (exfalso; omega)))
    | refine wl_nil ?_
    | refine at_then_normal ?_
    | refine at_then_ret ?_
    | refine wc_seq ?_
    | refine wc_region ?_
    | refine wc_ret ?_
    | refine at_ret1 (h:=?_)
    | (refine wc_cond_dec (ht:=fun _ => ?_) (hf:=fun _ => ?_)<;> (try first | contradiction | (exfalso; omega))))
    all_goals try (exfalso; omega)
    have he : Sp.effD its i = [] := by rw [Sp.effD, hk2 k2]; rfl
    rw [he]
    obtain ⟨I4, hle4, hm4, hrow⟩ := (hm.nil 82 4).freeze
    exact ⟨I4, [], ⟨rfl, none, 0, rfl, hrow⟩, hm4.left (H := [])⟩
end Go.Proofs.Ytjfkjpbkmpofkaa
end
section
namespace Go.Proofs.Ytjfkjpbkmpofkaa
open Go.Fw
theorem dg_same (d : Sp.Dg) : eqCells (encDg d) (encDg d) = true := by simp [encDg, eqCells, eqCell]
structure SmX where
  k : Nat
  I : Imm
theorem s_texts (l : List (List UInt8)) (hl : l.length ≤ 1000000000) (I : Imm) (a b : Option Addr) (c d : Nat) (ha : RowI I 9 1 (.slice a l.length c) l.length (l.flatMap encS)) (hb : RowI I 9 1 (.slice b l.length d) l.length (l.flatMap encS)) :
    CalM Try.prog 12 #[.slice a l.length c, .slice b l.length d] I [] (fun v _ H' => v = .bool true ∧ H' = []) := by
  refine CalM.of fun w E hm => enter (N := 26) Try.func12 rfl [(0, .slice a l.length c), (1, .slice b l.length d)] args2 rfl ?_
  repeat' (first
  | refine op_move (k:=?_)
  | refine op_assign (k:=?_)
  | refine op_neq (k:=?_)
  | refine op_len_slice (k:=?_)
  | refine wl_nil ?_
  | refine at_then_normal ?_
  | refine wc_seq ?_
  | refine wc_region ?_
  | refine wc_block ?_
  | refine wc_skip ?_
  | (refine wc_cond_dec (ht:=fun _ => ?_) (hf:=fun _ => ?_)<;> (try first | contradiction | (exfalso; omega))))
  all_goals try (exfalso; first | omega | contradiction)
  refine wc_loop (fun x : SmX => [(0, .slice a l.length c), (1, .slice b l.length d), (12, nt l.length), (13, nt x.k)])
    (fun x w' => Mem E x.I [] w' ∧ Le I x.I ∧ x.k ≤ l.length) (fun x => l.length - x.k) ⟨0, I⟩ (by exact ⟨rfl, rfl, rfl, rfl, trivial⟩) ⟨hm, Le.refl _, Nat.zero_le _⟩ ?_
  clear hm
  rintro ⟨k, I1⟩ w1 ⟨hm, hle1, hk⟩
  dsimp only at hm hle1 hk ⊢
  by_cases hlt : k < l.length
  · have hg : l[k]? = some l[k] := List.getElem?_eq_getElem hlt
    generalize l[k] = s at hg
    have ha1 := ha.le hle1
    have hb1 := hb.le hle1
    repeat' (first
    | (refine iq_indexFlat (d:=18) (enc:=encS) (z:=s) (hr:=ha1) (he:=fun _ => rfl) (hz:=by exact hg) (k:=?_); intro b1 o1 p1)
    | (refine iq_indexFlat (d:=22) (enc:=encS) (z:=s) (hr:=hb1) (he:=fun _ => rfl) (hz:=by exact hg) (k:=?_); intro b2 o2 p2)
    | refine iq_load1z hm (k:=?_)
    | refine op_move (k:=?_)
    | refine op_assign (k:=?_)
    | refine op_lss (k:=?_)
    | refine op_add (k:=?_)
    | refine wl_nil ?_
    | refine at_then_normal ?_
    | refine at_block_normal ?_
    | refine wc_seq ?_
    | refine wc_region ?_
    | refine wc_block ?_
    | refine wc_skip ?_
    | refine wc_quiet (h:=?_)
    | (refine wq_nil ?_; intro _ hkq; replace hm := hm.kept0 hkq; clear hkq)
    | (refine wc_cond_dec (ht:=fun _ => ?_) (hf:=fun _ => ?_)<;> (try first | contradiction | (exfalso; omega)))
    | refine q_move (k:=?_)
    | refine q_neq_str (k:=?_))
    all_goals try (exfalso; first | omega | contradiction)
    exact at_round (⟨k + 1, I1⟩ : SmX) (by exact ⟨rfl, rfl, rfl, rfl, trivial⟩) ⟨hm, hle1, by dsimp only; omega⟩ (by dsimp only; omega)
  · obtain rfl : k = l.length := by omega
    repeat' (first
    | refine op_assign (k:=?_)
    | refine op_lss (k:=?_)
    | refine wl_nil ?_
    | refine at_then_normal ?_
    | refine at_then_exit ?_
    | refine at_block_exit ?_
    | refine wc_seq ?_
    | refine wc_region ?_
    | refine wc_exit ?_
    | refine wc_ret ?_
    | refine at_ret1 (h:=?_)
    | (refine wc_cond_dec (ht:=fun _ => ?_) (hf:=fun _ => ?_)<;> (try first | contradiction | (exfalso; omega))))
    all_goals try (exfalso; first | omega | contradiction)
    exact ⟨I1, [], ⟨rfl, rfl⟩, hm⟩
theorem s_diags (l : List Sp.Dg) (hl : l.length ≤ 1000000000) (I : Imm) (a b : Option Addr) (c d : Nat) (ha : RowI I 82 4 (.slice a l.length c) l.length (l.flatMap encDg)) (hb : RowI I 82 4 (.slice b l.length d) l.length (l.flatMap encDg)) :
    CalM Try.prog 14 #[.slice a l.length c, .slice b l.length d] I [] (fun v _ H' => v = .bool true ∧ H' = []) := by
  refine CalM.of fun w E hm => enter (N := 26) Try.func14 rfl [(0, .slice a l.length c), (1, .slice b l.length d)] args2 rfl ?_
  repeat' (first
  | refine op_move (k:=?_)
  | refine op_assign (k:=?_)
  | refine op_neq (k:=?_)
  | refine op_len_slice (k:=?_)
  | refine wl_nil ?_
  | refine at_then_normal ?_
  | refine wc_seq ?_
  | refine wc_region ?_
  | refine wc_block ?_
  | refine wc_skip ?_
  | (refine wc_cond_dec (ht:=fun _ => ?_) (hf:=fun _ => ?_)<;> (try first | contradiction | (exfalso; omega))))
  all_goals try (exfalso; first | omega | contradiction)
  refine wc_loop (fun x : SmX => [(0, .slice a l.length c), (1, .slice b l.length d), (12, nt l.length), (13, nt x.k)])
    (fun x w' => Mem E x.I [] w' ∧ Le I x.I ∧ x.k ≤ l.length) (fun x => l.length - x.k) ⟨0, I⟩ (by exact ⟨rfl, rfl, rfl, rfl, trivial⟩) ⟨hm, Le.refl _, Nat.zero_le _⟩ ?_
  clear hm
  rintro ⟨k, I1⟩ w1 ⟨hm, hle1, hk⟩
  dsimp only at hm hle1 hk ⊢
  by_cases hlt : k < l.length
  · have hg : l[k]? = some l[k] := List.getElem?_eq_getElem hlt
    generalize l[k] = s at hg
    have ha1 := ha.le hle1
    have hb1 := hb.le hle1
    repeat' (first
    | (refine iq_indexFlat (d:=18) (enc:=encDg) (z:=s) (hr:=ha1) (he:=fun _ => rfl) (hz:=by exact hg) (k:=?_); intro b1 o1 p1)
    | (refine iq_indexFlat (d:=22) (enc:=encDg) (z:=s) (hr:=hb1) (he:=fun _ => rfl) (hz:=by exact hg) (k:=?_); intro b2 o2 p2)
    | refine iq_loadN hm (k:=?_)
    | refine op_move (k:=?_)
    | refine op_assign (k:=?_)
    | refine op_lss (k:=?_)
    | refine op_add (k:=?_)
    | refine wl_nil ?_
    | refine at_then_normal ?_
    | refine at_then_ret ?_
    | refine at_block_normal ?_
    | refine at_block_ret ?_
    | refine wc_seq ?_
    | refine wc_region ?_
    | refine wc_block ?_
    | refine wc_skip ?_
    | refine wc_ret ?_
    | refine at_ret1 (h:=?_)
    | refine wc_quiet (h:=?_)
    | (refine wq_nil ?_; intro _ hkq; replace hm := hm.kept0 hkq; clear hkq)
    | (refine wc_cond_dec (ht:=fun _ => ?_) (hf:=fun _ => ?_)<;> (try first | contradiction | (exfalso; omega)))
    | refine wc_cond (ht:=fun _ => ?_) (hf:=fun _ => ?_)
    | refine q_move (k:=?_)
    | refine q_neq_flat (k:=?_))
    all_goals try (exfalso; first | omega | contradiction)
    all_goals try (exfalso; rename_i hx; rw [dg_same] at hx; exact absurd hx (by decide))
    exact at_round (⟨k + 1, I1⟩ : SmX) (by exact ⟨rfl, rfl, rfl, rfl, trivial⟩) ⟨hm, hle1, by dsimp only; omega⟩ (by dsimp only; omega)
  · obtain rfl : k = l.length := by omega
    repeat' (first
    | refine op_assign (k:=?_)
    | refine op_lss (k:=?_)
    | refine wl_nil ?_
    | refine at_then_normal ?_
    | refine at_then_exit ?_
    | refine at_block_exit ?_
    | refine wc_seq ?_
    | refine wc_region ?_
    | refine wc_exit ?_
    | refine wc_ret ?_
    | refine at_ret1 (h:=?_)
    | (refine wc_cond_dec (ht:=fun _ => ?_) (hf:=fun _ => ?_)<;> (try first | contradiction | (exfalso; omega))))
    all_goals try (exfalso; first | omega | contradiction)
    exact ⟨I1, [], ⟨rfl, rfl⟩, hm⟩
end Go.Proofs.Ytjfkjpbkmpofkaa
end
section
namespace Go.Fw
open Go
def mput (es : Ents) (s : List UInt8) (v : Value) : Ents := match es.findIdx? (fun p => decide (p.1 = s)) with
  | some i => es.set i (s, v)
  | none => es ++ [(s, v)]
theorem ents_modify (es : Ents) (i : Nat) (s : List UInt8) (v : Value) : (entsOf es 0).toArray.modify i (fun e => { e with key := str s, val := v }) = (entsOf (es.set i (s, v)) 0).toArray := by
  apply Array.ext_getElem?
  intro j
  rw [Array.getElem?_modify]
  simp only [entsOf, List.getElem?_toArray, List.getElem?_map, List.getElem?_zipIdx, List.getElem?_set]
  by_cases h : i = j
  · subst h
    rw [if_pos rfl, if_pos rfl]
    by_cases h2 : i < es.length
    · rw [if_pos h2, List.getElem?_eq_getElem h2]; rfl
    · rw [if_neg h2, List.getElem?_eq_none (by omega)]; rfl
  · rw [if_neg h, if_neg h]
theorem mput_mem {es : Ents} {s : List UInt8} {v : Value} {p : List UInt8 × Value} (h : p ∈ mput es s v) : p ∈ es ∨ p = (s, v) := by
  rw [mput] at h
  split at h
  · rcases List.mem_or_eq_of_mem_set h with h | h
    · exact .inl h
    · exact .inr h
  · rcases List.mem_append.1 h with h | h
    · exact .inl h
    · exact .inr (List.mem_singleton.1 h)
theorem mput_keys {es : Ents} {s : List UInt8} {v : Value} (u : List UInt8) : u ∈ (mput es s v).map (·.1) ↔ u ∈ es.map (·.1) ∨ u = s := by
  rw [mput]
  cases hf : es.findIdx? (fun p => decide (p.1 = s)) with
  | some i =>
    obtain ⟨hi, hs, _⟩ := List.findIdx?_eq_some_iff_getElem.1 hf
    have hs' : es[i].1 = s := by simpa using hs
    have : (es.set i (s, v)).map (·.1) = es.map (·.1) := by
      apply List.ext_getElem?
      intro j
      simp only [List.getElem?_map, List.getElem?_set]
      split
      · rename_i h
        subst h
        rw [List.getElem?_eq_getElem hi]
        simp [hs']
      · rfl
    dsimp only
    rw [this]
    constructor
    · exact .inl
    · rintro (h | h)
      · exact h
      · subst h; rw [← hs']; exact List.mem_map_of_mem (List.getElem_mem hi)
  | none => simp
theorem mput_nodup {es : Ents} {s : List UInt8} {v : Value} (h : (es.map (·.1)).Nodup) : ((mput es s v).map (·.1)).Nodup := by
  rw [mput]
  cases hf : es.findIdx? (fun p => decide (p.1 = s)) with
  | some i =>
    obtain ⟨hi, hs, _⟩ := List.findIdx?_eq_some_iff_getElem.1 hf
    have hs' : es[i].1 = s := by simpa using hs
    have : (es.set i (s, v)).map (·.1) = es.map (·.1) := by
      apply List.ext_getElem?
      intro j
      simp only [List.getElem?_map, List.getElem?_set]
      split
      · rename_i h
        subst h
        rw [List.getElem?_eq_getElem hi]
        simp [hs']
      · rfl
    dsimp only
    rw [this]
    exact h
  | none =>
    dsimp only
    rw [List.map_append, List.nodup_append]
    refine ⟨h, by simp, fun a h1 b h2 => ?_⟩
    simp only [List.map_cons, List.map_nil, List.mem_singleton] at h2
    subst h2
    rintro rfl
    obtain ⟨p, hp, hps⟩ := List.mem_map.1 h1
    have := List.findIdx?_eq_none_iff.1 hf p hp
    simp [hps] at this
section
variable {P : Program} {N : Nat} {ds : List Deferred} {Q : Exit → Act → World → Prop} {l : Log} {w : World} {ops : Array Oper} {os : List Oper}
variable {d : Nat} {ty : TypeId} {pos : String} {af : Array Edge} {g : Option (Nat × Bool)} {t t' : TypeId} {x y z : Operand} {E : Ent} {I : Imm} {H : List HItem}
theorem m_put {kt et : TypeId} [TyMap P t kt et] [TyStr P kt] {i b : Nat} {es : Ents} {s : List UInt8} {v : Value} {dst : Option Nat} (hm : Mem E I H w) (hd : dst = none) (hw : want ops l ⟨dst, .insert t x y z, ty, pos, af, g⟩ = some true)
    (hx : ev l x = some (.map (some b))) (hy : ev l y = some (str s)) (hz : ev l z = some v) (hi : H[i]? = some (.mp b es)) (hn : (es.map (·.1)).Nodup)
    (k : ∀ w', Mem E I (H.set i (.mp b (mput es s v))) w' → WL P N ds ops Q os l w') :
    WL P N ds ops Q (⟨dst, .insert t x y z, ty, pos, af, g⟩ :: os) l w := by
  cases hf : es.findIdx? (fun p => decide (p.1 = s)) with
  | none =>
    have hs : (es.map (·.1)).contains s = false := by
      rw [← Bool.not_eq_true, List.contains_iff_mem]
      intro h1
      obtain ⟨p, hp, hps⟩ := List.mem_map.1 h1
      have := List.findIdx?_eq_none_iff.1 hf p hp
      simp [hps] at this
    have e : mput es s v = es ++ [(s, v)] := by rw [mput, hf]
    rw [e] at k
    exact m_insertNew hm hd hw hx hy hz hi hn hs k
  | some j =>
    obtain ⟨hj, hsj, _⟩ := List.findIdx?_eq_some_iff_getElem.1 hf
    have hsj' : es[j].1 = s := by simpa using hsj
    have e : mput es s v = es.set j (s, v) := by rw [mput, hf]
    rw [e] at k
    have hget := hm.get hi
    subst hd
    refine wl_op hw fun a ha => ?_
    have h1 := run_underlying (P := P) (w := w) (TyMap.out (P := P) (t := t))
    have hk := TyStr.out (P := P) (t := kt)
    have h2 := run_findKey (P := P) (w := w) hk s es 0
    have h3 := run_checkKey (P := P) (w := w) hk s false
    have h4 := MapKept.run_getObj_map (P := P) hget
    rw [hf] at h2
    have hg : es[j]? = some es[j] := List.getElem?_eq_getElem hj
    simp only [Option.bind_some, hg, Option.map_some, Nat.zero_add] at h2
    have h5 := fun o' => MapKept.run_setObj_map (P := P) o' hget
    have hkey : (entsOf es 0).toArray[j]? = some { key := str s, val := es[j].2, born := j } := by
      simp [entsOf, List.getElem?_zipIdx, hg, hsj']
    have h6 : (Instr.keyThatStays (str s) (str s)).run P w = .ok (str s) w := by
      have : Instr.sameBits 10000 (str s) (str s) = true := (MapKept.bytes_beq _ _).2 rfl
      simp [Instr.keyThatStays, this]
    have hb := lt_of_heap hget
    have hkept : Kept [b] w { w with heap := w.heap.setIfInBounds b (.map ((entsOf es 0).toArray.modify j (fun e => { e with key := str s, val := v })) es.length) } :=
      ⟨rfl, rfl, rfl, by simp, fun i hi hx => by
        have : b ≠ i := by rintro rfl; simp at hx
        simp [Array.getElem?_setIfInBounds_ne this]⟩
    have hm' := hm.turn (h' := .mp b (es.set j (s, v))) hi (by simpa [HItem.blk] using hkept) (by
      show HItem.ok _ _
      have e2 := ents_modify es j s v
      simp only [HItem.ok, ← e2, List.length_set]
      simp [hb]) (.inl rfl)
    have h7 := (k _ hm').run _ ha
    simp only [Oper.wp, execOp, Instr.mapUpdate, ha.ev hx, ha.ev hy, ha.ev hz, Sem.run_bind, h1, Result.andThen_ok, h4, h3, h2, hkey, Option.map_some, Option.getD_some, h6, h5, Oper.upon_skip, Act.put, Sem.run_pure]
    simpa only [List.modify_toArray] using h7
theorem wl_mapUpdate {dst : Option Nat} (h : WL P N ds ops Q (⟨dst, .insert t x y z, ty, pos, af, g⟩ :: os) l w) : WL P N ds ops Q (⟨dst, .mapUpdate t x y z, ty, pos, af, g⟩ :: os) l w := ⟨fun a ha => h.run a ha⟩
end
end Go.Fw
end
section
namespace Go.Fw
open Go
/-- what a map has under a text. -/
def mget (es : Ents) (s : List UInt8) : Option Value := (es.find? (fun p => decide (p.1 = s))).map (·.2)
theorem mget_at : ∀ {es : Ents} {j : Nat} {u : List UInt8} {v : Value}, (es.map (·.1)).Nodup → es[j]? = some (u, v) → mget es u = some v
  | [], j, u, v, _, h => by simp at h
  | (a, c) :: es, 0, u, v, _, h => by
    simp only [List.getElem?_cons_zero, Option.some.injEq, Prod.mk.injEq] at h
    obtain ⟨rfl, rfl⟩ := h
    simp [mget]
  | (a, c) :: es, j + 1, u, v, hn, h => by
    rw [List.getElem?_cons_succ] at h
    rw [List.map_cons, List.nodup_cons] at hn
    have hne : a ≠ u := by
      rintro rfl
      exact hn.1 (List.mem_map_of_mem (f := (·.1)) (List.mem_of_getElem? h))
    have ih := mget_at hn.2 h
    simp only [mget] at ih ⊢
    rw [List.find?_cons, decide_eq_false hne]
    exact ih
theorem mget_some : ∀ {es : Ents} {u : List UInt8} {v : Value}, mget es u = some v → ∃ j : Nat, es[j]? = some (u, v)
  | [], u, v, h => by cases h
  | (a, c) :: es, u, v, h => by
    simp only [mget] at h
    rw [List.find?_cons] at h
    by_cases e : a = u
    · rw [decide_eq_true e] at h
      simp only [Option.map_some, Option.some.injEq] at h
      subst e; subst h
      exact ⟨0, rfl⟩
    · rw [decide_eq_false e] at h
      obtain ⟨j, hj⟩ := mget_some (es := es) h
      exact ⟨j + 1, by rw [List.getElem?_cons_succ]; exact hj⟩
theorem mget_none {es : Ents} {u : List UInt8} (h : mget es u = none) {j : Nat} {p : List UInt8 × Value} (hj : es[j]? = some p) : p.1 ≠ u := by
  rintro rfl
  simp only [mget, Option.map_eq_none_iff, List.find?_eq_none] at h
  have := h p (List.mem_of_getElem? hj)
  simp at this
theorem mget_append {es : Ents} {s : List UInt8} {v : Value} (n : List UInt8) (h : mget es s = none) : mget (es ++ [(s, v)]) n = if n = s then some v else mget es n := by
  simp only [mget] at h ⊢
  rw [List.find?_append]
  by_cases e : n = s
  · subst e
    rw [if_pos rfl, Option.map_eq_none_iff.1 h]
    simp
  · rw [if_neg e]
    cases hf : es.find? (fun p => decide (p.1 = n)) with
    | some p => rfl
    | none => simp [Ne.symm e]
theorem mget_set : ∀ {es : Ents} {i : Nat} {s : List UInt8} {v : Value} (n : List UInt8), (es.map (·.1)).Nodup → (∃ c, es[i]? = some (s, c)) → mget (es.set i (s, v)) n = if n = s then some v else mget es n
  | [], i, s, v, n, _, h => by obtain ⟨_, h⟩ := h; simp at h
  | (a, c) :: es, 0, s, v, n, _, h => by
    obtain ⟨_, h⟩ := h
    simp only [List.getElem?_cons_zero, Option.some.injEq, Prod.mk.injEq] at h
    obtain ⟨rfl, _⟩ := h
    simp only [mget, List.set_cons_zero, List.find?_cons]
    by_cases e : n = a
    · subst e; simp
    · rw [if_neg e, decide_eq_false (Ne.symm e)]
  | (a, c) :: es, i + 1, s, v, n, hn, h => by
    obtain ⟨c', h⟩ := h
    rw [List.getElem?_cons_succ] at h
    rw [List.map_cons, List.nodup_cons] at hn
    have ih := mget_set (v := v) n hn.2 ⟨c', h⟩
    have has : a ≠ s := by
      rintro rfl
      exact hn.1 (List.mem_map_of_mem (f := (·.1)) (List.mem_of_getElem? h))
    simp only [mget, List.set_cons_succ, List.find?_cons] at ih ⊢
    by_cases e : a = n
    · subst e
      rw [decide_eq_true rfl, if_neg has]
    · rw [decide_eq_false e]
      exact ih
theorem mget_mput {es : Ents} {s : List UInt8} {v : Value} (n : List UInt8) (hn : (es.map (·.1)).Nodup) : mget (mput es s v) n = if n = s then some v else mget es n := by
  rw [mput]
  cases hf : es.findIdx? (fun p => decide (p.1 = s)) with
  | some i =>
    obtain ⟨hi, hs, _⟩ := List.findIdx?_eq_some_iff_getElem.1 hf
    have hs' : es[i].1 = s := by simpa using hs
    exact mget_set n hn ⟨es[i].2, by rw [List.getElem?_eq_getElem hi, ← hs']⟩
  | none =>
    refine mget_append n ?_
    rw [List.findIdx?_eq_none_iff] at hf
    simp only [mget, Option.map_eq_none_iff, List.find?_eq_none]
    intro p hp
    simpa using hf p hp
/-- a map that does not turn. -/
structure MapI (I : Imm) (b : Nat) (es : Ents) : Prop where
  out : I b = some (.map (entsOf es 0).toArray es.length)
  nodup : (es.map (·.1)).Nodup
theorem MapI.le {I I' : Imm} {b : Nat} {es : Ents} (h : MapI I b es) (hl : Le I I') : MapI I' b es := ⟨hl _ _ h.out, h.nodup⟩
theorem Mem.mapI {E : Ent} {I : Imm} {H : List HItem} {w : World} {b : Nat} {es : Ents} (hm : Mem E I H w) (h : MapI I b es) : MapAt w b es := ⟨hm.inv _ _ h.out, h.nodup⟩
abbrev HItem.it (r b n : Nat) (S : List Nat) : HItem := .obj r (.mapIter (some b) n S.toArray n)
theorem ents_mem {es : Ents} {e : MapEntry} : e ∈ entsOf es 0 ↔ ∃ (j : Nat) (u : List UInt8) (v : Value), es[j]? = some (u, v) ∧ e = { key := str u, val := v, born := j } := by
  simp only [entsOf, List.mem_map]
  constructor
  · rintro ⟨⟨⟨u, v⟩, j⟩, h, rfl⟩
    rw [List.mem_zipIdx_iff_getElem?] at h
    exact ⟨j, u, v, h, rfl⟩
  · rintro ⟨j, u, v, h, rfl⟩
    exact ⟨((u, v), j), by rw [List.mem_zipIdx_iff_getElem?]; exact h, rfl⟩
theorem left_mem {es : Ents} {S : List Nat} {e : MapEntry} (h : e ∈ (leftOf (entsOf es 0).toArray S.toArray).toList) : ∃ (j : Nat) (u : List UInt8) (v : Value), es[j]? = some (u, v) ∧ j ∉ S ∧ e = { key := str u, val := v, born := j } := by
  simp only [leftOf, List.filter_toArray, List.mem_filter] at h
  obtain ⟨j, u, v, h1, rfl⟩ := ents_mem.1 h.1
  exact ⟨j, u, v, h1, by simpa using h.2, rfl⟩
theorem left_none {es : Ents} {S : List Nat} (h : (leftOf (entsOf es 0).toArray S.toArray).size = 0) : ∀ j, j < es.length → j ∈ S := by
  intro j hj
  have h2 : (entsOf es 0).filter (fun e => !S.toArray.contains e.born) = [] := by
    simpa [leftOf] using h
  rw [List.filter_eq_nil_iff] at h2
  have := h2 { key := str es[j].1, val := es[j].2, born := j } (ents_mem.2 ⟨j, es[j].1, es[j].2, List.getElem?_eq_getElem hj, rfl⟩)
  simpa using this
theorem ents_born (es : Ents) : ((entsOf es 0).map (·.born)).Nodup := by
  have : (entsOf es 0).map (·.born) = List.range' 0 es.length := by
    simp only [entsOf, List.map_map]
    rw [← List.zipIdx_map_snd 0 es]
    rfl
  rw [this]
  exact List.nodup_range' (step := 1) (by omega)
section
variable {P : Program} {N : Nat} {ds : List Deferred} {Q : Exit → Act → World → Prop} {K : Act → World → Prop} {l : Log} {w : World} {ops : Array Oper} {os : List Oper}
variable {d : Nat} {ty : TypeId} {pos : String} {af : Array Edge} {g : Option (Nat × Bool)} {t : TypeId} {x y : Operand} {E : Ent} {I : Imm} {H : List HItem}
theorem m_range {kt et : TypeId} [TyMap P t kt et] {b : Nat} {es : Ents} (hm : Mem E I H w) (hw : want ops l ⟨some d, .range t x, ty, pos, af, g⟩ = some true) (hN : Nat.blt d N = true)
    (hx : ev l x = some (.map (some b))) (hb : MapAt w b es) (k : ∀ r w', Mem E I (.it r b es.length [] :: H) w' → WL P N ds ops Q os ((d, .pointer (some ⟨r, 0, none⟩)) :: l) w') :
    WL P N ds ops Q (⟨some d, .range t x, ty, pos, af, g⟩ :: os) l w :=
  wl_value (w' := w.alloc (.mapIter (some b) es.length #[] es.length)) rfl hw hN (fun a ha => by
    have h1 := run_range_map (P := P) w t kt et b _ _ (TyMap.out (P := P) (t := t)) hb.out
    simp [execOp, ha.ev hx, h1])
    (k w.heap.size _ (hm.add (Kept.alloc w _) (heap_alloc_new w _) (fun b' hb' => by simp only [HItem.blk, Option.some.injEq] at hb'; omega)))
theorem m_next {i r b : Nat} {es : Ents} {S : List Nat} (hm : Mem E I H w) (hw : want ops l ⟨some d, .next x false, ty, pos, af, g⟩ = some true) (hN : Nat.blt d N = true)
    (hx : ev l x = some (.pointer (some ⟨r, 0, none⟩))) (hi : H[i]? = some (.it r b es.length S)) (hb : MapAt w b es)
    (k1 : (∀ j, j < es.length → j ∈ S) → WL P N ds ops Q os ((d, .tuple #[.bool false]) :: l) w)
    (k2 : ∀ j u v w', es[j]? = some (u, v) → j ∉ S → Mem E I (H.set i (.it r b es.length (S ++ [j]))) w' → WL P N ds ops Q os ((d, .tuple #[.bool true, str u, v]) :: l) w') :
    WL P N ds ops Q (⟨some d, .next x false, ty, pos, af, g⟩ :: os) l w := by
  have hr := hm.get hi
  rcases run_next_at (P := P) w ty r b es.length es.length S.toArray (entsOf es 0).toArray es.length hr hb.out (fun e he => by
    obtain ⟨j, u, v, h1, rfl⟩ := ents_mem.1 he
    exact (List.getElem?_eq_some_iff.1 h1).1) (Nat.le_refl _) with ⟨h0, hrun⟩ | ⟨e, he, w1, hw1, hrun⟩
  · exact wl_value rfl hw hN (fun a ha => by simp [execOp, ha.ev hx, hrun]) (k1 (left_none h0))
  · obtain ⟨j, u, v, hj, hS, rfl⟩ := left_mem he
    have hlt := lt_of_heap hr
    have hh : w1.heap = w.heap ∧ w1.os = w.os ∧ w1.tape = w.tape ∧ w1.output = w.output := by rcases hw1 with rfl | rfl <;> exact ⟨rfl, rfl, rfl, rfl⟩
    have hk : Kept [r] w (ChangeMaps.setBlock w1 r (.mapIter (some b) es.length (S ++ [j]).toArray es.length)) :=
      ⟨hh.2.1, hh.2.2.1, hh.2.2.2, by simp [ChangeMaps.setBlock, hh.1], fun k hk hx => by
          have : r ≠ k := by rintro rfl; simp at hx
          simp [ChangeMaps.setBlock, hh.1, Array.getElem?_setIfInBounds_ne this]⟩
    have hS2 : (S ++ [j]).toArray = S.toArray.push j := by simp
    have hok : HItem.ok (ChangeMaps.setBlock w1 r (.mapIter (some b) es.length (S ++ [j]).toArray es.length)) (.it r b es.length (S ++ [j])) := by
      simp [HItem.ok, ChangeMaps.setBlock, hh.1, hlt]
    rw [← hS2] at hrun
    exact wl_value rfl hw hN (fun a ha => by simp [execOp, ha.ev hx, hrun]) (k2 j u v _ hj hS (hm.turn hi (by simpa [HItem.blk] using hk) hok (.inl rfl)))
theorem m_entry {i r b j : Nat} {es : Ents} {S : List Nat} {u : List UInt8} {v : Value} (hm : Mem E I H w) (hw : want ops l ⟨some d, .entry x, ty, pos, af, g⟩ = some true) (hN : Nat.blt d N = true)
    (hx : ev l x = some (.pointer (some ⟨r, 0, none⟩))) (hi : H[i]? = some (.it r b es.length (S ++ [j]))) (hb : MapAt w b es) (hj : es[j]? = some (u, v))
    (k : WL P N ds ops Q os ((d, .tuple #[str u, v]) :: l) w) : WL P N ds ops Q (⟨some d, .entry x, ty, pos, af, g⟩ :: os) l w := by
  have hr := hm.get hi
  have hrun := run_entry_at (P := P) w r b es.length S.toArray (entsOf es 0).toArray es.length { key := str u, val := v, born := j } (by rw [hr]; simp) hb.out (ents_mem.2 ⟨j, u, v, hj, rfl⟩) (ents_born es)
  exact wl_value rfl hw hN (fun a ha => by simp [execOp, ha.ev hx, hrun]) k
theorem Mem.freezeM {b : Nat} {es : Ents} (hm : Mem E I (.mp b es :: H) w) (hn : (es.map (·.1)).Nodup) : ∃ I', Le I I' ∧ Mem E I' H w ∧ MapI I' b es := by
  have hf := hm.free _ List.mem_cons_self b rfl
  exact ⟨I.add b (.map (entsOf es 0).toArray es.length), Le.add hf, hm.tl.freezeB (hm.ok _ List.mem_cons_self) hf (hm.born _ List.mem_cons_self b rfl) (fun h hh e => (List.pairwise_cons.1 hm.dist).1 h hh b rfl e), ⟨Imm.add_self _ _ _, hn⟩⟩
end
/-! copying a map, entry by entry -/
structure Copied (es : Ents) (S : List Nat) (es2 : Ents) : Prop where
  nodup : (es2.map (·.1)).Nodup
  get : ∀ n v, mget es2 n = some v ↔ ∃ j ∈ S, es[j]? = some (n, v)
theorem Copied.start (es : Ents) : Copied es [] [] := ⟨by simp, fun n v => by simp [mget]⟩
theorem Copied.put {es es2 : Ents} {S : List Nat} {j : Nat} {u : List UInt8} {v : Value} (h : Copied es S es2) (hn : (es.map (·.1)).Nodup) (hj : es[j]? = some (u, v)) : Copied es (S ++ [j]) (mput es2 u v) := by
  refine ⟨mput_nodup h.nodup, fun n v' => ?_⟩
  rw [mget_mput n h.nodup]
  by_cases e : n = u
  · subst e
    rw [if_pos rfl]
    constructor
    · rintro h'; cases h'; exact ⟨j, by simp, hj⟩
    · rintro ⟨i, _, hi⟩
      rw [← mget_at hn hj, mget_at hn hi]
  · rw [if_neg e, h.get]
    constructor
    · rintro ⟨i, hi, h2⟩; exact ⟨i, by simp [hi], h2⟩
    · rintro ⟨i, hi, h2⟩
      rcases List.mem_append.1 hi with hi | hi
      · exact ⟨i, hi, h2⟩
      · rw [List.mem_singleton] at hi
        subst hi
        rw [hj] at h2
        cases h2
        exact absurd rfl e
theorem Copied.done {es es2 : Ents} {S : List Nat} (h : Copied es S es2) (_hn : (es.map (·.1)).Nodup) (hS : ∀ j, j < es.length → j ∈ S) (n : List UInt8) : mget es2 n = mget es n := by
  cases hg : mget es n with
  | some v =>
    obtain ⟨j, hj⟩ := mget_some hg
    exact (h.get n v).2 ⟨j, hS j (List.getElem?_eq_some_iff.1 hj).1, hj⟩
  | none =>
    cases hg2 : mget es2 n with
    | none => rfl
    | some v =>
      obtain ⟨j, _, hj⟩ := (h.get n v).1 hg2
      exact absurd rfl (mget_none hg hj)
/-- how many are left. -/
def leftN (n : Nat) (S : List Nat) : Nat := ((List.range n).filter (fun j => !S.contains j)).length
theorem filter_less {α : Type} (p q : α → Bool) : ∀ (l : List α), (∀ x ∈ l, p x = true → q x = true) → (∃ x ∈ l, q x = true ∧ p x = false) → (l.filter p).length < (l.filter q).length
  | [], _, h => by obtain ⟨_, h, _⟩ := h; cases h
  | a :: l, h1, h2 => by
    have hle : ∀ (l : List α), (∀ x ∈ l, p x = true → q x = true) → (l.filter p).length ≤ (l.filter q).length := fun l h => by
      induction l with
      | nil => simp
      | cons a l ih =>
        have ih' := ih (fun x hx => h x (List.mem_cons_of_mem _ hx))
        have ha := h a List.mem_cons_self
        simp only [List.filter_cons]
        cases hp : p a <;> cases hq : q a <;> simp_all <;> omega
    have h1' : ∀ x ∈ l, p x = true → q x = true := fun x hx => h1 x (List.mem_cons_of_mem _ hx)
    obtain ⟨x, hx, hq, hp⟩ := h2
    rcases List.mem_cons.1 hx with rfl | hx
    · simp only [List.filter_cons, hq, hp, if_true, Bool.false_eq_true, if_false, List.length_cons]
      exact Nat.lt_succ_of_le (hle l h1')
    · have ih := filter_less p q l h1' ⟨x, hx, hq, hp⟩
      have ha := h1 a List.mem_cons_self
      simp only [List.filter_cons]
      cases hp : p a <;> cases hq : q a <;> simp_all <;> omega
theorem leftN_step {n j : Nat} {S : List Nat} (hj : j < n) (hS : j ∉ S) : leftN n (S ++ [j]) < leftN n S :=
  filter_less _ _ _ (fun x _ h => by simp at h ⊢; exact h.1) ⟨j, List.mem_range.2 hj, by simpa using hS, by simp⟩
end Go.Fw
end
section
namespace Go.Proofs.Ytjfkjpbkmpofkaa
open Go Go.Fw
instance : TyMap Try.prog 53 3 3 := ⟨by kernel_rfl⟩
instance : TyMap Try.prog 67 9 68 := ⟨by kernel_rfl⟩
instance : TyMap Try.prog 77 9 4 := ⟨by kernel_rfl⟩
instance : TyMap Try.prog 80 3 4 := ⟨by kernel_rfl⟩
instance : TyMap Try.prog 147 9 3 := ⟨by kernel_rfl⟩
end Go.Proofs.Ytjfkjpbkmpofkaa
end
