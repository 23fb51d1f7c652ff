/- Own work: texts NsE, RnB, one behind the other. -/
import Derived.Test.YtkbiakajlfmakaaGreatDoorNt21
section
namespace Go.Sp
theorem parN_n : ∀ (l : List Par) (sc : List Lc) (s : NW), s.n ≤ (parN l sc s).2.n ∧ (parN l sc s).2.n ≤ s.n + l.length ∧ sc.length ≤ (parN l sc s).1.length ∧ (parN l sc s).1.length ≤ sc.length + l.length
  | [], sc, s => by rw [parN]; exact ⟨Nat.le_refl _, by simp, Nat.le_refl _, by simp⟩
  | x :: l, sc, s => by
    rw [parN, List.length_cons]
    have h1 := mkN_n x.name x.at_ sc s
    have h2 := parN_n l (mkN x.name x.at_ sc s).1 (mkN x.name x.at_ sc s).2
    omega
theorem sndStep_n (its : List Itm) (b : Int) (dn : List Rf) (c : Rf) (s : NW) : s.n ≤ (sndStep its b dn c s).n ∧ (sndStep its b dn c s).n ≤ s.n + 2 := by
  have h1 := itmN_n its b 1 c.at_ c.name s
  rw [sndStep]
  split
  · rw [tell_n]; omega
  · omega
theorem sndN_n (its : List Itm) (b : Int) : ∀ (l dn : List Rf) (s : NW), s.n ≤ (sndN its b dn l s).n ∧ (sndN its b dn l s).n ≤ s.n + 2 * l.length
  | [], dn, s => by rw [sndN]; simp
  | x :: l, dn, s => by
    rw [sndN, List.length_cons]
    have h1 := sndStep_n its b dn x s
    have h2 := sndN_n its b l (dn ++ [x]) (sndStep its b dn x s)
    omega
theorem parN_sc {q : List UInt8} : ∀ (l : List Par), (∀ x ∈ l, stands q x.at_ x.name) → ∀ {sc : List Lc}, scOk q sc → ∀ (s : NW), scOk q (parN l sc s).1
  | [], _, sc, hsc, s => by rw [parN]; exact hsc
  | x :: l, h, sc, hsc, s => by
    rw [parN]
    refine parN_sc l (fun y hy => h y (List.mem_cons_of_mem _ hy)) ?_ _
    rw [mkN]
    split
    · exact hsc
    · rename_i hn; exact scOk_snoc hsc hn (h x List.mem_cons_self)
end Go.Sp
namespace Go.Proofs.YtkbiakajlfmakaaGreatDoor
open Go.Fw
theorem n_refC (I : Imm) (b : Nat) (c : Sp.Rf) (hb : PtrI I b 0 83 (encRf c)) (x : Sp.Rf) :
    CalM Tryz.prog 64 #[.agg (encRf x).toArray, ptr b] I [] (fun v _ H' => v = .bool (decide (x.name = c.name)) ∧ H' = []) := by
  refine CalM.of fun w E hm => enter (N := 9) Tryz.func64 rfl [(0, .agg (encRf x).toArray), (1, ptr b)] args2 rfl ?_
  repeat' (first
  | (refine m_box (d:=2) hm (k:=?_); clear hm; intro b2 _ hm)
  | refine m_load1 hm (k:=?_)
  | refine i_load1 hm (k:=?_)
  | refine op_assign (k:=?_)
  | refine op_eql_str (k:=?_)
  | refine op_fieldAddr (k:=?_)
  | refine wl_nil ?_
  | refine at_then_normal ?_
  | refine wc_seq ?_
  | refine wc_region ?_
  | refine wc_ret ?_
  | refine at_ret1 (h:=?_))
  exact ⟨I, [], ⟨rfl, rfl⟩, hm.left (H := [])⟩
theorem n_idxRef (fi : FuncId) [Own Tryz.prog fi] (ca : List Value) (F : Sp.Rf → Bool) (l : List Sp.Rf) (hl : l.length ≤ 64) (I : Imm) (a : Option Addr) (cp : Nat) (hr : RowI I 83 2 (.slice a l.length cp) l.length (l.flatMap encRf))
    (hF : ∀ I', Le I I' → ∀ x, CalM Tryz.prog fi (.agg (encRf x).toArray :: ca).toArray I' [] (fun v _ H' => v = .bool (F x) ∧ H' = [])) :
    CalM Tryz.prog 75 #[.slice a l.length cp, .func (.func fi) #[] ca.toArray] I [] (fun v _ H' => v = .int .i64 (match l.findIdx? F with | some j => (j : Int) | none => -1) ∧ H' = []) := by
  refine CalM.of fun w E hm => enter (N := 19) Tryz.func75 rfl [(0, .slice a l.length cp), (1, .func (.func fi) #[] ca.toArray)] args2 rfl ?_
  repeat' (first
  | refine op_move (k:=?_)
  | refine op_assign (k:=?_)
  | refine op_len_slice (k:=?_)
  | refine wl_nil ?_
  | refine at_then_normal ?_
  | refine wc_seq ?_
  | refine wc_region ?_
  | refine wc_block ?_)
  refine wc_loop (fun x : NI => [(0, .slice a l.length cp), (1, .func (.func fi) #[] ca.toArray), (7, nt l.length), (8, nt x.k)])
    (fun x w' => Mem E x.I [] w' ∧ Le I x.I ∧ x.k ≤ l.length ∧ ∀ j it', j < x.k → l[j]? = some it' → F it' = false) (fun x => l.length - x.k) ⟨0, I⟩ (by exact ⟨rfl, rfl, rfl, rfl, trivial⟩) ⟨hm, Le.refl _, Nat.zero_le _, fun j _ hj => absurd hj (Nat.not_lt_zero j)⟩ ?_
  clear hm
  rintro ⟨k, I1⟩ w1 ⟨hm, hle1, hk, hno⟩
  dsimp only at hm hle1 hk hno ⊢
  by_cases hlt : k < l.length
  · have hg : l[k]? = some l[k] := List.getElem?_eq_getElem hlt
    have hri := hr.le hle1
    have hc := hF I1 hle1 l[k]
    have hgk : l[((k : Nat) : Int).toNat]? = some l[k] := hg
    generalize l[k] = x at hg hc hgk
    cases hb : F x with
    | true =>
      rw [hb] at hc
      repeat' (first
      | (refine i_indexFlat (d:=14) (enc:=encRf) (z:=x) (hr:=hri) (he:=fun _ => rfl) (hz:=hgk) (k:=?_); intro bt ot hpt)
      | (refine i_loadN (d:=15) hm (hp:=hpt) (k:=?_))
      | (refine m_callv (d:=16) hm (hp:=pm0) (hc:=by exact hc) (k:=?_); clear hm; rintro _ I2 _ _ ⟨rfl, rfl⟩ hle hm)
      | refine op_move (k:=?_)
      | refine op_assign (k:=?_)
      | refine op_lss (k:=?_)
      | refine wl_nil ?_
      | refine at_then_normal ?_
      | refine at_then_ret ?_
      | refine at_block_ret ?_
      | refine wc_seq ?_
      | refine wc_region ?_
      | refine wc_block ?_
      | refine wc_skip ?_
      | refine wc_ret ?_
      | refine at_ret1 (h:=?_)
      | refine wc_cond_true (ht:=?_)
      | (refine wc_cond_dec (ht:=fun _ => ?_) (hf:=fun _ => ?_)<;> (try first | contradiction | (exfalso; omega))))
      all_goals try (exfalso; omega)
      refine ⟨I2, [], ⟨?_, rfl⟩, hm.left (H := [])⟩
      have : l.findIdx? F = some k := by
        rw [List.findIdx?_eq_some_iff_getElem]
        obtain ⟨hk, e⟩ := List.getElem?_eq_some_iff.1 hg
        refine ⟨hk, by rw [e]; exact hb, fun j hj => ?_⟩
        have := hno j l[j] hj (List.getElem?_eq_getElem (by omega))
        rw [this]; simp
      rw [this]
    | false =>
      rw [hb] at hc
      repeat' (first
      | (refine i_indexFlat (d:=14) (enc:=encRf) (z:=x) (hr:=hri) (he:=fun _ => rfl) (hz:=hgk) (k:=?_); intro bt ot hpt)
      | (refine i_loadN (d:=15) hm (hp:=hpt) (k:=?_))
      | (refine m_callv (d:=16) hm (hp:=pm0) (hc:=by exact hc) (k:=?_); clear hm; rintro _ I2 _ _ ⟨rfl, rfl⟩ hle hm)
      | refine op_move (k:=?_)
      | refine op_assign (k:=?_)
      | refine op_lss (k:=?_)
      | refine op_add (k:=?_)
      | refine wl_nil ?_
      | refine at_then_normal ?_
      | refine at_block_normal ?_
      | refine wc_seq ?_
      | refine wc_region ?_
      | refine wc_block ?_
      | refine wc_skip ?_
      | refine wc_cond_false (hf:=?_)
      | (refine wc_cond_dec (ht:=fun _ => ?_) (hf:=fun _ => ?_)<;> (try first | contradiction | (exfalso; omega))))
      all_goals try (exfalso; omega)
      refine at_round (⟨k + 1, I2⟩ : NI) (by exact ⟨rfl, rfl, rfl, rfl, trivial⟩) ⟨hm.left (H := []), hle1.trans hle, by dsimp only; omega, fun j it' hj hg' => ?_⟩ (by dsimp only; omega)
      rcases Nat.lt_or_ge j k with hjk | hjk
      · exact hno j it' hjk hg'
      · obtain rfl : j = k := by dsimp only at hj; omega
        rw [hg] at hg'
        obtain rfl := Option.some.inj hg'
        exact hb
  · obtain rfl : k = l.length := by omega
    repeat' (first
    | refine op_assign (k:=?_)
    | refine op_lss (k:=?_)
    | refine wl_nil ?_
    | refine at_then_normal ?_
    | refine at_then_exit ?_
    | refine at_block_exit ?_
    | refine wc_seq ?_
    | refine wc_region ?_
    | refine wc_exit ?_
    | refine wc_ret ?_
    | refine at_ret1 (h:=?_)
    | (refine wc_cond_dec (ht:=fun _ => ?_) (hf:=fun _ => ?_)<;> (try first | contradiction | (exfalso; omega))))
    all_goals try (exfalso; omega)
    refine ⟨I1, [], ⟨?_, rfl⟩, hm.left (H := [])⟩
    have : l.findIdx? F = none := by
      rw [List.findIdx?_eq_none_iff]
      intro x hx
      obtain ⟨j, hj, rfl⟩ := List.getElem_of_mem hx
      exact hno j _ hj (List.getElem?_eq_getElem hj)
    rw [this]
theorem n_contains (fi : FuncId) [Own Tryz.prog fi] (ca : List Value) (F : Sp.Rf → Bool) (l : List Sp.Rf) (hl : l.length ≤ 64) (I : Imm) (a : Option Addr) (cp : Nat) (hr : RowI I 83 2 (.slice a l.length cp) l.length (l.flatMap encRf))
    (hF : ∀ I', Le I I' → ∀ x, CalM Tryz.prog fi (.agg (encRf x).toArray :: ca).toArray I' [] (fun v _ H' => v = .bool (F x) ∧ H' = [])) :
    CalM Tryz.prog 63 #[.slice a l.length cp, .func (.func fi) #[] ca.toArray] I [] (fun v _ H' => v = .bool (l.any F) ∧ H' = []) := by
  refine CalM.of fun w E hm => enter (N := 9) Tryz.func63 rfl [(0, .slice a l.length cp), (1, .func (.func fi) #[] ca.toArray)] args2 rfl ?_
  have hc := n_idxRef fi ca F l hl I a cp hr hF
  have hany : l.any F = decide (0 ≤ (match l.findIdx? F with | some j => (j : Int) | none => -1)) := by
    cases h : l.findIdx? F with
    | some j =>
      obtain ⟨hj, e, _⟩ := List.findIdx?_eq_some_iff_getElem.1 h
      rw [List.any_eq_true.2 ⟨l[j], List.getElem_mem hj, e⟩]
      exact (decide_eq_true (show (0 : Int) ≤ (j : Int) by omega)).symm
    | none =>
      rw [List.findIdx?_eq_none_iff] at h
      rw [List.any_eq_false.2 (fun x hx => by rw [h x hx]; simp)]
      rfl
  rw [hany]
  generalize (match l.findIdx? F with | some j => (j : Int) | none => -1) = z at hc
  repeat' (first
  | (refine m_call (d:=7) hm (hc:=hc) (k:=?_); clear hm; rintro _ I4 _ _ ⟨rfl, rfl⟩ hle hm; have hleI4 := hle; try simp only [setn] at hm)
  | refine op_move (k:=?_)
  | refine op_assign (k:=?_)
  | refine op_geq (k:=?_)
  | refine wl_nil ?_
  | refine at_then_normal ?_
  | refine wc_seq ?_
  | refine wc_region ?_
  | refine wc_ret ?_
  | refine at_ret1 (h:=?_))
  exact ⟨I4, [], ⟨rfl, rfl⟩, hm.left (H := [])⟩
end Go.Proofs.YtkbiakajlfmakaaGreatDoor
end
section
namespace Go.Proofs.YtkbiakajlfmakaaGreatDoor
open Go.Fw
/-- a map that is copied. -/
structure WX where
  S : List Nat
  es : Ents
section
variable {I : Imm} {bc i cp dp up : Nat} {a da ua : Option Addr} {s : Sp.NW}
variable {src : List UInt8} {p : Nat} {q : List UInt8} {its : List Sp.Itm} {it : Sp.Itm} {xs : List Value}
set_option maxHeartbeats 8000000 in
theorem r_glob (hC : RC I src p q its i it a cp xs) (k : Int) (f : Nat) (u : List UInt8) (hst : Sp.stands q f u) (hd : s.n ≤ 1000000000) :
    CalM Tryz.prog 30 #[ptr bc, .int .i64 k, nt f, str u] I (WSt bc a its.length cp i s da dp ua up) (ToW bc a its.length cp i (Sp.itmN its p k f u s) (.int .i64 (Sp.findV its k u))) := by
  have hb := (hC.st.sub _ _ hst).1
  have hlen := hC.len
  have hri := hC.fe.row
  have hfew := hC.fe.few
  refine CalM.of fun w E hm => enter (N := 49) Tryz.func30 rfl [(0, ptr bc), (1, .int .i64 k), (2, nt f), (3, str u)] args4 rfl ?_
  have hfind := (r_find k u its I a cp xs hC.fe).read
  cases hf : Sp.findIt its k u with
  | none =>
    rw [Sp.findV, hf] at hfind ⊢
    dsimp only at hfind ⊢
    rw [Sp.itmN_none hf]
    by_cases hn : u = []
    · rw [if_pos hn]
      subst hn
      repeat' (first
      | (refine m_loadN (n := 1) (d := 13) (vs := [.slice a its.length cp]) hm (by rfl) (by rfl) (by rfl) (by first | exact gt0 | exact gt1 | exact gt2 | exact gt3 | exact gt4 | exact gt5 | exact gt6) (by rfl) (by rfl) ?_)
      | (refine m_readC (d:=16) hm (hc:=hfind) (k:=?_); clear hm; intro _ hm)
      | refine m_load1 hm (k:=?_)
      | refine i_load1 hm (k:=?_)
      | refine m_loadAll hm (k:=?_)
      | refine i_loadN hm (k:=?_)
      | refine i_load1z hm (k:=?_)
      | refine mq_load1 hm (k:=?_)
      | refine iq_load1 hm (k:=?_)
      | refine mq_loadAll hm (k:=?_)
      | refine iq_loadN hm (k:=?_)
      | refine iq_load1z hm (k:=?_)
      | refine m_ret_agg hm (h:=?_)
      | refine m_ret2_agg hm (h:=?_)
      | refine op_move (k:=?_)
      | refine op_assign (k:=?_)
      | refine op_geq (k:=?_)
      | refine op_neq (k:=?_)
      | refine op_neq_str (k:=?_)
      | refine op_neq_bool (k:=?_)
      | refine op_neq_flat (k:=?_)
      | refine op_nilCheck (k:=?_)
      | refine op_add (k:=?_)
      | refine op_add_u8 (k:=?_)
      | refine op_indexAddr_arr (k:=?_)
      | refine op_fieldAddr (k:=?_)
      | refine op_indexAddr (k:=?_)
      | refine op_load1 (k:=?_)
      | refine wl_nil ?_
      | refine at_then_normal ?_
      | refine at_then_ret ?_
      | refine wc_seq ?_
      | refine wc_region ?_
      | refine wc_skip ?_
      | refine wc_ret ?_
      | refine at_ret1 (h:=?_)
      | refine wc_quiet (h:=?_)
      | (refine wq_nil ?_; intro _ hkq; replace hm := hm.kept0 hkq; clear hkq)
      | (refine wq_nil_tail ?_; intro _ hkq; replace hm := hm.kept0 hkq; clear hkq)
      | refine wc_cond_true (ht:=?_)
      | refine wc_cond_false (hf:=?_)
      | (refine wc_cond_dec (ht:=fun _ => ?_) (hf:=fun _ => ?_)<;> (try first | contradiction | (exfalso; omega)))
      | refine wc_cond (ht:=fun _ => ?_) (hf:=fun _ => ?_)
      | refine q_move (k:=?_)
      | refine q_assign (k:=?_)
      | refine q_geq (k:=?_)
      | refine q_neq (k:=?_)
      | refine q_neq_str (k:=?_)
      | refine q_neq_bool (k:=?_)
      | refine q_neq_flat (k:=?_)
      | refine q_nilCheck (k:=?_)
      | refine q_add (k:=?_)
      | refine q_add_u8 (k:=?_)
      | refine q_indexAddr_arr (k:=?_)
      | refine q_fieldAddr (k:=?_)
      | refine q_indexAddr (k:=?_)
      | refine q_load1 (k:=?_))
      all_goals try (exfalso; first | omega | contradiction)
      exact ⟨I, _, ⟨rfl, _, _, _, _, rfl⟩, hm⟩
    · rw [if_neg hn]
      have hT := fun (J : Imm) => r_tell (I := J) (bc := bc) (a := a) (n := its.length) (cp := cp) (i := i) (s := s) (da := da) (dp := dp) (ua := ua) (up := up) u f 6 (by omega) hd
      repeat' (first
      | (refine m_loadN (n := 1) (d := 13) (vs := [.slice a its.length cp]) hm (by rfl) (by rfl) (by rfl) (by first | exact gt0 | exact gt1 | exact gt2 | exact gt3 | exact gt4 | exact gt5 | exact gt6) (by rfl) (by rfl) ?_)
      | (refine m_readC (d:=16) hm (hc:=hfind) (k:=?_); clear hm; intro _ hm)
      | (refine m_call (d:=47) hm (hc:=(hT I)) (k:=?_); clear hm; rintro _ I2 _ _ ⟨rfl, da2, dp2, ua2, up2, rfl⟩ hle hm; have hleI2 := hle; try simp only [setn] at hm)
      | refine m_load1 hm (k:=?_)
      | refine i_load1 hm (k:=?_)
      | refine m_loadAll hm (k:=?_)
      | refine i_loadN hm (k:=?_)
      | refine i_load1z hm (k:=?_)
      | refine mq_load1 hm (k:=?_)
      | refine iq_load1 hm (k:=?_)
      | refine mq_loadAll hm (k:=?_)
      | refine iq_loadN hm (k:=?_)
      | refine iq_load1z hm (k:=?_)
      | refine m_ret_agg hm (h:=?_)
      | refine m_ret2_agg hm (h:=?_)
      | refine op_move (k:=?_)
      | refine op_assign (k:=?_)
      | refine op_geq (k:=?_)
      | refine op_neq (k:=?_)
      | refine op_neq_str (k:=?_)
      | refine op_neq_bool (k:=?_)
      | refine op_neq_flat (k:=?_)
      | refine op_nilCheck (k:=?_)
      | refine op_add (k:=?_)
      | refine op_add_u8 (k:=?_)
      | refine op_indexAddr_arr (k:=?_)
      | refine op_fieldAddr (k:=?_)
      | refine op_indexAddr (k:=?_)
      | refine op_load1 (k:=?_)
      | refine wl_nil ?_
      | refine at_then_normal ?_
      | refine at_then_ret ?_
      | refine wc_seq ?_
      | refine wc_region ?_
      | refine wc_skip ?_
      | refine wc_ret ?_
      | refine at_ret1 (h:=?_)
      | refine wc_quiet (h:=?_)
      | (refine wq_nil ?_; intro _ hkq; replace hm := hm.kept0 hkq; clear hkq)
      | (refine wq_nil_tail ?_; intro _ hkq; replace hm := hm.kept0 hkq; clear hkq)
      | refine wc_cond_true (ht:=?_)
      | refine wc_cond_false (hf:=?_)
      | (refine wc_cond_dec (ht:=fun _ => ?_) (hf:=fun _ => ?_)<;> (try first | contradiction | (exfalso; omega)))
      | refine wc_cond (ht:=fun _ => ?_) (hf:=fun _ => ?_)
      | refine q_move (k:=?_)
      | refine q_assign (k:=?_)
      | refine q_geq (k:=?_)
      | refine q_neq (k:=?_)
      | refine q_neq_str (k:=?_)
      | refine q_neq_bool (k:=?_)
      | refine q_neq_flat (k:=?_)
      | refine q_nilCheck (k:=?_)
      | refine q_add (k:=?_)
      | refine q_add_u8 (k:=?_)
      | refine q_indexAddr_arr (k:=?_)
      | refine q_fieldAddr (k:=?_)
      | refine q_indexAddr (k:=?_)
      | refine q_load1 (k:=?_))
      all_goals try (exfalso; first | omega | contradiction)
      exact ⟨I2, _, ⟨rfl, _, _, _, _, rfl⟩, hm⟩
  | some j =>
    rw [Sp.findV, hf] at hfind ⊢
    dsimp only at hfind ⊢
    rw [Sp.itmN_some hf]
    obtain ⟨hj, _, _, _, hmemj⟩ := Sp.findIt_lt hf
    obtain ⟨_, dd, hdd, hds⟩ := Sp.findIt_ok hC.sts hf
    have hd0 := hds.1
    have hU := fun (J : Imm) (m : Le I J) => r_use (I := J) (bc := bc) (s := s) (da := da) (dp := dp) (ua := ua) (up := up) (hC.le m) f u ((Sp.itNo its j).at_ + (Sp.itNo its j).mark) hst hd
    obtain ⟨ci, hci, hat, hlc⟩ := hC.fe.get (Sp.itNo_get hj)
    obtain ⟨pa, pc, sa9, sc9, ba, bc9, da9, dc9, xb, rfl, _⟩ := hat
    repeat' (first
    | (refine m_loadN (n := 1) (d := 13) (vs := [.slice a its.length cp]) hm (by rfl) (by rfl) (by rfl) (by first | exact gt0 | exact gt1 | exact gt2 | exact gt3 | exact gt4 | exact gt5 | exact gt6) (by rfl) (by rfl) ?_)
    | (refine m_readC (d:=16) hm (hc:=hfind) (k:=?_); clear hm; intro _ hm)
    | (refine wc_quiet_tail (id:=3) 22 (h:=?_))
    | (refine iq_indexAddr (d:=28) (hr:=hri) (k:=?_); intro bt ot hpt; rw [show ((j : Int).toNat * 10) = j * 10 from rfl, hci] at hpt)
    | (refine iq_indexAddr (d:=37) (hr:=hri) (k:=?_); intro bu ou hpu; rw [show ((j : Int).toNat * 10) = j * 10 from rfl, hci] at hpu)
    | (refine m_call (d:=41) hm (hc:=(hU I (Le.refl _))) (k:=?_); clear hm; rintro _ I2 _ _ ⟨rfl, da2, dp2, ua2, up2, rfl⟩ hle hm; have hleI2 := hle; try simp only [setn] at hm)
    | refine m_load1 hm (k:=?_)
    | refine i_load1 hm (k:=?_)
    | refine m_loadAll hm (k:=?_)
    | refine i_loadN hm (k:=?_)
    | refine i_load1z hm (k:=?_)
    | refine mq_load1 hm (k:=?_)
    | refine iq_load1 hm (k:=?_)
    | refine mq_loadAll hm (k:=?_)
    | refine iq_loadN hm (k:=?_)
    | refine iq_load1z hm (k:=?_)
    | refine m_ret_agg hm (h:=?_)
    | refine m_ret2_agg hm (h:=?_)
    | refine op_move (k:=?_)
    | refine op_assign (k:=?_)
    | refine op_geq (k:=?_)
    | refine op_neq (k:=?_)
    | refine op_neq_str (k:=?_)
    | refine op_neq_bool (k:=?_)
    | refine op_neq_flat (k:=?_)
    | refine op_nilCheck (k:=?_)
    | refine op_add (k:=?_)
    | refine op_add_u8 (k:=?_)
    | refine op_indexAddr_arr (k:=?_)
    | refine op_fieldAddr (k:=?_)
    | refine op_indexAddr (k:=?_)
    | refine op_load1 (k:=?_)
    | refine wl_nil ?_
    | refine at_then_normal ?_
    | refine at_then_ret ?_
    | refine wc_seq ?_
    | refine wc_region ?_
    | refine wc_skip ?_
    | refine wc_ret ?_
    | refine at_ret1 (h:=?_)
    | refine wc_quiet (h:=?_)
    | (refine wq_nil ?_; intro _ hkq; replace hm := hm.kept0 hkq; clear hkq)
    | (refine wq_nil_tail ?_; intro _ hkq; replace hm := hm.kept0 hkq; clear hkq)
    | refine wc_cond_true (ht:=?_)
    | refine wc_cond_false (hf:=?_)
    | (refine wc_cond_dec (ht:=fun _ => ?_) (hf:=fun _ => ?_)<;> (try first | contradiction | (exfalso; omega)))
    | refine wc_cond (ht:=fun _ => ?_) (hf:=fun _ => ?_)
    | refine q_move (k:=?_)
    | refine q_assign (k:=?_)
    | refine q_geq (k:=?_)
    | refine q_neq (k:=?_)
    | refine q_neq_str (k:=?_)
    | refine q_neq_bool (k:=?_)
    | refine q_neq_flat (k:=?_)
    | refine q_nilCheck (k:=?_)
    | refine q_add (k:=?_)
    | refine q_add_u8 (k:=?_)
    | refine q_indexAddr_arr (k:=?_)
    | refine q_fieldAddr (k:=?_)
    | refine q_indexAddr (k:=?_)
    | refine q_load1 (k:=?_))
    all_goals try (exfalso; first | omega | contradiction)
    exact ⟨I2, _, ⟨rfl, _, _, _, _, rfl⟩, hm⟩
theorem env_start (I : Imm) (p b : Nat) (h : MapI I b []) : EnvI I p [] b [] := ⟨h, fun n => rfl⟩
set_option maxHeartbeats 16000000 in
theorem r_with (hC : RC I src p q its i it a cp xs) {be : Nat} {es : Ents} {sc : List Sp.Lc} (hE : EnvI I p sc be es) (u : List UInt8) (f : Nat) (hst : Sp.stands q f u) (hd : s.n ≤ 1000000000) :
    CalM Tryz.prog 29 #[ptr bc, .map (some be), str u, nt f] I (WSt bc a its.length cp i s da dp ua up)
      (fun v J H' => ∃ b2 es2, v = .map (some b2) ∧ EnvI J p (Sp.mkN u f sc s).1 b2 es2 ∧ ∃ da dp ua up, H' = WSt bc a its.length cp i (Sp.mkN u f sc s).2 da dp ua up) := by
  have hb := (hC.st.sub _ _ hst).1
  have hlen := hC.len
  have hri := hC.fe.row
  have hfew := hC.fe.few
  have hat := hC.st.at_
  have hi := (List.getElem?_eq_some_iff.1 hC.at_).1
  obtain ⟨ci, hci, hati, _⟩ := hC.fe.get hC.at_
  obtain ⟨pa, pc, sa9, sc9, ba, bc9, da9, dc9, xb, rfl, _⟩ := hati
  rw [hat] at hci
  refine CalM.of fun w E hm => enter (N := 56) Tryz.func29 rfl [(0, ptr bc), (1, .map (some be)), (2, str u), (3, nt f)] args4 rfl ?_
  repeat' (first
  | (refine m_makeMap (d:=14) hm (k:=?_); clear hm; intro bm _ hm)
  | (refine wc_cut_regN 2 (fun _ : WX => [(0, ptr bc), (1, .map (some be)), (2, str u), (3, nt f), (9, .map (some bm))]) (fun x w' => Mem E I (.mp bm x.es :: WSt bc a its.length cp i s da dp ua up) w' ∧ (x.es.map (·.1)).Nodup ∧ ∀ m, mget x.es m = mget es m) ?_ ?_)
  | refine m_load1 hm (k:=?_)
  | refine i_load1 hm (k:=?_)
  | refine m_loadAll hm (k:=?_)
  | refine i_loadN hm (k:=?_)
  | refine i_load1z hm (k:=?_)
  | refine mq_load1 hm (k:=?_)
  | refine iq_load1 hm (k:=?_)
  | refine mq_loadAll hm (k:=?_)
  | refine iq_loadN hm (k:=?_)
  | refine iq_load1z hm (k:=?_)
  | refine m_ret_agg hm (h:=?_)
  | refine m_ret2_agg hm (h:=?_)
  | refine op_move (k:=?_)
  | refine op_assign (k:=?_)
  | refine op_eql (k:=?_)
  | refine op_eql_str (k:=?_)
  | refine op_eql_bool (k:=?_)
  | refine op_eql_flat (k:=?_)
  | refine op_extract (k:=?_)
  | refine op_nilCheck (k:=?_)
  | refine op_add (k:=?_)
  | refine op_add_u8 (k:=?_)
  | refine op_indexAddr_arr (k:=?_)
  | refine op_fieldAddr (k:=?_)
  | refine op_indexAddr (k:=?_)
  | refine op_load1 (k:=?_)
  | refine wl_nil ?_
  | refine at_then_normal ?_
  | refine at_then_ret ?_
  | refine at_then_exit ?_
  | refine at_block_normal ?_
  | refine at_block_ret ?_
  | refine at_block_exit ?_
  | refine at_block_other (h:=?_)
  | refine wc_seq ?_
  | refine wc_region ?_
  | refine wc_block ?_
  | refine wc_skip ?_
  | refine wc_exit ?_
  | refine wc_ret ?_
  | refine at_ret1 (h:=?_)
  | refine wc_quiet (h:=?_)
  | (refine wq_nil ?_; intro _ hkq; replace hm := hm.kept0 hkq; clear hkq)
  | (refine wq_nil_tail ?_; intro _ hkq; replace hm := hm.kept0 hkq; clear hkq)
  | refine wc_cond_true (ht:=?_)
  | refine wc_cond_false (hf:=?_)
  | (refine wc_cond_dec (ht:=fun _ => ?_) (hf:=fun _ => ?_)<;> (try first | contradiction | (exfalso; omega)))
  | refine wc_cond (ht:=fun _ => ?_) (hf:=fun _ => ?_)
  | refine q_move (k:=?_)
  | refine q_assign (k:=?_)
  | refine q_eql (k:=?_)
  | refine q_eql_str (k:=?_)
  | refine q_eql_bool (k:=?_)
  | refine q_eql_flat (k:=?_)
  | refine q_extract (k:=?_)
  | refine q_nilCheck (k:=?_)
  | refine q_add (k:=?_)
  | refine q_add_u8 (k:=?_)
  | refine q_indexAddr_arr (k:=?_)
  | refine q_fieldAddr (k:=?_)
  | refine q_indexAddr (k:=?_)
  | refine q_load1 (k:=?_))
  · refine ⟨?_⟩
    repeat' (first
    | (refine m_range (d := 16) hm (by rfl) (by rfl) (by rfl) (hm.mapI hE.map) ?_; clear hm; intro r _ hm)
    | refine m_load1 hm (k:=?_)
    | refine i_load1 hm (k:=?_)
    | refine m_loadAll hm (k:=?_)
    | refine i_loadN hm (k:=?_)
    | refine i_load1z hm (k:=?_)
    | refine mq_load1 hm (k:=?_)
    | refine iq_load1 hm (k:=?_)
    | refine mq_loadAll hm (k:=?_)
    | refine iq_loadN hm (k:=?_)
    | refine iq_load1z hm (k:=?_)
    | refine m_ret_agg hm (h:=?_)
    | refine m_ret2_agg hm (h:=?_)
    | refine op_move (k:=?_)
    | refine op_assign (k:=?_)
    | refine op_eql (k:=?_)
    | refine op_eql_str (k:=?_)
    | refine op_eql_bool (k:=?_)
    | refine op_eql_flat (k:=?_)
    | refine op_extract (k:=?_)
    | refine op_nilCheck (k:=?_)
    | refine op_add (k:=?_)
    | refine op_add_u8 (k:=?_)
    | refine op_indexAddr_arr (k:=?_)
    | refine op_fieldAddr (k:=?_)
    | refine op_indexAddr (k:=?_)
    | refine op_load1 (k:=?_)
    | refine wl_nil ?_
    | refine at_then_normal ?_
    | refine at_then_ret ?_
    | refine at_then_exit ?_
    | refine at_block_normal ?_
    | refine at_block_ret ?_
    | refine at_block_exit ?_
    | refine at_block_other (h:=?_)
    | refine wc_seq ?_
    | refine wc_region ?_
    | refine wc_block ?_
    | refine wc_skip ?_
    | refine wc_exit ?_
    | refine wc_ret ?_
    | refine at_ret1 (h:=?_)
    | refine wc_quiet (h:=?_)
    | (refine wq_nil ?_; intro _ hkq; replace hm := hm.kept0 hkq; clear hkq)
    | (refine wq_nil_tail ?_; intro _ hkq; replace hm := hm.kept0 hkq; clear hkq)
    | refine wc_cond_true (ht:=?_)
    | refine wc_cond_false (hf:=?_)
    | (refine wc_cond_dec (ht:=fun _ => ?_) (hf:=fun _ => ?_)<;> (try first | contradiction | (exfalso; omega)))
    | refine wc_cond (ht:=fun _ => ?_) (hf:=fun _ => ?_)
    | refine q_move (k:=?_)
    | refine q_assign (k:=?_)
    | refine q_eql (k:=?_)
    | refine q_eql_str (k:=?_)
    | refine q_eql_bool (k:=?_)
    | refine q_eql_flat (k:=?_)
    | refine q_extract (k:=?_)
    | refine q_nilCheck (k:=?_)
    | refine q_add (k:=?_)
    | refine q_add_u8 (k:=?_)
    | refine q_indexAddr_arr (k:=?_)
    | refine q_fieldAddr (k:=?_)
    | refine q_indexAddr (k:=?_)
    | refine q_load1 (k:=?_))
    refine wc_loop (fun _ : WX => [(0, ptr bc), (1, .map (some be)), (2, str u), (3, nt f), (9, .map (some bm)), (16, ptr r)])
      (fun x w' => Mem E I (.it r be es.length x.S :: .mp bm x.es :: WSt bc a its.length cp i s da dp ua up) w' ∧ Copied es x.S x.es) (fun x => leftN es.length x.S) ⟨[], []⟩
      (by exact ⟨rfl, rfl, rfl, rfl, rfl, rfl, trivial⟩) ⟨hm, Copied.start es⟩ ?_
    clear hm
    rintro ⟨S, es2⟩ w1 ⟨hm, hcp⟩
    dsimp only at hm hcp ⊢
    repeat' (first
    | (refine m_next (d := 17) hm (by rfl) (by rfl) (by rfl) (by first | exact gt0 | exact gt1 | exact gt2 | exact gt3 | exact gt4 | exact gt5 | exact gt6) (hm.mapI hE.map) (fun hall => ?_) (fun j ku kv w2 hj hS hm2 => ?_))
    | (refine m_entry (d := 19) hm2 (by rfl) (by rfl) (by rfl) (by first | exact gt0 | exact gt1 | exact gt2 | exact gt3 | exact gt4 | exact gt5 | exact gt6) (hm2.mapI hE.map) hj ?_; clear hm; have hm := hm2; clear hm2; try simp only [setn] at hm)
    | (refine wl_mapUpdate ?_; refine m_put hm (by rfl) (by rfl) (by rfl) (by rfl) (by rfl) (by first | exact gt0 | exact gt1 | exact gt2 | exact gt3 | exact gt4 | exact gt5 | exact gt6) hcp.nodup ?_; clear hm; intro _ hm; try simp only [setn] at hm)
    | refine m_load1 hm (k:=?_)
    | refine i_load1 hm (k:=?_)
    | refine m_loadAll hm (k:=?_)
    | refine i_loadN hm (k:=?_)
    | refine i_load1z hm (k:=?_)
    | refine mq_load1 hm (k:=?_)
    | refine iq_load1 hm (k:=?_)
    | refine mq_loadAll hm (k:=?_)
    | refine iq_loadN hm (k:=?_)
    | refine iq_load1z hm (k:=?_)
    | refine m_ret_agg hm (h:=?_)
    | refine m_ret2_agg hm (h:=?_)
    | refine op_move (k:=?_)
    | refine op_assign (k:=?_)
    | refine op_eql (k:=?_)
    | refine op_eql_str (k:=?_)
    | refine op_eql_bool (k:=?_)
    | refine op_eql_flat (k:=?_)
    | refine op_extract (k:=?_)
    | refine op_nilCheck (k:=?_)
    | refine op_add (k:=?_)
    | refine op_add_u8 (k:=?_)
    | refine op_indexAddr_arr (k:=?_)
    | refine op_fieldAddr (k:=?_)
    | refine op_indexAddr (k:=?_)
    | refine op_load1 (k:=?_)
    | refine wl_nil ?_
    | refine at_then_normal ?_
    | refine at_then_ret ?_
    | refine at_then_exit ?_
    | refine at_block_normal ?_
    | refine at_block_ret ?_
    | refine at_block_exit ?_
    | refine at_block_other (h:=?_)
    | refine wc_seq ?_
    | refine wc_region ?_
    | refine wc_block ?_
    | refine wc_skip ?_
    | refine wc_exit ?_
    | refine wc_ret ?_
    | refine at_ret1 (h:=?_)
    | refine wc_quiet (h:=?_)
    | (refine wq_nil ?_; intro _ hkq; replace hm := hm.kept0 hkq; clear hkq)
    | (refine wq_nil_tail ?_; intro _ hkq; replace hm := hm.kept0 hkq; clear hkq)
    | refine wc_cond_true (ht:=?_)
    | refine wc_cond_false (hf:=?_)
    | (refine wc_cond_dec (ht:=fun _ => ?_) (hf:=fun _ => ?_)<;> (try first | contradiction | (exfalso; omega)))
    | refine wc_cond (ht:=fun _ => ?_) (hf:=fun _ => ?_)
    | refine q_move (k:=?_)
    | refine q_assign (k:=?_)
    | refine q_eql (k:=?_)
    | refine q_eql_str (k:=?_)
    | refine q_eql_bool (k:=?_)
    | refine q_eql_flat (k:=?_)
    | refine q_extract (k:=?_)
    | refine q_nilCheck (k:=?_)
    | refine q_add (k:=?_)
    | refine q_add_u8 (k:=?_)
    | refine q_indexAddr_arr (k:=?_)
    | refine q_fieldAddr (k:=?_)
    | refine q_indexAddr (k:=?_)
    | refine q_load1 (k:=?_))
    · exact at_cut (⟨S, es2⟩ : WX) (by exact ⟨rfl, rfl, rfl, rfl, rfl, trivial⟩) ⟨hm.tl, hcp.nodup, hcp.done hE.map.nodup hall⟩
    · exact at_round (⟨S ++ [j], mput es2 ku kv⟩ : WX) (by exact ⟨rfl, rfl, rfl, rfl, rfl, rfl, trivial⟩) ⟨hm, hcp.put hE.map.nodup hj⟩ (leftN_step (List.getElem?_eq_some_iff.1 hj).1 hS)
  · clear hm
    rintro ⟨S, es2⟩ w1 ⟨hm, hnd, hsame⟩
    dsimp only at hm hnd hsame ⊢
    have hg := hE.get u
    by_cases hn : u = []
    · subst hn
      rw [show Sp.mkN [] f sc s = (sc, s) by rw [Sp.mkN, if_pos rfl]]
      repeat' (first
      | refine m_load1 hm (k:=?_)
      | refine i_load1 hm (k:=?_)
      | refine m_loadAll hm (k:=?_)
      | refine i_loadN hm (k:=?_)
      | refine i_load1z hm (k:=?_)
      | refine mq_load1 hm (k:=?_)
      | refine iq_load1 hm (k:=?_)
      | refine mq_loadAll hm (k:=?_)
      | refine iq_loadN hm (k:=?_)
      | refine iq_load1z hm (k:=?_)
      | refine m_ret_agg hm (h:=?_)
      | refine m_ret2_agg hm (h:=?_)
      | refine op_move (k:=?_)
      | refine op_assign (k:=?_)
      | refine op_eql (k:=?_)
      | refine op_eql_str (k:=?_)
      | refine op_eql_bool (k:=?_)
      | refine op_eql_flat (k:=?_)
      | refine op_extract (k:=?_)
      | refine op_nilCheck (k:=?_)
      | refine op_add (k:=?_)
      | refine op_add_u8 (k:=?_)
      | refine op_indexAddr_arr (k:=?_)
      | refine op_fieldAddr (k:=?_)
      | refine op_indexAddr (k:=?_)
      | refine op_load1 (k:=?_)
      | refine wl_nil ?_
      | refine at_then_normal ?_
      | refine at_then_ret ?_
      | refine at_then_exit ?_
      | refine at_block_normal ?_
      | refine at_block_ret ?_
      | refine at_block_exit ?_
      | refine at_block_other (h:=?_)
      | refine wc_seq ?_
      | refine wc_region ?_
      | refine wc_block ?_
      | refine wc_skip ?_
      | refine wc_exit ?_
      | refine wc_ret ?_
      | refine at_ret1 (h:=?_)
      | refine wc_quiet (h:=?_)
      | (refine wq_nil ?_; intro _ hkq; replace hm := hm.kept0 hkq; clear hkq)
      | (refine wq_nil_tail ?_; intro _ hkq; replace hm := hm.kept0 hkq; clear hkq)
      | refine wc_cond_true (ht:=?_)
      | refine wc_cond_false (hf:=?_)
      | (refine wc_cond_dec (ht:=fun _ => ?_) (hf:=fun _ => ?_)<;> (try first | contradiction | (exfalso; omega)))
      | refine wc_cond (ht:=fun _ => ?_) (hf:=fun _ => ?_)
      | refine q_move (k:=?_)
      | refine q_assign (k:=?_)
      | refine q_eql (k:=?_)
      | refine q_eql_str (k:=?_)
      | refine q_eql_bool (k:=?_)
      | refine q_eql_flat (k:=?_)
      | refine q_extract (k:=?_)
      | refine q_nilCheck (k:=?_)
      | refine q_add (k:=?_)
      | refine q_add_u8 (k:=?_)
      | refine q_indexAddr_arr (k:=?_)
      | refine q_fieldAddr (k:=?_)
      | refine q_indexAddr (k:=?_)
      | refine q_load1 (k:=?_))
      all_goals try (exfalso; first | omega | contradiction)
      obtain ⟨J, hJ, hmJ, hmap⟩ := hm.freezeM hnd
      exact ⟨J, _, ⟨bm, es2, rfl, ⟨hmap, fun m => (hsame m).trans (hE.get m)⟩, _, _, _, _, rfl⟩, hmJ⟩
    have hfin : ∀ m, mget (mput es2 u (.int .i64 ((p : Int) + f))) m = (Sp.findLc (sc ++ [⟨u, f⟩]) m).map (fun l => .int .i64 ((p : Int) + l.at_)) := fun m => by
      rw [mget_mput m hnd, Sp.findLc_snoc]
      by_cases e : m = u
      · subst e; rw [if_pos rfl, if_pos rfl]; rfl
      · rw [if_neg e, if_neg (fun h => e h.symm), hsame, hE.get]
    cases hf : Sp.findLc sc u with
    | some l =>
      rw [hf] at hg
      rw [Sp.mkN_some hn hf]
      have hT := fun (J : Imm) => r_tell (I := J) (bc := bc) (a := a) (n := its.length) (cp := cp) (i := i) (s := s) (da := da) (dp := dp) (ua := ua) (up := up) u f 7 (by omega) hd
      repeat' (first
      | (refine op_lookup2 (d := 31) (by rfl) (by rfl) (by rfl) (by rfl) (hm.mapI hE.map) zero_num ?_; rw [hg]; dsimp only [Option.map_some, Option.getD_some, Option.isSome_some])
      | (refine m_call (d:=38) hm (hp:=pm3_1) (hc:=hT I) (k:=?_); clear hm; rintro _ I2 _ _ ⟨rfl, da2, dp2, ua2, up2, rfl⟩ hleI2 hm; try simp only [setn] at hm; have hri2 := hri.le hleI2)
      | (refine wc_quiet_tail (id:=11) 16 (h:=?_))
      | (refine iq_indexAddr (d:=50) (hr:=hri2) (k:=?_); intro bt ot hpt; rw [show ((i : Int).toNat * 10) = i * 10 from rfl, hci] at hpt)
      | (refine wl_mapUpdate ?_; refine m_put hm (by rfl) (by rfl) (by rfl) (by rfl) (by rfl) (by first | exact gt0 | exact gt1 | exact gt2 | exact gt3 | exact gt4 | exact gt5 | exact gt6) hnd ?_; clear hm; intro _ hm; try simp only [setn] at hm)
      | refine m_load1 hm (k:=?_)
      | refine i_load1 hm (k:=?_)
      | refine m_loadAll hm (k:=?_)
      | refine i_loadN hm (k:=?_)
      | refine i_load1z hm (k:=?_)
      | refine mq_load1 hm (k:=?_)
      | refine iq_load1 hm (k:=?_)
      | refine mq_loadAll hm (k:=?_)
      | refine iq_loadN hm (k:=?_)
      | refine iq_load1z hm (k:=?_)
      | refine m_ret_agg hm (h:=?_)
      | refine m_ret2_agg hm (h:=?_)
      | refine op_move (k:=?_)
      | refine op_assign (k:=?_)
      | refine op_eql (k:=?_)
      | refine op_eql_str (k:=?_)
      | refine op_eql_bool (k:=?_)
      | refine op_eql_flat (k:=?_)
      | refine op_extract (k:=?_)
      | refine op_nilCheck (k:=?_)
      | refine op_add (k:=?_)
      | refine op_add_u8 (k:=?_)
      | refine op_indexAddr_arr (k:=?_)
      | refine op_fieldAddr (k:=?_)
      | refine op_indexAddr (k:=?_)
      | refine op_load1 (k:=?_)
      | refine wl_nil ?_
      | refine at_then_normal ?_
      | refine at_then_ret ?_
      | refine at_then_exit ?_
      | refine at_block_normal ?_
      | refine at_block_ret ?_
      | refine at_block_exit ?_
      | refine at_block_other (h:=?_)
      | refine wc_seq ?_
      | refine wc_region ?_
      | refine wc_block ?_
      | refine wc_skip ?_
      | refine wc_exit ?_
      | refine wc_ret ?_
      | refine at_ret1 (h:=?_)
      | refine wc_quiet (h:=?_)
      | (refine wq_nil ?_; intro _ hkq; replace hm := hm.kept0 hkq; clear hkq)
      | (refine wq_nil_tail ?_; intro _ hkq; replace hm := hm.kept0 hkq; clear hkq)
      | refine wc_cond_true (ht:=?_)
      | refine wc_cond_false (hf:=?_)
      | (refine wc_cond_dec (ht:=fun _ => ?_) (hf:=fun _ => ?_)<;> (try first | contradiction | (exfalso; omega)))
      | refine wc_cond (ht:=fun _ => ?_) (hf:=fun _ => ?_)
      | refine q_move (k:=?_)
      | refine q_assign (k:=?_)
      | refine q_eql (k:=?_)
      | refine q_eql_str (k:=?_)
      | refine q_eql_bool (k:=?_)
      | refine q_eql_flat (k:=?_)
      | refine q_extract (k:=?_)
      | refine q_nilCheck (k:=?_)
      | refine q_add (k:=?_)
      | refine q_add_u8 (k:=?_)
      | refine q_indexAddr_arr (k:=?_)
      | refine q_fieldAddr (k:=?_)
      | refine q_indexAddr (k:=?_)
      | refine q_load1 (k:=?_))
      all_goals try (exfalso; first | omega | contradiction)
      obtain ⟨J, hJ, hmJ, hmap⟩ := (hm.front 3 rfl).freezeM (mput_nodup hnd)
      exact ⟨J, _, ⟨bm, _, rfl, ⟨hmap, hfin⟩, _, _, _, _, rfl⟩, hmJ⟩
    | none =>
      rw [hf] at hg
      rw [Sp.mkN_none hn hf]
      repeat' (first
      | (refine op_lookup2 (d := 31) (by rfl) (by rfl) (by rfl) (by rfl) (hm.mapI hE.map) zero_num ?_; rw [hg]; dsimp only [Option.map_none, Option.getD_none, Option.isSome_none])
      | (refine wc_quiet_tail (id:=11) 16 (h:=?_))
      | (refine iq_indexAddr (d:=50) (hr:=hri) (k:=?_); intro bt ot hpt; rw [show ((i : Int).toNat * 10) = i * 10 from rfl, hci] at hpt)
      | (refine wl_mapUpdate ?_; refine m_put hm (by rfl) (by rfl) (by rfl) (by rfl) (by rfl) (by first | exact gt0 | exact gt1 | exact gt2 | exact gt3 | exact gt4 | exact gt5 | exact gt6) hnd ?_; clear hm; intro _ hm; try simp only [setn] at hm)
      | refine m_load1 hm (k:=?_)
      | refine i_load1 hm (k:=?_)
      | refine m_loadAll hm (k:=?_)
      | refine i_loadN hm (k:=?_)
      | refine i_load1z hm (k:=?_)
      | refine mq_load1 hm (k:=?_)
      | refine iq_load1 hm (k:=?_)
      | refine mq_loadAll hm (k:=?_)
      | refine iq_loadN hm (k:=?_)
      | refine iq_load1z hm (k:=?_)
      | refine m_ret_agg hm (h:=?_)
      | refine m_ret2_agg hm (h:=?_)
      | refine op_move (k:=?_)
      | refine op_assign (k:=?_)
      | refine op_eql (k:=?_)
      | refine op_eql_str (k:=?_)
      | refine op_eql_bool (k:=?_)
      | refine op_eql_flat (k:=?_)
      | refine op_extract (k:=?_)
      | refine op_nilCheck (k:=?_)
      | refine op_add (k:=?_)
      | refine op_add_u8 (k:=?_)
      | refine op_indexAddr_arr (k:=?_)
      | refine op_fieldAddr (k:=?_)
      | refine op_indexAddr (k:=?_)
      | refine op_load1 (k:=?_)
      | refine wl_nil ?_
      | refine at_then_normal ?_
      | refine at_then_ret ?_
      | refine at_then_exit ?_
      | refine at_block_normal ?_
      | refine at_block_ret ?_
      | refine at_block_exit ?_
      | refine at_block_other (h:=?_)
      | refine wc_seq ?_
      | refine wc_region ?_
      | refine wc_block ?_
      | refine wc_skip ?_
      | refine wc_exit ?_
      | refine wc_ret ?_
      | refine at_ret1 (h:=?_)
      | refine wc_quiet (h:=?_)
      | (refine wq_nil ?_; intro _ hkq; replace hm := hm.kept0 hkq; clear hkq)
      | (refine wq_nil_tail ?_; intro _ hkq; replace hm := hm.kept0 hkq; clear hkq)
      | refine wc_cond_true (ht:=?_)
      | refine wc_cond_false (hf:=?_)
      | (refine wc_cond_dec (ht:=fun _ => ?_) (hf:=fun _ => ?_)<;> (try first | contradiction | (exfalso; omega)))
      | refine wc_cond (ht:=fun _ => ?_) (hf:=fun _ => ?_)
      | refine q_move (k:=?_)
      | refine q_assign (k:=?_)
      | refine q_eql (k:=?_)
      | refine q_eql_str (k:=?_)
      | refine q_eql_bool (k:=?_)
      | refine q_eql_flat (k:=?_)
      | refine q_extract (k:=?_)
      | refine q_nilCheck (k:=?_)
      | refine q_add (k:=?_)
      | refine q_add_u8 (k:=?_)
      | refine q_indexAddr_arr (k:=?_)
      | refine q_fieldAddr (k:=?_)
      | refine q_indexAddr (k:=?_)
      | refine q_load1 (k:=?_))
      all_goals try (exfalso; first | omega | contradiction)
      obtain ⟨J, hJ, hmJ, hmap⟩ := hm.freezeM (mput_nodup hnd)
      exact ⟨J, _, ⟨bm, _, rfl, ⟨hmap, hfin⟩, _, _, _, _, rfl⟩, hmJ⟩
end
end Go.Proofs.YtkbiakajlfmakaaGreatDoor
end
