/- Own work: texts RpB, RpC, RpD, RpE1, one behind the other. -/
import Derived.Test.YtjfkjpbkmpofkaaIt24
section
namespace Go.Proofs.Ytjfkjpbkmpofkaa
open Go.Fw
/-- the parser comes to have told 'ds'. -/
abbrev To (pb : Nat) (la : Option Addr) (lc : Nat) (T : Sp.Src) (deep : Nat) (I : Imm) (ds : List Sp.Dg) (val : Value) : Value → Imm → List HItem → Prop :=
  fun v I' H' => v = val ∧ I = I' ∧ ∃ da dc, H' = PSt pb la lc T ds deep da dc
theorem PSt_snoc (pb : Nat) (la : Option Addr) (lc : Nat) (T : Sp.Src) (ds : List Sp.Dg) (g : Sp.Dg) (deep : Nat) (da : Option Addr) (dc : Nat) :
    [.obj pb (.cells [.slice la T.l.length lc, nt T.size, .slice da (ds.length + 1) dc, nt deep].toArray 93 (0, 0)), .row (.slice da (ds.length + 1) dc) 82 4 (ds.length + 1) (ds.flatMap encDg ++ encDg g)] = PSt pb la lc T (ds ++ [g]) deep da dc := by
  simp [List.flatMap_append]
section
variable {I : Imm} {pb deep lc dc : Nat} {la da : Option Addr} {T : Sp.Src} {ds : List Sp.Dg}

theorem c_bad (i e : Nat) (hr : TokR I T la lc) (hT : Ok T) (hd : ds.length < 1099511627776) : CalM Try.prog 40 #[ptr pb, nt i, nt e] I (PSt pb la lc T ds deep da dc)
    (To pb la lc T deep I (ds ++ [⟨(T.tok i).pos, (T.tok i).pos + (T.tok i).text.length, e, (T.tok i).text⟩]) (.tuple #[])) := by
  refine ⟨fun w hm => enter (N := 31) Try.func40 rfl [(0, ptr pb), (1, nt i), (2, nt e)] args3 rfl ?_⟩
  have h1 := hT.at_ i
  have h2 := hT.size
  repeat' (first
  | (refine m_readC hm (hc:=c_T i hr) (k:=?_); clear hm; intro _ hm)
  | (refine wc_semi 17 19 (dgRow ds da dc).blk.toList (h:=?_); intro wd hkd; replace hm := hm.kept0 hkd; clear hkd; have hC := Kept.refl (dgRow ds da dc).blk.toList wd)
  | refine mv_load1 hm (k:=?_)
  | (refine ms_push (d:=28) hm hC (k:=?_); clear hm hC; intro a28 cp28 _ _ hm; try simp only [setn] at hm)
  | (refine m_varS (d:=6) hm (k:=?_); clear hm; intro b6 _ hm)
  | (refine m_store1 hm (k:=?_); clear hm; intro _ hm; try simp only [setn] at hm)
  | refine op_move (k:=?_)
  | refine op_nilCheck (k:=?_)
  | refine op_fieldAddr (k:=?_)
  | refine wl_nil ?_
  | refine at_then_normal ?_
  | refine wc_seq ?_
  | refine wc_region ?_
  | refine at_end0 (h:=?_)
  | refine v_move (k:=?_)
  | refine v_len_str (k:=?_)
  | refine v_nilCheck (k:=?_)
  | refine v_add (k:=?_)
  | refine v_fieldAddr (k:=?_)
  | refine v_struct (k:=?_)
  | refine wv_nil ?_)
  exact ⟨I, _, ⟨rfl, rfl, _, _, PSt_snoc _ _ _ _ _ ⟨_, _, _, _⟩ _ _ _⟩, hm.tl⟩

theorem c_need (s : Sp.St) (t : List UInt8) (hr : TokR I T la lc) (hT : Ok T) (hd : s.ds.length < 1099511627776) (hi : s.i ≤ T.l.length) :
    CalM Try.prog 38 #[ptr pb, nt s.i, str t] I (PSt pb la lc T s.ds deep da dc) (To pb la lc T deep I (s.need T t).2.ds (.tuple #[nt (s.need T t).2.i, .bool (s.need T t).1])) := by
  refine ⟨fun w hm => enter (N := 18) Try.func38 rfl [(0, ptr pb), (1, nt s.i), (2, str t)] args3 rfl ?_⟩
  have h2 := hT.size
  have h3 := hT.len
  have hq := fun ds deep da dc => c_is (pb := pb) (ds := ds) (deep := deep) (da := da) (dc := dc) s.i t hr
  rw [Sp.St.need]
  generalize T.is s.i t = q at hq
  cases q
  · rw [if_neg (by simp)]
    repeat' (first
    | (refine m_readC hm (hc:=hq _ _ _ _) (k:=?_); clear hm; intro _ hm)
    | (refine m_call hm (hc:=c_bad s.i 2 hr hT hd) (k:=?_); clear hm; rintro _ _ _ _ ⟨rfl, rfl, da', dc', rfl⟩ hle hm; try simp only [setn] at hm)
    | refine op_move (k:=?_)
    | refine op_assign (k:=?_)
    | refine wl_nil ?_
    | refine at_then_normal ?_
    | refine wc_seq ?_
    | refine wc_region ?_
    | refine wc_skip ?_
    | refine wc_ret ?_
    | refine at_ret2 (h:=?_)
    | refine wc_cond_false (hf:=?_))
    exact ⟨I, _, ⟨rfl, rfl, da', dc', rfl⟩, hm⟩
  · rw [if_pos rfl]
    repeat' (first
    | (refine m_readC hm (hc:=hq _ _ _ _) (k:=?_); clear hm; intro _ hm)
    | refine op_move (k:=?_)
    | refine op_assign (k:=?_)
    | refine op_add (k:=?_)
    | refine wl_nil ?_
    | refine at_then_normal ?_
    | refine at_then_ret ?_
    | refine wc_seq ?_
    | refine wc_region ?_
    | refine wc_ret ?_
    | refine at_ret2 (h:=?_)
    | refine wc_cond_true (ht:=?_))
    exact ⟨I, _, ⟨rfl, rfl, da, dc, rfl⟩, hm⟩

theorem c_named (s : Sp.St) (hr : TokR I T la lc) (hT : Ok T) (hd : s.ds.length < 1099511627776) (hi : s.i ≤ T.l.length) :
    CalM Try.prog 37 #[ptr pb, nt s.i] I (PSt pb la lc T s.ds deep da dc) (To pb la lc T deep I (s.named T).2.ds (.tuple #[str (s.named T).1, nt (s.named T).2.i])) := by
  refine ⟨fun w hm => enter (N := 29) Try.func37 rfl [(0, ptr pb), (1, nt s.i)] args2 rfl ?_⟩
  have h1 := hT.at_ s.i
  have h2 := hT.size
  have h3 := hT.len
  rw [Sp.St.named]
  have hn := c_rname (T.tok s.i).text (by omega)
  by_cases hname : Sp.name (T.tok s.i).text = true
  · rw [if_pos hname]
    rw [hname] at hn
    repeat' (first
    | (refine m_readC hm (hc:=c_T s.i hr) (k:=?_); clear hm; intro _ hm)
    | (refine op_call (hc:=by exact hn _) (k:=?_); rintro _ _ ⟨rfl, hk⟩; replace hm := hm.kept0 hk)
    | (refine m_varS (d:=6) hm (k:=?_); clear hm; intro b6 _ hm)
    | refine m_load1 hm (k:=?_)
    | refine op_move (k:=?_)
    | refine op_assign (k:=?_)
    | refine op_add (k:=?_)
    | refine op_fieldAddr (k:=?_)
    | refine wl_nil ?_
    | refine at_then_normal ?_
    | refine at_then_ret ?_
    | refine wc_seq ?_
    | refine wc_region ?_
    | refine wc_ret ?_
    | refine at_ret2 (h:=?_)
    | refine wc_cond_true (ht:=?_))
    exact ⟨I, _, ⟨rfl, rfl, da, dc, rfl⟩, hm.tl⟩
  · have hname' : Sp.name (T.tok s.i).text = false := by simpa using hname
    rw [if_neg hname]
    rw [hname'] at hn
    by_cases hk : (T.tok s.i).kind = 1
    · rw [if_pos hk]
      repeat' (first
      | (refine m_readC hm (hc:=c_T s.i hr) (k:=?_); clear hm; intro _ hm)
      | (refine op_call (hc:=by exact hn _) (k:=?_); rintro _ _ ⟨rfl, hk⟩; replace hm := hm.kept0 hk)
      | (refine m_call hm (hc:=c_bad s.i 7 hr hT hd) (k:=?_); clear hm; rintro _ _ _ _ ⟨rfl, rfl, da', dc', rfl⟩ hle hm; try simp only [setn] at hm)
      | (refine m_varS (d:=6) hm (k:=?_); clear hm; intro b6 _ hm)
      | refine m_load1 hm (k:=?_)
      | refine op_move (k:=?_)
      | refine op_assign (k:=?_)
      | refine op_eql (k:=?_)
      | refine op_add (k:=?_)
      | refine op_fieldAddr (k:=?_)
      | refine wl_nil ?_
      | refine at_then_normal ?_
      | refine at_then_ret ?_
      | refine wc_seq ?_
      | refine wc_region ?_
      | refine wc_skip ?_
      | refine wc_ret ?_
      | refine at_ret2 (h:=?_)
      | refine wc_cond_false (hf:=?_)
      | (refine wc_cond_dec (ht:=fun _ => ?_) (hf:=fun _ => ?_)<;> (try first | contradiction | (exfalso; omega))))
      exact ⟨I, _, ⟨rfl, rfl, da', dc', rfl⟩, hm.left⟩
    · rw [if_neg hk]
      repeat' (first
      | (refine m_readC hm (hc:=c_T s.i hr) (k:=?_); clear hm; intro _ hm)
      | (refine op_call (hc:=by exact hn _) (k:=?_); rintro _ _ ⟨rfl, hk⟩; replace hm := hm.kept0 hk)
      | (refine m_call hm (hc:=c_bad s.i 2 hr hT hd) (k:=?_); clear hm; rintro _ _ _ _ ⟨rfl, rfl, da', dc', rfl⟩ hle hm; try simp only [setn] at hm)
      | (refine m_varS (d:=6) hm (k:=?_); clear hm; intro b6 _ hm)
      | refine m_load1 hm (k:=?_)
      | refine op_move (k:=?_)
      | refine op_assign (k:=?_)
      | refine op_eql (k:=?_)
      | refine op_fieldAddr (k:=?_)
      | refine wl_nil ?_
      | refine at_then_normal ?_
      | refine wc_seq ?_
      | refine wc_region ?_
      | refine wc_skip ?_
      | refine wc_ret ?_
      | refine at_ret2 (h:=?_)
      | refine wc_cond_false (hf:=?_)
      | (refine wc_cond_dec (ht:=fun _ => ?_) (hf:=fun _ => ?_)<;> (try first | contradiction | (exfalso; omega))))
      exact ⟨I, _, ⟨rfl, rfl, da', dc', rfl⟩, hm.left⟩

/-- what a function that reads an expression hands back. -/
abbrev ToEx (pb : Nat) (la : Option Addr) (lc : Nat) (T : Sp.Src) (deep : Nat) (r : Sp.Ex × Sp.St) : Value → Imm → List HItem → Prop :=
  fun v I' H' => (∃ ea ec xs, v = .tuple #[.agg [nt r.1.kind, str r.1.name, nt r.1.n, .slice ea r.1.args.length ec, nt r.1.fr, nt r.1.to].toArray, nt r.2.i] ∧ RowI I' 111 6 (.slice ea r.1.args.length ec) r.1.args.length xs ∧ ExsAt I' r.1.args xs) ∧
    ∃ da dc, H' = PSt pb la lc T r.2.ds deep da dc
theorem c_none (s : Sp.St) (e : Nat) (hr : TokR I T la lc) (hT : Ok T) (hd : s.ds.length < 1099511627776) :
    CalM Try.prog 83 #[ptr pb, nt s.i, nt e] I (PSt pb la lc T s.ds deep da dc) (ToEx pb la lc T deep (Sp.none_ T s e)) := by
  refine ⟨fun w hm => enter (N := 22) Try.func83 rfl [(0, ptr pb), (1, nt s.i), (2, nt e)] args3 rfl ?_⟩
  repeat' (first
  | (refine m_readC hm (hc:=c_T s.i hr) (k:=?_); clear hm; intro _ hm)
  | (refine m_call hm (hc:=c_bad s.i e hr hT hd) (k:=?_); clear hm; rintro _ _ _ _ ⟨rfl, rfl, da', dc', rfl⟩ hle hm; try simp only [setn] at hm)
  | (refine m_allocS (d:=6) hm (k:=?_); clear hm; intro b6 _ hm)
  | (refine m_storeAll hm (k:=?_); clear hm; intro _ hm; try simp only [setn] at hm)
  | refine m_ret2_agg hm (h:=?_)
  | refine op_move (k:=?_)
  | refine op_assign (k:=?_)
  | refine op_field1 (k:=?_)
  | refine op_struct (k:=?_)
  | refine wl_nil ?_
  | refine at_then_normal ?_
  | refine wc_seq ?_
  | refine wc_region ?_
  | refine wc_ret ?_)
  exact ⟨I, _, ⟨⟨none, 0, [], rfl, rowI_nil _ _ _ _ _, .nil⟩, da', dc', rfl⟩, hm.left⟩

def tightEs : Ents := [([61], .int .i64 1), ([60], .int .i64 1), ([43], .int .i64 2), ([45], .int .i64 2), ([42], .int .i64 3)]
theorem look_tight (t : List UInt8) : mlook tightEs t (.int .i64 0) = .int .i64 (Sp.tight t : Int) := by
  rw [Sp.tight]
  by_cases h1 : t = [61]
  · subst h1; rfl
  by_cases h2 : t = [60]
  · subst h2; rfl
  by_cases h3 : t = [43]
  · subst h3; rfl
  by_cases h4 : t = [45]
  · subst h4; rfl
  by_cases h5 : t = [42]
  · subst h5; rfl
  rw [if_neg (by simp [h1, h2]), if_neg (by simp [h3, h4]), if_neg h5]
  simp [mlook, tightEs, List.find?_cons, Ne.symm h1, Ne.symm h2, Ne.symm h3, Ne.symm h4, Ne.symm h5]
theorem zero_int (w : World) : (zeroValue 3).run Try.prog w = .ok (.int .i64 0) w := by kernel_rfl
theorem c_tight0 (t : List UInt8) (w : World) : Cal Try.prog 82 #[str t] w fun v w' => v = .int .i64 (Sp.tight t : Int) ∧ Kept [] w w' := by
  refine enter (N := 7) Try.func82 rfl [(0, str t)] args1 rfl ?_
  repeat' (first
  | (refine op_makeMap (by rfl) (by rfl) ?_; intro b w1 hbe hm1 hk1)
  | (refine op_insert (s:=[42]) (hm:=hm5) (k:=?_); intro w6 hm6 hk6)
  | (refine op_insert (s:=[45]) (hm:=hm4) (k:=?_); intro w5 hm5 hk5)
  | (refine op_insert (s:=[43]) (hm:=hm3) (k:=?_); intro w4 hm4 hk4)
  | (refine op_insert (s:=[60]) (hm:=hm2) (k:=?_); intro w3 hm3 hk3)
  | (refine op_insert (s:=[61]) (hm:=hm1) (k:=?_); intro w2 hm2 hk2)
  | (refine op_lookup (by rfl) (by rfl) (by rfl) (by rfl) hm6 zero_int ?_)
  | refine op_move (k:=?_)
  | refine op_assign (k:=?_)
  | refine wl_nil ?_
  | refine at_then_normal ?_
  | refine wc_seq ?_
  | refine wc_region ?_
  | refine wc_ret ?_
  | refine at_ret1 (h:=?_))
  refine ⟨look_tight t, ?_⟩
  have h : ∀ x ∈ [b], x ∈ ([] : List Nat) ∨ w.heap.size ≤ x := fun x hx => by simp at hx; omega
  exact ((((hk1.step hk2 h).step hk3 h).step hk4 h).step hk5 h).step hk6 h
theorem c_tight (t : List UInt8) : CalR Try.prog 82 #[str t] I [] (nt (Sp.tight t)) := ⟨fun w _ _ => c_tight0 t w⟩
end
end Go.Proofs.Ytjfkjpbkmpofkaa
end
section
namespace Go.Sp
theorem tagq (a : Nat) (ha : a < 256) (q : Nat) (hq : q < 8) : (bit a q = false → a + 2 ^ q < 256) ∧ flows (2 ^ q) a = bit a q := by
  revert hq; revert q; revert ha; revert a; decide +kernel
end Go.Sp
namespace Go.Proofs.Ytjfkjpbkmpofkaa
open Go.Fw
section
variable {I : Imm} {pb deep lc dc : Nat} {la da : Option Addr} {T : Sp.Src}
structure LabX where
  f : Nat
  n : Nat
  s : Sp.St
  da : Option Addr
  dc : Nat

set_option maxHeartbeats 4000000 in
theorem c_lab (s : Sp.St) (hr : TokR I T la lc) (hT : Ok T) (hi : s.i ≤ T.l.length) (hd : s.ds.length + 2 * (T.l.length - s.i) + 2 ≤ 1099511627776) :
    CalM Try.prog 39 #[ptr pb, nt s.i] I (PSt pb la lc T s.ds deep da dc) (To pb la lc T deep I (Sp.lab T s).2.ds (.tuple #[nt (Sp.lab T s).1, nt (Sp.lab T s).2.i])) := by
  refine CalM.of fun w E hm => enter (N := 84) Try.func39 rfl [(0, ptr pb), (1, nt s.i)] args2 rfl ?_
  have h2 := hT.size
  have h3 := hT.len
  have hn := c_need (pb := pb) (deep := deep) (da := da) (dc := dc) s [123] hr hT (by omega) hi
  rw [Sp.lab]
  rw [Sp.St.need] at hn
  by_cases hq : T.is s.i [123] = true
  case neg =>
    rw [if_neg hq]
    rw [if_neg hq] at hn
    repeat' (first
    | (refine m_call hm (hc:=hn) (k:=?_); clear hm; rintro _ _ _ _ ⟨rfl, rfl, da', dc', rfl⟩ hle hm; try simp only [setn] at hm)
    | refine op_move (k:=?_)
    | refine op_assign (k:=?_)
    | refine op_not (k:=?_)
    | refine op_extract (k:=?_)
    | refine wl_nil ?_
    | refine at_then_normal ?_
    | refine at_then_ret ?_
    | refine wc_seq ?_
    | refine wc_region ?_
    | refine wc_ret ?_
    | refine at_ret2 (h:=?_)
    | refine wc_cond_true (ht:=?_))
    exact ⟨I, _, ⟨rfl, rfl, da', dc', rfl⟩, hm⟩
  rw [if_pos hq]
  rw [if_pos hq] at hn
  have hlt := Sp.is_lt hq
  repeat' (first
  | (refine m_call hm (hc:=hn) (k:=?_); clear hm; rintro _ _ _ _ ⟨rfl, rfl, da', dc', rfl⟩ hle hm; try simp only [setn] at hm)
  | refine op_move (k:=?_)
  | refine op_assign (k:=?_)
  | refine op_not (k:=?_)
  | refine op_extract (k:=?_)
  | refine wl_nil ?_
  | refine at_then_normal ?_
  | refine wc_seq ?_
  | refine wc_region ?_
  | refine wc_block ?_
  | refine wc_skip ?_
  | refine wc_cond_false (hf:=?_))
  refine wc_loop (fun x : LabX => [(0, ptr pb), (1, nt x.s.i), (7, nt x.n)])
    (fun x w' => Mem E I (PSt pb la lc T x.s.ds deep x.da x.dc) w' ∧ Sp.labL T x.f x.n x.s = Sp.labL T (T.l.length + 1) 0 s.next ∧ T.l.length - x.s.i < x.f ∧ x.s.i ≤ T.l.length ∧ x.n < 256 ∧ x.s.ds.length + 2 * (T.l.length - x.s.i) + 1 ≤ 1099511627776)
    (fun x => T.l.length - x.s.i) ⟨T.l.length + 1, 0, s.next, da', dc'⟩ ⟨rfl, rfl, rfl, trivial⟩ ⟨hm, rfl, by dsimp only; omega, by dsimp only; rw [Sp.next_i]; omega, by simp, by dsimp only; rw [Sp.next_i, Sp.next_ds]; omega⟩ ?_
  clear hm hn
  rintro ⟨f, n, s2, da2, dc2⟩ w2 ⟨hm, hL, hf, hi2, hn2, hr2⟩
  dsimp only at hm hL hf hi2 hn2 hr2 ⊢
  obtain ⟨f, rfl⟩ : ∃ f', f = f' + 1 := ⟨f - 1, by omega⟩
  rw [Sp.labL] at hL
  have hqe := c_is (pb := pb) (ds := s2.ds) (deep := deep) (da := da2) (dc := dc2) s2.i [125] hr
  by_cases hend : T.is s2.i [125] = true
  · rw [if_pos hend] at hL
    rw [← hL]
    rw [hend] at hqe
    have hlt2 := Sp.is_lt hend
    repeat' (first
    | (refine m_readC hm (hc:=hqe) (k:=?_); clear hm; intro _ hm)
    | refine op_move (k:=?_)
    | refine op_assign (k:=?_)
    | refine op_not (k:=?_)
    | refine op_add (k:=?_)
    | refine wl_nil ?_
    | refine at_then_normal ?_
    | refine at_then_exit ?_
    | refine at_block_exit ?_
    | refine wc_seq ?_
    | refine wc_region ?_
    | refine wc_exit ?_
    | refine wc_ret ?_
    | refine at_ret2 (h:=?_)
    | refine wc_cond_false (hf:=?_))
    exact ⟨I, _, ⟨rfl, rfl, da2, dc2, rfl⟩, hm⟩
  have hend' : T.is s2.i [125] = false := by simpa using hend
  rw [if_neg hend] at hL
  rw [hend'] at hqe
  dsimp only at hL
  have h1 := hT.at_ s2.i
  have htg : Sp.tagB (T.tok s2.i).text = decide ((T.tok s2.i).text.length = 1 ∧ 97 ≤ ((T.tok s2.i).text.getD (0 : Int).toNat 0).toNat ∧ ((T.tok s2.i).text.getD (0 : Int).toNat 0).toNat ≤ 104) := by
    rw [Sp.tagB, Bool.decide_and, Bool.decide_and]; rfl
  by_cases hgood : Sp.tagB (T.tok s2.i).text = true
  case neg =>
    have hgood' : Sp.tagB (T.tok s2.i).text = false := by simpa using hgood
    rw [hgood'] at hL
    simp only [Bool.not_false, if_true] at hL
    rw [← hL]
    rw [htg, decide_eq_false_iff_not] at hgood'
    repeat' (first
    | (refine m_readC hm (hc:=hqe) (k:=?_); clear hm; intro _ hm)
    | (refine m_readC hm (hc:=c_T s2.i hr) (k:=?_); clear hm; intro _ hm)
    | (refine m_call hm (hc:=c_bad s2.i 2 hr hT (by omega)) (k:=?_); clear hm; rintro _ _ _ _ ⟨rfl, rfl, da3, dc3, rfl⟩ hle hm; try simp only [setn] at hm)
    | (refine m_varS (d:=8) hm (k:=?_); clear hm; intro b8 _ hm)
    | refine m_load1 hm (k:=?_)
    | refine op_move (k:=?_)
    | refine op_assign (k:=?_)
    | refine op_pick_true (k:=?_)
    | refine op_pick_false (k:=?_)
    | refine op_lss (k:=?_)
    | refine op_gtr (k:=?_)
    | refine op_neq (k:=?_)
    | refine op_len_str (k:=?_)
    | refine op_not (k:=?_)
    | refine op_index_str (k:=?_)
    | refine op_fieldAddr (k:=?_)
    | refine wl_skip (k:=?_)
    | (refine wl_split_dec (h1:=fun _ => ?_) (h0:=fun _ => ?_)<;> (try first | contradiction | (exfalso; omega)))
    | refine wl_nil ?_
    | refine at_then_normal ?_
    | refine at_then_ret ?_
    | refine at_block_ret ?_
    | refine wc_seq ?_
    | refine wc_region ?_
    | refine wc_block ?_
    | refine wc_skip ?_
    | refine wc_ret ?_
    | refine at_ret2 (h:=?_)
    | refine wc_cond_true (ht:=?_)
    | (refine wc_cond_dec (ht:=fun _ => ?_) (hf:=fun _ => ?_)<;> (try first | contradiction | (exfalso; omega))))
    all_goals first
      | exact ⟨I, _, ⟨rfl, rfl, da3, dc3, rfl⟩, hm.left⟩
      | (exfalso; omega)
  rw [hgood] at hL
  have hlt2 : s2.i < T.l.length := Sp.tok_lt (by intro e; rw [e] at hgood; revert hgood; decide)
  rw [htg, decide_eq_true_eq] at hgood
  have hce : (T.tok s2.i).text.getD (0 : Int).toNat 0 = (T.tok s2.i).text.getD 0 0 := rfl
  rw [hce] at hgood
  generalize hcc : (T.tok s2.i).text.getD 0 0 = c at hgood hL hce
  obtain ⟨q, hqq⟩ : ∃ q, q = c.toNat - 97 := ⟨_, rfl⟩
  rw [← hqq] at hL
  have hq8 : q < 8 := by omega
  obtain ⟨hadd, hfl⟩ := Sp.tagq n hn2 q hq8
  have hple : 2 ^ q < 256 := show 2 ^ q < 2 ^ 8 from Nat.pow_lt_pow_right (by decide) hq8
  simp only [Bool.not_true, Bool.false_eq_true, if_false] at hL
  repeat' (first
  | (refine m_readC hm (hc:=hqe) (k:=?_); clear hm; intro _ hm)
  | (refine m_readC hm (hc:=c_T s2.i hr) (k:=?_); clear hm; intro _ hm)
  | (refine op_index_str (k:=?_); rw [hce])
  | (refine m_varS (d:=8) hm (k:=?_); clear hm; intro b8 _ hm)
  | refine m_load1 hm (k:=?_)
  | refine op_move (k:=?_)
  | refine op_assign (k:=?_)
  | refine op_pick_false (k:=?_)
  | refine op_lss (k:=?_)
  | refine op_gtr (k:=?_)
  | refine op_neq (k:=?_)
  | refine op_len_str (k:=?_)
  | refine op_not (k:=?_)
  | refine op_sub_u8 (k:=?_)
  | refine op_fieldAddr (k:=?_)
  | (refine wl_split_dec (h1:=fun _ => ?_) (h0:=fun _ => ?_)<;> (try first | contradiction | (exfalso; omega)))
  | refine wl_nil ?_
  | refine at_then_normal ?_
  | refine wc_seq ?_
  | refine wc_region ?_
  | refine wc_block ?_
  | refine wc_skip ?_
  | refine wc_cond_true (ht:=?_)
  | (refine wc_cond_dec (ht:=fun _ => ?_) (hf:=fun _ => ?_)<;> (try first | contradiction | (exfalso; omega))))
  all_goals try (exfalso; omega)
  replace hm := hm.tl
  refine wc_loop (fun j : Nat => [(0, ptr pb), (1, nt s2.i), (7, nt n), (9, nt (2 ^ j)), (50, .int .u8 ((c.toNat : Int) - 97)), (51, .int .u8 (j : Int))])
    (fun j w' => j ≤ q ∧ Mem E I (PSt pb la lc T s2.ds deep da2 dc2) w') (fun j => q - j) 0 ⟨rfl, rfl, rfl, rfl, rfl, rfl, trivial⟩ ⟨by omega, hm⟩ ?_
  clear hm
  rintro j w5 ⟨hj, hm⟩
  have hjle : 2 ^ j ≤ 2 ^ q := Nat.pow_le_pow_right (by omega) hj
  by_cases hjq : j < q
  · obtain ⟨pj, hpj⟩ : ∃ pj, pj = 2 ^ j := ⟨_, rfl⟩
    have hpow : (2 : Int) * (pj : Int) = ((2 ^ (j + 1) : Nat) : Int) := by rw [Nat.pow_succ, ← hpj]; omega
    rw [← hpj] at hjle ⊢
    generalize 2 ^ q = pq at hple hjle
    repeat' (first
    | (refine op_mul (k:=?_); rw [hpow])
    | refine op_move (k:=?_)
    | refine op_assign (k:=?_)
    | refine op_lss (k:=?_)
    | refine op_add_u8 (k:=?_)
    | refine wl_nil ?_
    | refine at_then_normal ?_
    | refine at_block_normal ?_
    | refine wc_seq ?_
    | refine wc_region ?_
    | refine wc_block ?_
    | refine wc_skip ?_
    | (refine wc_cond_dec (ht:=fun _ => ?_) (hf:=fun _ => ?_)<;> (try first | contradiction | (exfalso; omega))))
    exact at_round (j + 1) (by exact ⟨rfl, rfl, rfl, rfl, rfl, rfl, trivial⟩) ⟨by omega, hm⟩ (by omega)
  obtain rfl : j = q := by omega
  obtain ⟨pj, hpj⟩ : ∃ pj, pj = 2 ^ j := ⟨_, rfl⟩
  rw [← hpj] at hadd hfl hple hL ⊢
  repeat' (first
  | (refine wc_cut_reg 15 (fun x : LabX => [(0, ptr pb), (1, nt s2.i), (7, nt x.n)]) (fun x w' => x.s.i = s2.i ∧ x.s.ds.length ≤ s2.ds.length + 1 ∧ x.n < 256 ∧ Mem E I (PSt pb la lc T x.s.ds deep x.da x.dc) w' ∧ Sp.labL T (T.l.length + 1) 0 s.next = if T.is x.s.next.i [125] = true then Sp.labL T f x.n x.s.next else if T.is x.s.next.i [44] = true then Sp.labL T f x.n x.s.next.next else (x.n, x.s.next.bad T 2)) ?_ ?_)
  | (refine op_call (hc:=by exact c_rflows pj n hple hn2 _) (k:=?_); rintro _ _ ⟨rfl, hk⟩; replace hm := hm.kept0 hk; rw [hfl]; generalize hbb : Sp.bit n j = bb at hL hadd ⊢)
  | (refine m_call hm (hc:=c_bad s2.i 7 hr hT (by omega)) (k:=?_); clear hm; rintro _ _ _ _ ⟨rfl, rfl, da3, dc3, rfl⟩ hle hm; try simp only [setn] at hm)
  | (refine op_add (k:=?_))
  | refine op_move (k:=?_)
  | refine op_assign (k:=?_)
  | refine op_lss (k:=?_)
  | refine wl_nil ?_
  | refine at_then_normal ?_
  | refine at_then_exit ?_
  | refine at_block_exit ?_
  | refine wc_seq ?_
  | refine wc_region ?_
  | refine wc_exit ?_
  | (refine wc_cond_dec (ht:=fun _ => ?_) (hf:=fun _ => ?_)<;> (try first | contradiction | (exfalso; omega)))
  | refine wc_cond (ht:=fun _ => ?_) (hf:=fun _ => ?_))
  · rename_i hb _
    subst hb
    refine at_cut (⟨0, n, s2.bad T 7, da3, dc3⟩ : LabX) (by exact ⟨rfl, rfl, rfl, trivial⟩) ⟨rfl, by simp [Sp.St.bad], hn2, hm, ?_⟩
    rw [← hL]; rfl
  · rename_i hb
    subst hb
    refine at_cut (⟨0, n + pj, s2, da2, dc2⟩ : LabX) (by exact ⟨rfl, rfl, rfl, trivial⟩) ⟨rfl, by simp, hadd rfl, hm, ?_⟩
    rw [← hL]; rfl
  clear hm
  rintro ⟨_, n1, s3, da7, dc7⟩ w7 ⟨he, hdl, hn1, hm, hR⟩
  dsimp only at he hdl hn1 hm hR ⊢
  rw [← he] at hlt2 hf hi2 hr2 ⊢
  have hq1 := c_is (pb := pb) (ds := s3.ds) (deep := deep) (da := da7) (dc := dc7) (s3.i + 1) [125] hr
  have hni : s3.next.i = s3.i + 1 := rfl
  have hnd : s3.next.ds.length = s3.ds.length := rfl
  by_cases e1 : T.is s3.next.i [125] = true
  · rw [if_pos e1] at hR
    rw [show T.is (s3.i + 1) [125] = true from e1] at hq1
    repeat' (first
    | (refine m_readC hm (hc:=hq1) (k:=?_); clear hm; intro _ hm)
    | refine op_move (k:=?_)
    | refine op_assign (k:=?_)
    | refine op_not (k:=?_)
    | refine op_add (k:=?_)
    | refine wl_nil ?_
    | refine at_then_normal ?_
    | refine at_block_normal ?_
    | refine wc_seq ?_
    | refine wc_region ?_
    | refine wc_skip ?_
    | refine wc_cond_false (hf:=?_))
    exact at_round (⟨f, n1, s3.next, da7, dc7⟩ : LabX) (by exact ⟨rfl, rfl, rfl, trivial⟩) ⟨hm, hR.symm, by dsimp only; omega, by dsimp only; omega, hn1, by dsimp only; omega⟩ (by dsimp only; omega)
  · rw [if_neg e1] at hR
    rw [show T.is (s3.i + 1) [125] = false from Bool.eq_false_iff.2 e1] at hq1
    have hnd2 := c_need (pb := pb) (deep := deep) (da := da7) (dc := dc7) s3.next [44] hr hT (by omega) (by omega)
    rw [Sp.St.need] at hnd2
    by_cases e2 : T.is s3.next.i [44] = true
    · rw [if_pos e2] at hR hnd2
      have h6 := Sp.is_lt e2
      have hni2 : s3.next.next.i = s3.i + 1 + 1 := rfl
      have hnd3 : s3.next.next.ds.length = s3.ds.length := rfl
      repeat' (first
      | (refine m_readC hm (hc:=hq1) (k:=?_); clear hm; intro _ hm)
      | (refine m_call hm (hc:=hnd2) (k:=?_); clear hm; rintro _ _ _ _ ⟨rfl, rfl, da8, dc8, rfl⟩ hle hm; try simp only [setn] at hm)
      | refine op_move (k:=?_)
      | refine op_assign (k:=?_)
      | refine op_not (k:=?_)
      | refine op_extract (k:=?_)
      | refine op_add (k:=?_)
      | refine wl_nil ?_
      | refine at_then_normal ?_
      | refine at_block_normal ?_
      | refine wc_seq ?_
      | refine wc_region ?_
      | refine wc_skip ?_
      | refine wc_cond_true (ht:=?_)
      | refine wc_cond_false (hf:=?_))
      exact at_round (⟨f, n1, s3.next.next, da8, dc8⟩ : LabX) (by exact ⟨rfl, rfl, rfl, trivial⟩) ⟨hm, hR.symm, by dsimp only; omega, by dsimp only; omega, hn1, by dsimp only; omega⟩ (by dsimp only; omega)
    · rw [if_neg e2] at hR hnd2
      rw [hR]
      repeat' (first
      | (refine m_readC hm (hc:=hq1) (k:=?_); clear hm; intro _ hm)
      | (refine m_call hm (hc:=hnd2) (k:=?_); clear hm; rintro _ _ _ _ ⟨rfl, rfl, da8, dc8, rfl⟩ hle hm; try simp only [setn] at hm)
      | refine op_move (k:=?_)
      | refine op_assign (k:=?_)
      | refine op_not (k:=?_)
      | refine op_extract (k:=?_)
      | refine op_add (k:=?_)
      | refine wl_nil ?_
      | refine at_then_normal ?_
      | refine at_then_ret ?_
      | refine at_block_ret ?_
      | refine wc_seq ?_
      | refine wc_region ?_
      | refine wc_ret ?_
      | refine at_ret2 (h:=?_)
      | refine wc_cond_true (ht:=?_))
      exact ⟨I, _, ⟨rfl, rfl, da8, dc8, rfl⟩, hm⟩
end
end Go.Proofs.Ytjfkjpbkmpofkaa
end
section
namespace Go.Proofs.Ytjfkjpbkmpofkaa
open Go.Fw
def AtomC (T : Sp.Src) (pb f : Nat) : Prop := ∀ (I : Imm) (la : Option Addr) (lc deep : Nat) (da : Option Addr) (dc : Nat) (s : Sp.St), TokR I T la lc → s.i ≤ T.l.length → 3 * (T.l.length - s.i) + 2 ≤ f →
  s.ds.length + 2 * (T.l.length - s.i) + 4 ≤ 1099511627776 → deep ≤ 12 → CalM Try.prog 81 #[ptr pb, nt s.i] I (PSt pb la lc T s.ds deep da dc) (ToEx pb la lc T deep (Sp.atom T f deep s))
def ExprC (T : Sp.Src) (pb f : Nat) : Prop := ∀ (I : Imm) (la : Option Addr) (lc deep : Nat) (da : Option Addr) (dc : Nat) (s : Sp.St) (m : Nat), TokR I T la lc → s.i ≤ T.l.length → 3 * (T.l.length - s.i) + 3 ≤ f →
  s.ds.length + 2 * (T.l.length - s.i) + 4 ≤ 1099511627776 → deep ≤ 12 → CalM Try.prog 78 #[ptr pb, nt s.i, nt m] I (PSt pb la lc T s.ds deep da dc) (ToEx pb la lc T deep (Sp.expr T f deep m s))
structure ExpX where
  f : Nat
  e : Sp.Ex
  s : Sp.St
  I : Imm
  ea : Option Addr
  ec : Nat
  xs : List Value
  da : Option Addr
  dc : Nat
set_option maxHeartbeats 4000000 in
theorem c_expr_step (T : Sp.Src) (pb : Nat) (hT : Ok T) (n : Nat) (ih : ∀ g, g < n → AtomC T pb g ∧ ExprC T pb g) : ExprC T pb n := by
  intro I la lc deep da dc s m hr hi hf hd hdp
  obtain ⟨f, rfl⟩ : ∃ f, n = f + 1 := ⟨n - 1, by omega⟩
  have h2 := hT.size
  have h3 := hT.len
  have hat := (ih f (by omega)).1 I la lc deep da dc s hr hi (by omega) hd hdp
  have hg := (Sp.goes_expr T f).1 deep s
  rw [Sp.expr]
  generalize Sp.atom T f deep s = r0 at hat hg ⊢
  have hg1 := hg.le
  have hg2 := hg.top hi
  have hg3 := hg.ds
  refine CalM.of fun w E hm => enter (N := 67) Try.func78 rfl [(0, ptr pb), (1, nt s.i), (2, nt m)] args3 rfl ?_
  repeat' (first
  | (refine m_call hm (hc:=hat) (k:=?_); clear hm; rintro _ _ _ _ ⟨⟨ea, ec, xs, rfl, hrow, hexs⟩, da1, dc1, rfl⟩ hle hm; try simp only [setn] at hm)
  | (refine m_allocS (d:=6) hm (k:=?_); clear hm; intro b6 _ hm)
  | (refine m_varS (d:=8) hm (k:=?_); clear hm; intro b8 _ hm)
  | refine op_move (k:=?_)
  | refine op_assign (k:=?_)
  | refine op_extract (k:=?_)
  | refine wl_nil ?_
  | refine at_then_normal ?_
  | refine wc_seq ?_
  | refine wc_region ?_
  | refine wc_block ?_)
  rename_i I1 _ _
  refine wc_loop (fun x : ExpX => [(0, ptr pb), (1, nt x.s.i), (2, nt m), (6, ptr b6), (8, ptr b8)])
    (fun x w' => Mem E x.I [pObj pb la lc T x.s.ds deep x.da x.dc, dgRow x.s.ds x.da x.dc, .cell b8 (exCells x.e x.ea x.ec) 111, .cell b6 ex0 111] w' ∧ Le I x.I ∧ RowI x.I 111 6 (.slice x.ea x.e.args.length x.ec) x.e.args.length x.xs ∧ ExsAt x.I x.e.args x.xs ∧
      Sp.opL T x.f deep m x.e x.s = Sp.opL T f deep m r0.1 r0.2 ∧ 3 * (T.l.length - x.s.i) + 1 ≤ x.f ∧ x.f ≤ f ∧ x.s.i ≤ T.l.length ∧ x.s.ds.length + 2 * (T.l.length - x.s.i) ≤ s.ds.length + 2 * (T.l.length - s.i) + 1)
    (fun x => T.l.length - x.s.i) ⟨f, r0.1, r0.2, I1, ea, ec, xs, da1, dc1⟩ (by exact ⟨rfl, rfl, rfl, rfl, rfl, trivial⟩) ⟨hm.perm pm2_1, hle, hrow, hexs, rfl, by dsimp only; omega, Nat.le_refl _, hg2, by dsimp only; omega⟩ ?_
  clear hm hrow hexs hle
  rintro ⟨f1, e1, s1, I2, ea1, ec1, xs1, da2, dc2⟩ w2 ⟨hm, hle0, hrow, hexs, hO, hf1, hff, hi1, hd1⟩
  dsimp only at hm hle0 hrow hexs hO hf1 hff hi1 hd1 ⊢
  obtain ⟨f1, rfl⟩ : ∃ f', f1 = f' + 1 := ⟨f1 - 1, by omega⟩
  rw [Sp.opL] at hO
  dsimp only at hO
  replace hr := hr.le hle0
  have h1 := hT.at_ s1.i
  by_cases hc : Sp.tight (T.tok s1.i).text < m ∨ Sp.tight (T.tok s1.i).text = 0
  · rw [if_pos hc] at hO
    rw [← hO]
    repeat' (first
    | (refine m_readC hm (hc:=c_T s1.i hr) (k:=?_); clear hm; intro _ hm)
    | (refine m_readC hm (hc:=c_tight (T.tok s1.i).text) (k:=?_); clear hm; intro _ hm)
    | refine m_loadAll hm (k:=?_)
    | (refine m_storeAll hm (k:=?_); clear hm; intro _ hm; try simp only [setn] at hm)
    | refine m_ret2_agg hm (h:=?_)
    | refine op_move (k:=?_)
    | refine op_assign (k:=?_)
    | refine op_pick_true (k:=?_)
    | refine op_pick_false (k:=?_)
    | refine op_gtr (k:=?_)
    | refine op_geq (k:=?_)
    | refine op_field1 (k:=?_)
    | refine wl_skip (k:=?_)
    | (refine wl_split_dec (h1:=fun _ => ?_) (h0:=fun _ => ?_)<;> (try first | contradiction | (exfalso; omega)))
    | refine wl_nil ?_
    | refine at_then_normal ?_
    | refine at_then_exit ?_
    | refine at_block_exit ?_
    | refine wc_seq ?_
    | refine wc_region ?_
    | refine wc_exit ?_
    | refine wc_ret ?_
    | refine wc_cond_false (hf:=?_)
    | (refine wc_cond_dec (ht:=fun _ => ?_) (hf:=fun _ => ?_)<;> (try first | contradiction | (exfalso; omega))))
    all_goals first
      | exact ⟨I2, _, ⟨⟨ea1, ec1, xs1, rfl, hrow, hexs⟩, da2, dc2, rfl⟩, hm.left (H := [_, _])⟩
      | (exfalso; omega)
  · rw [if_neg hc] at hO
    have htl := Sp.tight_le (T.tok s1.i).text
    have hlt : s1.i < T.l.length := Sp.tok_lt (Sp.tight_ne (by omega))
    have hex := (ih f1 (by omega)).2 I2 la lc deep da2 dc2 s1.next (Sp.tight (T.tok s1.i).text + 1) hr (by rw [Sp.next_i]; omega) (by rw [Sp.next_i]; omega) (by rw [Sp.next_i, Sp.next_ds]; omega) hdp
    have hg := (Sp.goes_expr T f1).2.2.1 deep (Sp.tight (T.tok s1.i).text + 1) s1.next
    generalize Sp.expr T f1 deep (Sp.tight (T.tok s1.i).text + 1) s1.next = r at hO hex hg
    have hg1 := hg.le
    have hg2 := hg.top (by rw [Sp.next_i]; omega)
    have hg3 := hg.ds
    rw [Sp.next_i] at hg1 hg3
    rw [Sp.next_ds] at hg3
    repeat' (first
    | (refine m_readC hm (hc:=c_T s1.i hr) (k:=?_); clear hm; intro _ hm)
    | (refine m_readC hm (hc:=c_tight (T.tok s1.i).text) (k:=?_); clear hm; intro _ hm)
    | (refine m_call hm (hc:=hex) (k:=?_); clear hm; rintro _ _ _ _ ⟨⟨ea2, ec2, xs2, rfl, hrow2, hexs2⟩, da3, dc3, rfl⟩ hle hm; try simp only [setn] at hm)
    | (refine i_buildSlice hm (k:=?_); clear hm; intro I4 a4 _ hle4 hm hrow4)
    | (refine m_varS (d:=10) hm (k:=?_); clear hm; intro b10 _ hm)
    | refine m_load1 hm (k:=?_)
    | refine m_loadAll hm (k:=?_)
    | (refine m_storeAll hm (k:=?_); clear hm; intro _ hm; try simp only [setn] at hm)
    | refine op_move (k:=?_)
    | refine op_assign (k:=?_)
    | refine op_pick_true (k:=?_)
    | refine op_gtr (k:=?_)
    | refine op_geq (k:=?_)
    | refine op_extract (k:=?_)
    | refine op_field1 (k:=?_)
    | refine op_add (k:=?_)
    | refine op_fieldAddr (k:=?_)
    | refine op_struct (k:=?_)
    | (refine wl_split_dec (h1:=fun _ => ?_) (h0:=fun _ => ?_)<;> (try first | contradiction | (exfalso; omega)))
    | refine wl_nil ?_
    | refine at_then_normal ?_
    | refine at_block_normal ?_
    | refine wc_seq ?_
    | refine wc_region ?_
    | refine wc_block ?_
    | refine wc_skip ?_
    | (refine wc_cond_dec (ht:=fun _ => ?_) (hf:=fun _ => ?_)<;> (try first | contradiction | (exfalso; omega))))
    all_goals try (exfalso; omega)
    · have hmx : max r.1.to e1.to = e1.to := by omega
      rw [hmx] at hO
      exact at_round (⟨f1, .mk 3 (T.tok s1.i).text 0 [e1, r.1] e1.fr e1.to, r.2, I4, a4, 2, _, da3, dc3⟩ : ExpX) (by exact ⟨rfl, rfl, rfl, rfl, rfl, trivial⟩)
        ⟨hm.tl, (hle0.trans hle).trans hle4, hrow4, exs2 (ExAt.le (hle.trans hle4) _ _ (exAt_cells hrow hexs)) (ExAt.le hle4 _ _ (exAt_cells hrow2 hexs2)), hO, by dsimp only; omega, by dsimp only; omega, hg2, by dsimp only; omega⟩ (by dsimp only; omega)
    · have hmx : max r.1.to e1.to = r.1.to := by omega
      rw [hmx] at hO
      exact at_round (⟨f1, .mk 3 (T.tok s1.i).text 0 [e1, r.1] e1.fr r.1.to, r.2, I4, a4, 2, _, da3, dc3⟩ : ExpX) (by exact ⟨rfl, rfl, rfl, rfl, rfl, trivial⟩)
        ⟨hm.tl, (hle0.trans hle).trans hle4, hrow4, exs2 (ExAt.le (hle.trans hle4) _ _ (exAt_cells hrow hexs)) (ExAt.le hle4 _ _ (exAt_cells hrow2 hexs2)), hO, by dsimp only; omega, by dsimp only; omega, hg2, by dsimp only; omega⟩ (by dsimp only; omega)
end Go.Proofs.Ytjfkjpbkmpofkaa
end
section
namespace Go.Proofs.Ytjfkjpbkmpofkaa
open Go.Fw

set_option maxHeartbeats 4000000 in
theorem c_atom_par (T : Sp.Src) (pb : Nat) (hT : Ok T) (f : Nat) (ih : ExprC T pb f) (I : Imm) (la : Option Addr) (lc deep : Nat) (da : Option Addr) (dc : Nat) (s : Sp.St) (hr : TokR I T la lc) (hi : s.i < T.l.length) (hf : 3 * (T.l.length - s.i) + 2 ≤ f + 1)
    (hd : s.ds.length + 2 * (T.l.length - s.i) + 4 ≤ 1099511627776) (hdeep : deep < 12) (hkind : (T.tok s.i).kind ≠ 2) (hpar : (T.tok s.i).text = [40]) :
    CalM Try.prog 81 #[ptr pb, nt s.i] I (PSt pb la lc T s.ds deep da dc) (ToEx pb la lc T deep ((Sp.expr T f (deep + 1) 1 s.next).1, ((Sp.expr T f (deep + 1) 1 s.next).2.need T [41]).2)) := by
  have h2 := hT.size
  have h3 := hT.len
  have h1 := hT.at_ s.i
  refine CalM.of fun w E hm => enter (N := 220) Try.func81 rfl [(0, ptr pb), (1, nt s.i)] args2 rfl ?_
  have hex := fun da dc => ih I la lc (deep + 1) da dc s.next 1 hr (by rw [Sp.next_i]; omega) (by rw [Sp.next_i]; omega) (by rw [Sp.next_i, Sp.next_ds]; omega) (by omega)
  have hg := (Sp.goes_expr T f).2.2.1 (deep + 1) 1 s.next
  generalize Sp.expr T f (deep + 1) 1 s.next = r at hex hg ⊢
  have hg1 := hg.le
  have hg2 := hg.top (by rw [Sp.next_i]; omega)
  have hg3 := hg.ds
  rw [Sp.next_i] at hg1 hg3
  rw [Sp.next_ds] at hg3
  have hsub : (((deep + 1 : Nat) : Int)) - 1 = (deep : Int) := by omega
  repeat' (first
  | (refine m_readC hm (hc:=c_T s.i hr) (k:=?_); clear hm; intro _ hm)
  | (refine m_call hm (hc:=hex _ _) (k:=?_); clear hm; rintro _ _ _ _ ⟨⟨ea, ec, xs, rfl, hrow, hexs⟩, da', dc', rfl⟩ hle hm; try simp only [setn] at hm)
  | (refine m_call hm (hc:=c_need r.2 [41] (hr.le hle) hT (by omega) hg2) (k:=?_); clear hm; rintro _ _ _ _ ⟨rfl, rfl, da2, dc2, rfl⟩ hle hm; try simp only [setn] at hm)
  | (refine op_sub (k:=?_); rw [hsub])
  | (refine m_allocS (d:=4) hm (k:=?_); clear hm; intro b4 _ hm)
  | (refine m_varS (d:=6) hm (k:=?_); clear hm; intro b6 _ hm)
  | (refine m_varS (d:=10) hm (k:=?_); clear hm; intro b10 _ hm)
  | refine m_load1 hm (k:=?_)
  | refine m_loadAll hm (k:=?_)
  | (refine m_storeAll hm (k:=?_); clear hm; intro _ hm; try simp only [setn] at hm)
  | (refine m_store1 hm (k:=?_); clear hm; intro _ hm; try simp only [setn] at hm)
  | refine m_ret2_agg hm (h:=?_)
  | refine op_move (k:=?_)
  | refine op_assign (k:=?_)
  | refine op_geq (k:=?_)
  | refine op_eql (k:=?_)
  | refine op_eql_str (k:=?_)
  | refine op_len_slice (k:=?_)
  | refine op_extract (k:=?_)
  | refine op_nilCheck (k:=?_)
  | refine op_add (k:=?_)
  | refine op_fieldAddr (k:=?_)
  | refine wl_nil ?_
  | refine at_then_normal ?_
  | refine at_then_ret ?_
  | refine wc_seq ?_
  | refine wc_region ?_
  | refine wc_skip ?_
  | refine wc_ret ?_
  | (refine wc_cond_dec (ht:=fun _ => ?_) (hf:=fun _ => ?_)<;> (try first | contradiction | (exfalso; omega))))
  trace_state
  exact ⟨_, _, ⟨⟨ea, ec, xs, rfl, hrow, hexs⟩, da2, dc2, rfl⟩, hm.left (H := [_, _])⟩
end Go.Proofs.Ytjfkjpbkmpofkaa
end
