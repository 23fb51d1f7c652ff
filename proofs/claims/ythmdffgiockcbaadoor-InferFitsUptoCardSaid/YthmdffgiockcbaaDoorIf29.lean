/- Own work: texts TreeO, OwnA, InfD, one behind the other. -/
import Derived.Test.YthmdffgiockcbaaDoorIf28
section
namespace Go.Fw
theorem pmO {x y : HItem} {A B C : List HItem} : ((B ++ (A ++ [])) ++ (x :: y :: C)).Perm (x :: y :: (C ++ (A ++ B))) := by
  rw [List.append_nil]
  have h1 : ((B ++ A) ++ (x :: y :: C)).Perm ((x :: y :: C) ++ (B ++ A)) := List.perm_append_comm
  have h2 : ((x :: y :: C) ++ (B ++ A)).Perm ((x :: y :: C) ++ (A ++ B)) := (List.perm_append_comm (l₁ := B) (l₂ := A)).append_left _
  exact h1.trans h2
end Go.Fw
namespace Go.Proofs.YthmdffgiockcbaaDoor
open Go.Fw
mutual
/-- a statement's cells, and the rows that it owns. -/
def StO (I : Imm) : Sp.Stm → List Value → List HItem → Prop
  | .mk k nm a lb o e thn els f t, cs, H => ∃ ea ec ex a1 c1 a2 c2 xs1 xs2 H1 H2, cs = stCells k nm a lb o e ea ec (.slice a1 thn.length c1) (.slice a2 els.length c2) f t ∧
    RowI I 41 6 (.slice ea e.args.length ec) e.args.length ex ∧ ExsAt I e.args ex ∧
    H = (.row (.slice a1 thn.length c1) 43 15 thn.length xs1 :: H1) ++ (.row (.slice a2 els.length c2) 43 15 els.length xs2 :: H2) ∧ StsC I thn xs1 H1 ∧ StsC I els xs2 H2
def StsC (I : Imm) : List Sp.Stm → List Value → List HItem → Prop
  | [], xs, H => xs = [] ∧ H = []
  | s :: l, xs, H => ∃ c r H1 H2, xs = c ++ r ∧ H = H1 ++ H2 ∧ StO I s c H1 ∧ StsC I l r H2
 end
/-- a slice of statements, all of it owned. -/
def StsO (I : Imm) (l : List Sp.Stm) (a : Option Addr) (c : Nat) (H : List HItem) : Prop := ∃ xs Hs, H = .row (.slice a l.length c) 43 15 l.length xs :: Hs ∧ StsC I l xs Hs
mutual
theorem StO.le {I J : Imm} (m : Le I J) : ∀ (s : Sp.Stm) (cs : List Value) (H : List HItem), StO I s cs H → StO J s cs H
  | .mk k nm a lb o e thn els f t, cs, H, h => by
    rw [StO] at h ⊢
    obtain ⟨ea, ec, ex, a1, c1, a2, c2, xs1, xs2, H1, H2, h1, h2, h3, h4, h5, h6⟩ := h
    exact ⟨ea, ec, ex, a1, c1, a2, c2, xs1, xs2, H1, H2, h1, h2.le m, ExsAt.le m _ _ h3, h4, StsC.le m _ _ _ h5, StsC.le m _ _ _ h6⟩
theorem StsC.le {I J : Imm} (m : Le I J) : ∀ (l : List Sp.Stm) (xs : List Value) (H : List HItem), StsC I l xs H → StsC J l xs H
  | [], xs, H, h => by rw [StsC] at h ⊢; exact h
  | s :: l, xs, H, h => by
    rw [StsC] at h ⊢
    obtain ⟨c, r, H1, H2, h1, h2, h3, h4⟩ := h
    exact ⟨c, r, H1, H2, h1, h2, StO.le m _ _ _ h3, StsC.le m _ _ _ h4⟩
 end
theorem StsO.le {I J : Imm} (m : Le I J) {l : List Sp.Stm} {a : Option Addr} {c : Nat} {H : List HItem} (h : StsO I l a c H) : StsO J l a c H := by
  obtain ⟨xs, Hs, h1, h2⟩ := h
  exact ⟨xs, Hs, h1, StsC.le m _ _ _ h2⟩
theorem StO.out {I : Imm} {s : Sp.Stm} {cs : List Value} {H : List HItem} (h : StO I s cs H) : ∃ ea ec ex a1 c1 a2 c2 H1 H2, cs = stCells s.kind s.name s.at_ s.label s.opn s.e ea ec (.slice a1 s.thn.length c1) (.slice a2 s.els.length c2) s.fr s.to ∧
    RowI I 41 6 (.slice ea s.e.args.length ec) s.e.args.length ex ∧ ExsAt I s.e.args ex ∧ H = H1 ++ H2 ∧ StsO I s.thn a1 c1 H1 ∧ StsO I s.els a2 c2 H2 := by
  cases s with
  | mk k nm a lb o e thn els f t =>
    rw [StO] at h
    obtain ⟨ea, ec, ex, a1, c1, a2, c2, xs1, xs2, H1, H2, h1, h2, h3, h4, h5, h6⟩ := h
    exact ⟨ea, ec, ex, a1, c1, a2, c2, _, _, h1, h2, h3, h4, ⟨xs1, H1, rfl, h5⟩, ⟨xs2, H2, rfl, h6⟩⟩
theorem StO.of {I : Imm} {k a lb f t ec c1 c2 : Nat} {nm : List UInt8} {o : Bool} {e : Sp.Ex} {thn els : List Sp.Stm} {ea a1 a2 : Option Addr} {ex : List Value} {H1 H2 : List HItem}
    (h2 : RowI I 41 6 (.slice ea e.args.length ec) e.args.length ex) (h3 : ExsAt I e.args ex) (h5 : StsO I thn a1 c1 H1) (h6 : StsO I els a2 c2 H2) :
    StO I (.mk k nm a lb o e thn els f t) (stCells k nm a lb o e ea ec (.slice a1 thn.length c1) (.slice a2 els.length c2) f t) (H1 ++ H2) := by
  obtain ⟨xs1, G1, e1, g1⟩ := h5
  obtain ⟨xs2, G2, e2, g2⟩ := h6
  rw [StO]
  exact ⟨ea, ec, ex, a1, c1, a2, c2, xs1, xs2, G1, G2, rfl, h2, h3, by rw [e1, e2], g1, g2⟩
theorem stO_cells {I : Imm} {s : Sp.Stm} {ea a1 a2 : Option Addr} {ec c1 c2 : Nat} {ex : List Value} {H1 H2 : List HItem}
    (h2 : RowI I 41 6 (.slice ea s.e.args.length ec) s.e.args.length ex) (h3 : ExsAt I s.e.args ex) (h5 : StsO I s.thn a1 c1 H1) (h6 : StsO I s.els a2 c2 H2) :
    StO I s (stCells s.kind s.name s.at_ s.label s.opn s.e ea ec (.slice a1 s.thn.length c1) (.slice a2 s.els.length c2) s.fr s.to) (H1 ++ H2) := by
  cases s with
  | mk k n a l o e t x f u => exact .of h2 h3 h5 h6
theorem StO.len {I : Imm} {s : Sp.Stm} {cs : List Value} {H : List HItem} (h : StO I s cs H) : cs.length = 15 := by
  obtain ⟨_, _, _, _, _, _, _, _, _, rfl, _⟩ := h.out; rfl
theorem StsC.len {I : Imm} : ∀ {l : List Sp.Stm} {xs : List Value} {H : List HItem}, StsC I l xs H → xs.length = l.length * 15
  | [], xs, H, h => by rw [StsC] at h; simp [h.1]
  | s :: l, xs, H, h => by
    rw [StsC] at h
    obtain ⟨c, r, H1, H2, rfl, _, h3, h4⟩ := h
    rw [List.length_append, h3.len, h4.len, List.length_cons, Nat.add_mul]; omega
theorem StsC.nil {I : Imm} : StsC I [] [] [] := by rw [StsC]; exact ⟨rfl, rfl⟩
/-- parted, and put together again. -/
theorem StsC.app {I : Imm} : ∀ {l m : List Sp.Stm} {xs ys : List Value} {G H : List HItem}, StsC I l xs G → StsC I m ys H → StsC I (l ++ m) (xs ++ ys) (G ++ H)
  | [], m, xs, ys, G, H, h, k => by
    rw [StsC] at h
    obtain ⟨rfl, rfl⟩ := h
    exact k
  | s :: l, m, xs, ys, G, H, h, k => by
    rw [StsC] at h
    obtain ⟨c, r, H1, H2, rfl, rfl, h3, h4⟩ := h
    rw [List.cons_append, StsC]
    exact ⟨c, r ++ ys, H1, H2 ++ H, by rw [List.append_assoc], by rw [List.append_assoc], h3, h4.app k⟩
theorem StsC.one {I : Imm} {s : Sp.Stm} {c : List Value} {H : List HItem} (h : StO I s c H) : StsC I [s] c H := by
  rw [StsC]; exact ⟨c, [], H, [], by simp, by simp, h, .nil⟩
theorem StsC.part {I : Imm} : ∀ {l m : List Sp.Stm} {xs : List Value} {H : List HItem}, StsC I (l ++ m) xs H → ∃ x1 x2 H1 H2, xs = x1 ++ x2 ∧ H = H1 ++ H2 ∧ StsC I l x1 H1 ∧ StsC I m x2 H2
  | [], m, xs, H, h => ⟨[], xs, [], H, rfl, rfl, .nil, h⟩
  | s :: l, m, xs, H, h => by
    rw [List.cons_append, StsC] at h
    obtain ⟨c, r, H1, H2, rfl, rfl, h3, h4⟩ := h
    obtain ⟨x1, x2, G1, G2, rfl, rfl, g3, g4⟩ := h4.part
    refine ⟨c ++ x1, x2, H1 ++ G1, G2, by rw [List.append_assoc], by rw [List.append_assoc], ?_, g4⟩
    rw [StsC]; exact ⟨c, x1, H1, G1, rfl, rfl, h3, g3⟩
theorem StsC.uncons {I : Imm} {s : Sp.Stm} {l : List Sp.Stm} {xs : List Value} {H : List HItem} (h : StsC I (s :: l) xs H) : ∃ c r H1 H2, xs = c ++ r ∧ H = H1 ++ H2 ∧ StO I s c H1 ∧ StsC I l r H2 := by
  rw [StsC] at h; exact h
/-! written no more -/
mutual
theorem StO.freeze {E : Ent} {w : World} : ∀ (s : Sp.Stm) {I : Imm} {cs : List Value} {H R : List HItem}, StO I s cs H → Mem E I (H ++ R) w → ∃ J, Le I J ∧ Mem E J R w ∧ StAt J s cs
  | .mk k nm a lb o e thn els f t, I, cs, H, R, h, hm => by
    rw [StO] at h
    obtain ⟨ea, ec, ex, a1, c1, a2, c2, xs1, xs2, H1, H2, rfl, h2, h3, rfl, h5, h6⟩ := h
    rw [List.append_assoc, List.cons_append, List.cons_append] at hm
    obtain ⟨I1, l1, m1, r1⟩ := hm.freeze
    obtain ⟨I2, l2, m2, r2⟩ := StsC.freeze thn (StsC.le l1 _ _ _ h5) m1
    obtain ⟨I3, l3, m3, r3⟩ := m2.freeze
    obtain ⟨I4, l4, m4, r4⟩ := StsC.freeze els (StsC.le ((l1.trans l2).trans l3) _ _ _ h6) m3
    have h14 := (l2.trans l3).trans l4
    exact ⟨I4, l1.trans h14, m4, .of (h2.le (l1.trans h14)) (ExsAt.le (l1.trans h14) _ _ h3) (r1.le h14) (StsAt.le (l3.trans l4) _ _ r2) (r3.le l4) r4⟩
theorem StsC.freeze {E : Ent} {w : World} : ∀ (l : List Sp.Stm) {I : Imm} {xs : List Value} {H R : List HItem}, StsC I l xs H → Mem E I (H ++ R) w → ∃ J, Le I J ∧ Mem E J R w ∧ StsAt J l xs
  | [], I, xs, H, R, h, hm => by
    rw [StsC] at h
    obtain ⟨rfl, rfl⟩ := h
    exact ⟨I, Le.refl I, hm, .nil⟩
  | s :: l, I, xs, H, R, h, hm => by
    rw [StsC] at h
    obtain ⟨c, r, H1, H2, rfl, rfl, h3, h4⟩ := h
    rw [List.append_assoc] at hm
    obtain ⟨I1, l1, m1, r1⟩ := StO.freeze s h3 hm
    obtain ⟨I2, l2, m2, r2⟩ := StsC.freeze l (StsC.le l1 _ _ _ h4) m1
    refine ⟨I2, l1.trans l2, m2, ?_⟩
    rw [StsAt]; exact ⟨c, r, rfl, StAt.le l2 _ _ r1, r2⟩
 end
theorem StsO.freeze {E : Ent} {w : World} {l : List Sp.Stm} {I : Imm} {a : Option Addr} {c : Nat} {H R : List HItem} (h : StsO I l a c H) (hm : Mem E I (H ++ R) w) :
    ∃ J xs, Le I J ∧ Mem E J R w ∧ RowI J 43 15 (.slice a l.length c) l.length xs ∧ StsAt J l xs := by
  obtain ⟨xs, Hs, rfl, hc⟩ := h
  obtain ⟨I1, l1, m1, r1⟩ := Mem.freeze (H := Hs ++ R) hm
  obtain ⟨I2, l2, m2, r2⟩ := StsC.freeze l (StsC.le l1 _ _ _ hc) m1
  exact ⟨I2, xs, l1.trans l2, m2, r1.le l2, r2⟩
end Go.Proofs.YthmdffgiockcbaaDoor
end
section
namespace Go.Proofs.YthmdffgiockcbaaDoor
open Go.Fw
structure OwX where
  k : Nat
  I : Imm
  a : Option Addr
  cp : Nat
  xs : List Value
  Hs : List HItem
abbrev ToOwS (l : List Sp.Stm) : Value → Imm → List HItem → Prop := fun v I' H' => ∃ a c, v = .slice a l.length c ∧ StsO I' l a c H'
set_option maxHeartbeats 8000000 in
theorem o_ownStmts : ∀ (n : Nat) (l : List Sp.Stm), SizeOf.sizeOf l ≤ n → l.length ≤ 64 → Sp.stmsSmall l → ∀ (I : Imm) (a : Option Addr) (c : Nat) (xs : List Value), RowI I 43 15 (.slice a l.length c) l.length xs → StsAt I l xs →
    CalM Tryd.prog 21 #[.slice a l.length c] I [] (ToOwS l) := by
  intro n
  induction n with
  | zero => intro l h; cases l <;> simp at h
  | succ n ih =>
  intro l hsz hll hsm I a c xs hr hx
  refine CalM.of fun w E hm => enter (N := 30) Tryd.func21 rfl [(0, .slice a l.length c)] args1 rfl ?_
  repeat' (first
  | refine op_move (k:=?_)
  | refine op_assign (k:=?_)
  | refine op_len_slice (k:=?_)
  | refine wl_nil ?_
  | refine at_then_normal ?_
  | refine wc_seq ?_
  | refine wc_region ?_
  | refine wc_block ?_)
  have hm := hm.nil 43 15
  refine wc_loop (fun x : OwX => [(3, .slice x.a x.k x.cp), (6, .slice a l.length c), (7, nt l.length), (8, nt x.k)])
    (fun x w' => Mem E x.I (stRow x.k x.a x.cp x.xs :: x.Hs) w' ∧ Le I x.I ∧ StsC x.I (l.take x.k) x.xs x.Hs ∧ x.k ≤ l.length)
    (fun x => l.length - x.k) ⟨0, I, none, 0, [], []⟩ (by exact ⟨rfl, rfl, rfl, rfl, trivial⟩) ⟨hm, Le.refl _, .nil, Nat.zero_le _⟩ ?_
  clear hm
  rintro ⟨k, I1, a1, cp1, xs1, Hs1⟩ w2 ⟨hm, hle1, hxs, hk⟩
  dsimp only at hm hle1 hxs hk ⊢
  by_cases hlt : k < l.length
  · have hg : l[k]? = some l[k] := List.getElem?_eq_getElem hlt
    have hme := Sp.sizeL_mem (List.getElem_mem hlt)
    obtain ⟨ea2, ec2, ex2, a2, c2, xs2, a3, c3, xs3, hc2, hr2, hx2, hr3, hx3, hr4, hx4⟩ := (hx.get hg).out
    have hsm2 := Sp.stmsSmall_get hsm hg
    generalize l[k] = y at hg hc2 hr2 hx2 hr3 hx3 hr4 hx4 hsm2 hme
    obtain ⟨s1, s2, s3, s4, s5⟩ := Sp.small_parts hsm2
    obtain ⟨z1, z2⟩ := Sp.size_thn (s := y)
    have hce := fun (I' : Imm) (m : Le I I') => p_ownExpr (SizeOf.sizeOf y.e) y.e (Nat.le_refl _) s1 I' ea2 ec2 ex2 (hr2.le m) (ExsAt.le m _ _ hx2)
    have hct := fun (I' : Imm) (m : Le I I') => ih y.thn (by omega) s2 s3 I' a2 c2 xs2 (hr3.le m) (StsAt.le m _ _ hx3)
    have hcl := fun (I' : Imm) (m : Le I I') => ih y.els (by omega) s4 s5 I' a3 c3 xs3 (hr4.le m) (StsAt.le m _ _ hx4)
    have htk : l.take (k + 1) = l.take k ++ [y] := by rw [List.take_add_one, hg]; rfl
    have hri := hr.le hle1
    repeat' (first
    | (refine wc_mix_mem (id:=5) (hm.perm pm0) [([0,1,3,4,6,7],[2]),([9],[5]),([],[8])] 10 (h:=?_); clear hm; intro wd hR hm)
    | (refine i_indexAddr (hr:=hri) (k:=?_); intro bt ot hpt; rw [show ((k : Int).toNat * 15) = k * 15 from rfl, hc2] at hpt)
    | (refine mt_call (d:=14) hm (hc:=hce _ hle1) (k:=?_); clear hm; rintro _ I2 _ _ ⟨rfl, ea3, ec3, ex3, rfl, hr5, hx5⟩ hle hm; have hleI2 := hle; try simp only [setn] at hm)
    | (refine mt_call (d:=17) hm (hc:=hct _ (hle1.trans hleI2)) (k:=?_); clear hm; rintro _ I3 _ _ ⟨a4, c4, rfl, ho4⟩ hle hm; have hleI3 := hle; try simp only [setn] at hm)
    | (refine mt_call (d:=20) hm (hc:=hcl _ ((hle1.trans hleI2).trans hleI3)) (k:=?_); clear hm; rintro _ I4 _ _ ⟨a5, c5, rfl, ho5⟩ hle hm; have hleI4 := hle; try simp only [setn] at hm)
    | (refine wx_nil ?_; replace hm := (hR.back hm).perm pmO; clear hR)
    | refine mw_load1 hR (k:=?_)
    | refine mw_loadN hR (k:=?_)
    | refine wx_cons ?_
    | refine wv_nilX ?_
    | refine ws_nil ?_
    | refine at_X ?_
    | (refine m_varS (d:=5) hm (k:=?_); clear hm; intro b5 _ hm)
    | (refine m_push (d:=27) hm (k:=?_); clear hm; intro a27 cp27 _ _ hm; try simp only [setn] at hm)
    | refine m_loadAll hm (k:=?_)
    | refine i_loadN hm (k:=?_)
    | (refine m_store1 hm (k:=?_); clear hm; intro _ hm; try simp only [setn] at hm)
    | (refine m_storeN hm (k:=?_); clear hm; intro _ hm; try simp only [setn] at hm)
    | refine op_move (k:=?_)
    | refine op_assign (k:=?_)
    | refine op_lss (k:=?_)
    | refine op_add (k:=?_)
    | refine op_fieldAddr (k:=?_)
    | refine wl_nil ?_
    | refine at_then_normal ?_
    | refine at_block_normal ?_
    | refine wc_seq ?_
    | refine wc_region ?_
    | refine wc_block ?_
    | refine wc_skip ?_
    | (refine wc_cond_dec (ht:=fun _ => ?_) (hf:=fun _ => ?_)<;> (try first | contradiction | (exfalso; omega)))
    | refine v_fieldAddr (k:=?_))
    all_goals try (exfalso; omega)
    refine at_round (⟨k + 1, I4, _, _, _, _⟩ : OwX) (by exact ⟨rfl, rfl, rfl, rfl, trivial⟩) ⟨hm.tl, ((hle1.trans hleI2).trans hleI3).trans hleI4, ?_, by dsimp only; omega⟩ (by dsimp only; omega)
    dsimp only
    rw [htk]
    exact (StsC.le ((hleI2.trans hleI3).trans hleI4) _ _ _ hxs).app (.one (stO_cells (hr5.le (hleI3.trans hleI4)) (ExsAt.le (hleI3.trans hleI4) _ _ hx5) (ho4.le hleI4) ho5))
  · obtain rfl : k = l.length := by omega
    rw [List.take_length] at hxs
    repeat' (first
    | refine op_move (k:=?_)
    | refine op_assign (k:=?_)
    | refine op_lss (k:=?_)
    | refine wl_nil ?_
    | refine at_then_normal ?_
    | refine at_then_exit ?_
    | refine at_block_exit ?_
    | refine wc_seq ?_
    | refine wc_region ?_
    | refine wc_exit ?_
    | refine wc_ret ?_
    | refine at_ret1 (h:=?_)
    | (refine wc_cond_dec (ht:=fun _ => ?_) (hf:=fun _ => ?_)<;> (try first | contradiction | (exfalso; omega))))
    all_goals try (exfalso; omega)
    exact ⟨I1, _, ⟨a1, cp1, rfl, xs1, Hs1, rfl, hxs⟩, hm⟩
/-- a slice like one that was there, that is owned. -/
abbrev ToRowO (ty : TypeId) (sz n : Nat) (us : List Value) : Value → Imm → List HItem → Prop := fun v _ H' => ∃ a cp, v = .slice a n cp ∧ H' = [.row (.slice a n cp) ty sz n us]
set_option maxHeartbeats 2000000 in
theorem o_cloneP (I : Imm) (a : Option Addr) (n cp : Nat) (us : List Value) (hr : RowI I 55 3 (.slice a n cp) n us) (h1 : us.all (·.oneCell') = true) (hn : n ≤ 1099511627776) :
    CalM Tryd.prog 18 #[.slice a n cp] I [] (ToRowO 55 3 n us) := by
  refine CalM.of fun w E hm => enter (N := 8) Tryd.func18 rfl [(0, .slice a n cp)] args1 rfl ?_
  cases a with
  | none =>
    have h0 : n = 0 := hr.none
    subst h0
    have hu : us = [] := List.eq_nil_of_length_eq_zero (by have := hr.len; simpa using this)
    subst hu
    repeat' (first
    | (refine op_eql_nilslice (k:=?_))
    | refine op_move (k:=?_)
    | refine op_assign (k:=?_)
    | refine wl_nil ?_
    | refine at_then_normal ?_
    | refine at_then_ret ?_
    | refine wc_seq ?_
    | refine wc_region ?_
    | refine wc_ret ?_
    | refine at_ret1 (h:=?_)
    | refine wc_cond_true (ht:=?_))
    exact ⟨I, _, ⟨none, 0, rfl, rfl⟩, hm.nil 55 3⟩
  | some ad =>
    repeat' (first
    | (refine op_eql_nilslice (k:=?_))
    | (refine m_buildRow hm (k:=?_); clear hm; intro bb _ hm)
    | (refine m_appendR hm (hr:=hr) (h1:=h1) (k:=?_); clear hm; intro a2 cp2 _ hm; try simp only [setn] at hm)
    | refine op_move (k:=?_)
    | refine op_assign (k:=?_)
    | refine wl_nil ?_
    | refine at_then_normal ?_
    | refine wc_seq ?_
    | refine wc_region ?_
    | refine wc_skip ?_
    | refine wc_ret ?_
    | refine at_ret1 (h:=?_)
    | refine wc_cond_false (hf:=?_))
    simp only [Nat.zero_add] at hm ⊢
    exact ⟨I, _, ⟨a2, cp2, rfl, rfl⟩, (hm.front 0 rfl).hd⟩
/-- an item like one that was there, whose parameters and statements are owned. -/
abbrev ToOw (it : Sp.Itm) : Value → Imm → List HItem → Prop := fun v J H' => ∃ ap cp as_ cs ab cb ad cd Hb, v = .agg (itCells it.kind it.name it.label (.slice ap it.params.length cp) (.slice as_ it.sends.length cs) (.slice ab it.body.length cb) it.at_ it.size it.mark (.slice ad it.diags.length cd)).toArray ∧
  H' = .row (.slice ap it.params.length cp) 55 3 it.params.length (it.params.flatMap encPar) :: Hb ∧ StsO J it.body ab cb Hb ∧
  RowI J 75 2 (.slice as_ it.sends.length cs) it.sends.length (it.sends.flatMap encRf) ∧ RowI J 65 4 (.slice ad it.diags.length cd) it.diags.length (it.diags.flatMap encDg)
set_option maxHeartbeats 4000000 in
theorem o_own (it : Sp.Itm) (hs : it.small) (I : Imm) (cs : List Value) (hi : ItAt I it cs) : CalM Tryd.prog 11 #[.agg cs.toArray] I [] (ToOw it) := by
  obtain ⟨ap, cp, as_, cs', ab, cb, ad, cd, xb, rfl, r1, r2, r3, r4, r5⟩ := hi
  have k1 := hs.params
  have k2 := hs.sends
  have k3 := hs.diags
  have k4 := hs.body
  refine CalM.of fun w E hm => enter (N := 20) Tryd.func11 rfl [(0, .agg (itCells it.kind it.name it.label (.slice ap it.params.length cp) (.slice as_ it.sends.length cs') (.slice ab it.body.length cb) it.at_ it.size it.mark (.slice ad it.diags.length cd)).toArray)] args1 rfl ?_
  have c1 := fun (I' : Imm) (m : Le I I') => o_cloneP I' ap it.params.length cp _ (r1.le m) (pars_one _) (by omega)
  have c2 := fun (I' : Imm) (m : Le I I') => p_cloneR I' as_ it.sends.length cs' _ (r2.le m) (rfs_one _) (by omega)
  have c3 := fun (I' : Imm) (m : Le I I') => p_cloneD I' ad it.diags.length cd _ (r5.le m) (dgs_one _) (by omega)
  have c4 := fun (I' : Imm) (m : Le I I') => o_ownStmts (SizeOf.sizeOf it.body) it.body (Nat.le_refl _) (by omega) hs.stms I' ab cb xb (r3.le m) (StsAt.le m _ _ r4)
  repeat' (first
  | (refine wc_mix_mem (id:=1) (hm.perm pm0) [([0,1,3,4,6,7],[2]),([9],[5]),([],[8])] 10 (h:=?_); clear hm; intro wd hR hm)
  | (refine mt_call (d:=5) hm (hc:=c1 _ (Le.refl _)) (k:=?_); clear hm; rintro _ I2 _ _ ⟨a1, d1, rfl, rfl⟩ hle hm; have hleI2 := hle; try simp only [setn] at hm)
  | (refine mt_call (d:=8) hm (hc:=c2 _ hleI2) (k:=?_); clear hm; rintro _ I3 _ _ ⟨rfl, a2, d2, rfl, s2⟩ hle hm; have hleI3 := hle; try simp only [setn] at hm)
  | (refine mt_call (d:=11) hm (hc:=c3 _ (hleI2.trans hleI3)) (k:=?_); clear hm; rintro _ I4 _ _ ⟨rfl, a3, d3, rfl, s3⟩ hle hm; have hleI4 := hle; try simp only [setn] at hm)
  | (refine m_call (d:=17) hm (hp:=pm0) (hc:=c4 _ ((hleI2.trans hleI3).trans hleI4)) (k:=?_); clear hm; rintro _ I5 Hb _ ⟨a4, d4, rfl, ho4⟩ hleI5 hm; replace hm := hm.perm List.perm_append_comm; try simp only [setn] at hm)
  | refine mw_load1 hR (k:=?_)
  | refine wx_cons ?_
  | refine wv_nilX ?_
  | refine ws_nil ?_
  | refine at_X ?_
  | (refine wx_nil ?_; replace hm := hR.back hm; clear hR; try simp only [setn] at hm)
  | (refine m_box (d:=1) hm (k:=?_); clear hm; intro b1 _ hm)
  | (refine m_allocS (d:=2) hm (k:=?_); clear hm; intro b2 _ hm)
  | refine m_load1 hm (k:=?_)
  | refine m_loadAll hm (k:=?_)
  | (refine m_storeAll hm (k:=?_); clear hm; intro _ hm; try simp only [setn] at hm)
  | (refine m_store1 hm (k:=?_); clear hm; intro _ hm; try simp only [setn] at hm)
  | refine m_ret_agg hm (h:=?_)
  | refine op_fieldAddr (k:=?_)
  | refine wl_nil ?_
  | refine at_then_normal ?_
  | refine wc_seq ?_
  | refine wc_region ?_
  | refine wc_ret ?_
  | refine v_fieldAddr (k:=?_))
  all_goals try (exfalso; omega)
  refine ⟨I5, _, ⟨a1, d1, a2, d2, a4, d4, a3, d3, Hb, rfl, rfl, ho4, (s2.le hleI4).le hleI5, s3.le hleI5⟩, hm.snd.snd⟩
end Go.Proofs.YthmdffgiockcbaaDoor
end
section
namespace Go.Sp
theorem fillL_map (o : Lab) (l : List Stm) : fillL o l = l.map (fillS o) := by
  induction l with
  | nil => rw [fillL]; rfl
  | cons x l ih => rw [fillL, ih]; rfl
theorem fillL_len (o : Lab) (l : List Stm) : (fillL o l).length = l.length := by rw [fillL_map, List.length_map]
theorem fillL_app (o : Lab) (l r : List Stm) : fillL o (l ++ r) = fillL o l ++ fillL o r := by rw [fillL_map, fillL_map, fillL_map, List.map_append]
theorem drop_get {α : Type} {l : List α} {k : Nat} {x : α} (h : l[k]? = some x) : l.drop k = x :: l.drop (k + 1) := by
  obtain ⟨hk, e⟩ := List.getElem?_eq_some_iff.1 h
  rw [← e]; exact List.drop_eq_getElem_cons hk
def lblS (o : Lab) (y : Stm) : Nat := if y.kind = 1 ∧ y.opn = true then o y.fr else y.label
def opnS (y : Stm) : Bool := if y.kind = 1 then false else y.opn
theorem fillS_eq (o : Lab) (y : Stm) : fillS o y = .mk y.kind y.name y.at_ (lblS o y) (opnS y) y.e (fillL o y.thn) (fillL o y.els) y.fr y.to := by cases y; rw [fillS]; rfl
end Go.Sp
namespace Go.Proofs.YthmdffgiockcbaaDoor
open Go.Fw
theorem mid_getI {x1 c x2 : List Value} {n j : Nat} (h1 : x1.length = n) (hj : j < c.length) : (x1 ++ (c ++ x2))[n + j]? = c[j]? := by
  rw [List.getElem?_append_right (by omega), show n + j - x1.length = j by omega, List.getElem?_append_left hj]
theorem mid_ltI {x1 c x2 : List Value} {n j : Nat} (h1 : x1.length = n) (hj : j < c.length) : n + j < (x1 ++ (c ++ x2)).length := by
  rw [List.length_append, List.length_append]; omega
theorem mid_setI {x1 c x2 : List Value} {n j : Nat} {v : Value} (h1 : x1.length = n) (hj : j < c.length) : (x1 ++ (c ++ x2)).set (n + j) v = x1 ++ (c.set j v ++ x2) := by
  rw [List.set_append, if_neg (by omega), show n + j - x1.length = j by omega, List.set_append, if_pos hj]
structure FlW where
  k : Nat
  I : Imm
  xs : List Value
  Hs : List HItem
abbrev ToFill (o : Sp.Lab) (l : List Sp.Stm) (a : Option Addr) (c : Nat) : Value → Imm → List HItem → Prop := fun v J H' => v = .tuple #[] ∧ StsO J (Sp.fillL o l) a c H'
theorem _root_.Go.Fw.pmRow {x : HItem} {H : List HItem} : (x :: H).Perm ([x] ++ H) := .refl _
set_option maxHeartbeats 32000000 in
theorem i_fill {bd bo : Nat} {zs : EntsZ} {o : Sp.Lab} {f0 f1 f3 : Value} (hz : OpenZ zs o) : ∀ (n : Nat) (l : List Sp.Stm), SizeOf.sizeOf l ≤ n → l.length ≤ 64 → Sp.stmsSmall l → ∀ (I : Imm) (a : Option Addr) (c : Nat) (H : List HItem), PtrI I bd 0 53 [f0, f1, .map (some bo), f3] → MapIZ I bo zs → StsO I l a c H →
    CalM Tryd.prog 13 #[ptr bd, .slice a l.length c] I H (ToFill o l a c) := by
  intro n
  induction n with
  | zero => intro l h; cases l <;> simp at h
  | succ n ih =>
  intro l hsz hll hsm I a c H hpd hmz hO
  obtain ⟨xs, Hs, rfl, hC⟩ := hO
  refine CalM.of fun w E hm => enter (N := 53) Tryd.func13 rfl [(0, ptr bd), (1, .slice a l.length c)] args2 rfl ?_
  repeat' (first
  | refine op_move (k:=?_)
  | refine op_len_slice (k:=?_)
  | refine wl_nil ?_
  | refine at_then_normal ?_
  | refine wc_seq ?_
  | refine wc_region ?_
  | refine wc_block ?_)
  refine wc_loop (fun x : FlW => [(0, ptr bd), (1, .slice a l.length c), (7, nt l.length), (8, nt x.k)])
    (fun x w' => Mem E x.I (stRow l.length a c x.xs :: x.Hs) w' ∧ Le I x.I ∧ StsC x.I (Sp.fillL o (l.take x.k) ++ l.drop x.k) x.xs x.Hs ∧ x.k ≤ l.length)
    (fun x => l.length - x.k) ⟨0, I, xs, Hs⟩ (by exact ⟨rfl, rfl, rfl, rfl, trivial⟩) ⟨hm, Le.refl _, by dsimp only; rw [List.take_zero, Sp.fillL, List.nil_append, List.drop_zero]; exact hC, Nat.zero_le _⟩ ?_
  clear hm hC
  rintro ⟨k, I1, xs1, Hs1⟩ w2 ⟨hm, hle1, hC, hk⟩
  dsimp only at hm hle1 hC hk ⊢
  have hpd1 := hpd.le hle1
  have hmz1 := hmz.le hle1
  by_cases hlt : k < l.length
  · have hg : l[k]? = some l[k] := List.getElem?_eq_getElem hlt
    have hme := Sp.sizeL_mem (List.getElem_mem hlt)
    have hsm2 := Sp.stmsSmall_get hsm hg
    generalize l[k] = y at hg hsm2 hme
    rw [Sp.drop_get hg] at hC
    obtain ⟨s1, s2, s3, s4, s5⟩ := Sp.small_parts hsm2
    obtain ⟨z1, z2⟩ := Sp.size_thn (s := y)
    obtain ⟨x1, x2, G1, G2, rfl, rfl, hC1, hC2⟩ := hC.part
    obtain ⟨cy, x3, G3, G4, rfl, rfl, hY, hC3⟩ := hC2.uncons
    have hl1 := hC1.len
    rw [Sp.fillL_len, List.length_take, Nat.min_eq_left hk] at hl1
    obtain ⟨ea, ec, ex, a1, c1, a2, c2, H1, H2, rfl, hr, hx, rfl, hO1, hO2⟩ := hY.out
    obtain ⟨gb, rfl⟩ := hm.rowAddr (by omega)
    have hct := fun (J : Imm) (m : Le I1 J) => ih y.thn (by omega) s2 s3 J a1 c1 H1 (hpd1.le m) (hmz1.le m) (hO1.le m)
    have hcl := fun (J : Imm) (m : Le I1 J) => ih y.els (by omega) s4 s5 J a2 c2 H2 (hpd1.le m) (hmz1.le m) (hO2.le m)
    have hoff : ∀ j : Nat, 0 + (k : Int).toNat * 15 + j = k * 15 + j := fun j => by rw [Int.toNat_natCast]; omega
    have htk : Sp.fillL o (l.take (k + 1)) = Sp.fillL o (l.take k) ++ [Sp.fillS o y] := by rw [Sp.take_succ_get hg, Sp.fillL_app, Sp.fillL_map o [y]]; rfl
    have hY2 : ∀ (I3 : Imm) (H1' H2' : List HItem), Le I1 I3 → StsO I3 (Sp.fillL o y.thn) a1 c1 H1' → StsO I3 (Sp.fillL o y.els) a2 c2 H2' →
        StO I3 (Sp.fillS o y) (stCells y.kind y.name y.at_ (Sp.lblS o y) (Sp.opnS y) y.e ea ec (.slice a1 y.thn.length c1) (.slice a2 y.els.length c2) y.fr y.to) (H1' ++ H2') := fun I3 H1' H2' m o1 o2 => by
      have h := StO.of (I := I3) (k := y.kind) (a := y.at_) (lb := Sp.lblS o y) (f := y.fr) (t := y.to) (nm := y.name) (o := Sp.opnS y) (e := y.e) (thn := Sp.fillL o y.thn) (els := Sp.fillL o y.els) (hr.le m) (ExsAt.le m _ _ hx) o1 o2
      rw [Sp.fillL_len, Sp.fillL_len] at h
      rw [Sp.fillS_eq]; exact h
    by_cases hlet : y.kind = 1 ∧ y.opn = true
    · have e1 : Sp.lblS o y = o y.fr := by rw [Sp.lblS, if_pos hlet]
      have e2 : Sp.opnS y = false := by rw [Sp.opnS, if_pos hlet.1]
      rw [e1, e2] at hY2
      have hlk := hz.get y.fr
      have hk1 := hlet.1
      have ho := hlet.2
      rw [ho] at hm
      repeat' (first
      | (refine m_loadRow (off := k * 15 + 0) (d := 17) hm (by rfl) (by rfl) (by rw [← hoff]; rfl) (by rw [mid_getI hl1 (by simp)]; rfl) ?_)
      | (refine m_loadRow (off := k * 15 + 4) (d := 23) hm (by rfl) (by rfl) (by rw [← hoff]; rfl) (by rw [mid_getI hl1 (by simp)]; rfl) ?_)
      | (refine wc_fork_mem (id:=5) (hm.perm pmRow) [0,1,2,3,4,5,6,7,8] 14 (h:=?_); clear hm; intro wd hR hm)
      | (refine mu_loadRow (i := 0) (off := k * 15 + 13) (d := 34) hm (by rfl) (by rfl) (by rw [← hoff]; rfl) gt0 (by rw [mid_getI hl1 (by simp)]; rfl) ?_)
      | (refine iu_lookupZ (d := 35) hm hmz1 (by rfl) (by rfl) (by rfl) (by rfl) zero_nt ?_; rw [hlk])
      | (refine wu_nilCheck (d := 36) hm.kept (by rfl) (by rfl) (by rfl) ?_)
      | (refine wu_fieldAddr (d := 37) hm.kept (by rfl) (by rfl) (by rfl) ?_)
      | (refine mu_storeRow (off := k * 15 + 4) hm (by rfl) (by rfl) (by rw [← hoff]; rfl) (by rfl) (by rfl) (by rfl) (mid_ltI hl1 (by simp)) ?_; clear hm; intro _ hm; rw [mid_setI hl1 (by simp)] at hm; simp only [List.set_cons_zero, List.set_cons_succ] at hm)
      | (refine m_storeRow (off := k * 15 + 3) hm (by rfl) (by rfl) (by rw [← hoff]; rfl) (by rfl) (by rfl) (by rfl) (mid_ltI hl1 (by simp)) ?_; clear hm; intro _ hm; rw [mid_setI hl1 (by simp)] at hm; simp only [List.set_cons_zero, List.set_cons_succ] at hm)
      | (refine wa_one (i:=9) (by decide +kernel) (h:=?_))
      | (refine wa_one (i:=10) (by decide +kernel) (h:=?_))
      | (refine wa_one (i:=11) (by decide +kernel) (h:=?_))
      | (refine wa_one (i:=12) (by decide +kernel) (h:=?_))
      | (refine wa_one (i:=13) (by decide +kernel) (h:=?_))
      | (refine wa_nil (by decide +kernel) ?_; replace hm := (hR.back hm).perm pmRow.symm; clear hR)
      | (refine m_loadRow (off := k * 15 + 11) (d := 44) hm (by rfl) (by rfl) (by rw [← hoff]; rfl) (by rw [mid_getI hl1 (by simp)]; rfl) ?_)
      | (refine m_loadRow (off := k * 15 + 12) (d := 50) hm (by rfl) (by rfl) (by rw [← hoff]; rfl) (by rw [mid_getI hl1 (by simp)]; rfl) ?_)
      | (refine m_call (d:=45) hm (hp:=pmT1) (hc:=hct I1 (Le.refl _)) (k:=?_); clear hm; rintro _ I2 H1' _ ⟨rfl, ho4⟩ hleI2 hm; replace hm := hm.perm pmT1.symm)
      | (refine m_call (d:=51) hm (hp:=pmT1.trans pmT2) (hc:=hcl I2 hleI2) (k:=?_); clear hm; rintro _ I3 H2' _ ⟨rfl, ho5⟩ hleI3 hm; replace hm := hm.perm pmT3)
      | refine iw_load1 hR (k:=?_)
      | refine wv_nilA ?_
      | refine op_move (k:=?_)
      | refine op_assign (k:=?_)
      | refine op_pick_true (k:=?_)
      | refine op_lss (k:=?_)
      | refine op_eql (k:=?_)
      | refine op_nilCheck (k:=?_)
      | refine op_add (k:=?_)
      | refine op_fieldAddr (k:=?_)
      | refine op_indexAddr (k:=?_)
      | (refine wl_split_dec (h1:=fun _ => ?_) (h0:=fun _ => ?_)<;> (try first | contradiction | (exfalso; omega)))
      | refine wl_nil ?_
      | refine at_then_normal ?_
      | refine at_block_normal ?_
      | refine wc_seq ?_
      | refine wc_region ?_
      | refine wc_block ?_
      | refine wc_skip ?_
      | refine wc_cond_true (ht:=?_)
      | (refine wc_cond_dec (ht:=fun _ => ?_) (hf:=fun _ => ?_)<;> (try first | contradiction | (exfalso; omega)))
      | refine v_move (k:=?_)
      | refine v_nilCheck (k:=?_)
      | refine v_fieldAddr (k:=?_))
      all_goals try (exfalso; omega)
      refine at_round (⟨k + 1, I3, _, _⟩ : FlW) (by exact ⟨rfl, rfl, rfl, rfl, trivial⟩) ⟨hm, (hle1.trans hleI2).trans hleI3, ?_, by dsimp only; omega⟩ (by dsimp only; omega)
      dsimp only
      rw [htk, List.append_assoc]
      exact (StsC.le (hleI2.trans hleI3) _ _ _ hC1).app ((StsC.one (hY2 I3 H1' H2' (hleI2.trans hleI3) (ho4.le hleI3) ho5)).app (StsC.le (hleI2.trans hleI3) _ _ _ hC3))
    · have e1 : Sp.lblS o y = y.label := by rw [Sp.lblS, if_neg hlet]
      have e2 : Sp.opnS y = y.opn := by
        rw [Sp.opnS]; split
        · rename_i h1
          cases ho : y.opn with
          | true => exact absurd ⟨h1, ho⟩ hlet
          | false => rfl
        · rfl
      rw [e1, e2] at hY2
      by_cases hk1 : y.kind = 1
      · have ho : y.opn = false := by
          cases ho : y.opn with
          | true => exact absurd ⟨hk1, ho⟩ hlet
          | false => rfl
        rw [ho] at hm hY2
        repeat' (first
        | (refine m_loadRow (off := k * 15 + 0) (d := 17) hm (by rfl) (by rfl) (by rw [← hoff]; rfl) (by rw [mid_getI hl1 (by simp)]; rfl) ?_)
        | (refine m_loadRow (off := k * 15 + 4) (d := 23) hm (by rfl) (by rfl) (by rw [← hoff]; rfl) (by rw [mid_getI hl1 (by simp)]; rfl) ?_)
        | (refine m_loadRow (off := k * 15 + 11) (d := 44) hm (by rfl) (by rfl) (by rw [← hoff]; rfl) (by rw [mid_getI hl1 (by simp)]; rfl) ?_)
        | (refine m_loadRow (off := k * 15 + 12) (d := 50) hm (by rfl) (by rfl) (by rw [← hoff]; rfl) (by rw [mid_getI hl1 (by simp)]; rfl) ?_)
        | (refine m_call (d:=45) hm (hp:=pmT1) (hc:=hct I1 (Le.refl _)) (k:=?_); clear hm; rintro _ I2 H1' _ ⟨rfl, ho4⟩ hleI2 hm; replace hm := hm.perm pmT1.symm)
        | (refine m_call (d:=51) hm (hp:=pmT1.trans pmT2) (hc:=hcl I2 hleI2) (k:=?_); clear hm; rintro _ I3 H2' _ ⟨rfl, ho5⟩ hleI3 hm; replace hm := hm.perm pmT3)
        | refine op_move (k:=?_)
        | refine op_assign (k:=?_)
        | refine op_pick_true (k:=?_)
        | refine op_lss (k:=?_)
        | refine op_eql (k:=?_)
        | refine op_nilCheck (k:=?_)
        | refine op_add (k:=?_)
        | refine op_fieldAddr (k:=?_)
        | refine op_indexAddr (k:=?_)
        | (refine wl_split_dec (h1:=fun _ => ?_) (h0:=fun _ => ?_)<;> (try first | contradiction | (exfalso; omega)))
        | refine wl_nil ?_
        | refine at_then_normal ?_
        | refine at_block_normal ?_
        | refine wc_seq ?_
        | refine wc_region ?_
        | refine wc_block ?_
        | refine wc_skip ?_
        | refine wc_cond_false (hf:=?_)
        | (refine wc_cond_dec (ht:=fun _ => ?_) (hf:=fun _ => ?_)<;> (try first | contradiction | (exfalso; omega))))
        all_goals try (exfalso; omega)
        refine at_round (⟨k + 1, I3, _, _⟩ : FlW) (by exact ⟨rfl, rfl, rfl, rfl, trivial⟩) ⟨hm, (hle1.trans hleI2).trans hleI3, ?_, by dsimp only; omega⟩ (by dsimp only; omega)
        dsimp only
        rw [htk, List.append_assoc]
        exact (StsC.le (hleI2.trans hleI3) _ _ _ hC1).app ((StsC.one (hY2 I3 H1' H2' (hleI2.trans hleI3) (ho4.le hleI3) ho5)).app (StsC.le (hleI2.trans hleI3) _ _ _ hC3))
      · skip
        repeat' (first
        | (refine m_loadRow (off := k * 15 + 0) (d := 17) hm (by rfl) (by rfl) (by rw [← hoff]; rfl) (by rw [mid_getI hl1 (by simp)]; rfl) ?_)
        | (refine m_loadRow (off := k * 15 + 11) (d := 44) hm (by rfl) (by rfl) (by rw [← hoff]; rfl) (by rw [mid_getI hl1 (by simp)]; rfl) ?_)
        | (refine m_loadRow (off := k * 15 + 12) (d := 50) hm (by rfl) (by rfl) (by rw [← hoff]; rfl) (by rw [mid_getI hl1 (by simp)]; rfl) ?_)
        | (refine m_call (d:=45) hm (hp:=pmT1) (hc:=hct I1 (Le.refl _)) (k:=?_); clear hm; rintro _ I2 H1' _ ⟨rfl, ho4⟩ hleI2 hm; replace hm := hm.perm pmT1.symm)
        | (refine m_call (d:=51) hm (hp:=pmT1.trans pmT2) (hc:=hcl I2 hleI2) (k:=?_); clear hm; rintro _ I3 H2' _ ⟨rfl, ho5⟩ hleI3 hm; replace hm := hm.perm pmT3)
        | refine op_move (k:=?_)
        | refine op_assign (k:=?_)
        | refine op_pick_false (k:=?_)
        | refine op_lss (k:=?_)
        | refine op_eql (k:=?_)
        | refine op_nilCheck (k:=?_)
        | refine op_add (k:=?_)
        | refine op_fieldAddr (k:=?_)
        | refine op_indexAddr (k:=?_)
        | refine wl_skip (k:=?_)
        | (refine wl_split_dec (h1:=fun _ => ?_) (h0:=fun _ => ?_)<;> (try first | contradiction | (exfalso; omega)))
        | refine wl_nil ?_
        | refine at_then_normal ?_
        | refine at_block_normal ?_
        | refine wc_seq ?_
        | refine wc_region ?_
        | refine wc_block ?_
        | refine wc_skip ?_
        | refine wc_cond_false (hf:=?_)
        | (refine wc_cond_dec (ht:=fun _ => ?_) (hf:=fun _ => ?_)<;> (try first | contradiction | (exfalso; omega))))
        all_goals try (exfalso; omega)
        refine at_round (⟨k + 1, I3, _, _⟩ : FlW) (by exact ⟨rfl, rfl, rfl, rfl, trivial⟩) ⟨hm, (hle1.trans hleI2).trans hleI3, ?_, by dsimp only; omega⟩ (by dsimp only; omega)
        dsimp only
        rw [htk, List.append_assoc]
        exact (StsC.le (hleI2.trans hleI3) _ _ _ hC1).app ((StsC.one (hY2 I3 H1' H2' (hleI2.trans hleI3) (ho4.le hleI3) ho5)).app (StsC.le (hleI2.trans hleI3) _ _ _ hC3))
  · obtain rfl : k = l.length := by omega
    rw [List.take_length, List.drop_length, List.append_nil] at hC
    repeat' (first
    | refine op_lss (k:=?_)
    | refine wl_nil ?_
    | refine at_then_normal ?_
    | refine at_then_exit ?_
    | refine at_block_exit ?_
    | refine wc_seq ?_
    | refine wc_region ?_
    | refine wc_exit ?_
    | refine at_end0 (h:=?_)
    | (refine wc_cond_dec (ht:=fun _ => ?_) (hf:=fun _ => ?_)<;> (try first | contradiction | (exfalso; omega))))
    all_goals try (exfalso; omega)
    exact ⟨I1, _, ⟨rfl, xs1, Hs1, by rw [Sp.fillL_len], hC⟩, hm⟩
end Go.Proofs.YthmdffgiockcbaaDoor
end
