/- Own work: texts SpecRun2, RunB, SpecSort, SpecEff, one behind the other. -/
import Derived.Test.YthmdffgiockcbaaGreatDoorRb13
section
namespace Go.Sp
structure MR.To (m m' : MR) : Prop where
  top : m'.steps ≤ 3000
  up : m.steps ≤ m'.steps
  ev : m.steps + m'.ev.length ≤ m'.steps + m.ev.length
theorem MR.To.refl {m : MR} (h : m.steps ≤ 3000) : m.To m := ⟨h, Nat.le_refl _, Nat.le_refl _⟩
theorem MR.To.trans {a b c : MR} (h : a.To b) (g : b.To c) : a.To c := ⟨g.top, Nat.le_trans h.up g.up, by have := h.ev; have := g.ev; omega⟩
theorem step_to {m : MR} (h : m.steps ≤ 3000) : m.To m.step := by
  rw [MR.step]
  split
  · exact .refl h
  · split
    · exact ⟨by dsimp only; omega, by dsimp only; omega, by dsimp only; omega⟩
    · exact ⟨h, Nat.le_refl _, Nat.le_refl _⟩
theorem step_go {m : MR} (h : m.go = true) : m.step = { m with steps := m.steps + 1 } ∧ m.err = 0 ∧ m.steps < 3000 := by
  simp only [MR.go, Bool.and_eq_true, decide_eq_true_eq] at h
  rw [MR.step, if_neg (by omega), if_pos h.2]
  exact ⟨rfl, h⟩
def CallOk (C : CallR) : Prop := ∀ (nm : List UInt8) (args : List Int) (m : MR), m.steps ≤ 3000 → m.To (C nm args m).2
section
variable {C : CallR}
theorem exR_eq (C : CallR) (sc : List Cl) (e : Ex) (m : MR) : exR C sc e m = if m.go = false then (0, m.step) else if e.kind = 1 then ((e.n : Int), m.step) else if e.kind = 2 then (getR sc e.name, m.step) else
    if e.kind = 3 then (opR e.name ((exsR C sc e.args m.step).1.getD 0 0) ((exsR C sc e.args m.step).1.getD 1 0), (exsR C sc e.args m.step).2) else C e.name (exsR C sc e.args m.step).1 (exsR C sc e.args m.step).2 := by
  cases e; rw [exR]; rfl
mutual
theorem exR_to (hC : CallOk C) (sc : List Cl) : ∀ (e : Ex) (m : MR), m.steps ≤ 3000 → m.To (exR C sc e m).2
  | .mk k nm n args f t, m, h => by
    have h1 := step_to h
    have h2 := exsR_to hC sc args m.step h1.top
    rw [exR]
    split
    · exact h1
    · split
      · exact h1
      · split
        · exact h1
        · split
          · exact h1.trans h2
          · exact (h1.trans h2).trans (hC _ _ _ h2.top)
theorem exsR_to (hC : CallOk C) (sc : List Cl) : ∀ (l : List Ex) (m : MR), m.steps ≤ 3000 → m.To (exsR C sc l m).2
  | [], m, h => by rw [exsR]; exact .refl h
  | e :: l, m, h => by
    rw [exsR]
    have h1 := exR_to hC sc e m h
    exact h1.trans (exsR_to hC sc l _ h1.top)
 end
theorem exsR_app (sc : List Cl) : ∀ (l r : List Ex) (m : MR), exsR C sc (l ++ r) m = ((exsR C sc l m).1 ++ (exsR C sc r (exsR C sc l m).2).1, (exsR C sc r (exsR C sc l m).2).2)
  | [], r, m => by rw [List.nil_append, exsR]; rfl
  | e :: l, r, m => by rw [List.cons_append, exsR, exsR, exsR_app sc l r]; rfl
theorem exsR_step (sc : List Cl) {l : List Ex} {k : Nat} {e : Ex} (h : l[k]? = some e) (m : MR) :
    exsR C sc (l.take (k + 1)) m = ((exsR C sc (l.take k) m).1 ++ [(exR C sc e (exsR C sc (l.take k) m).2).1], (exR C sc e (exsR C sc (l.take k) m).2).2) := by
  rw [take_succ_get h, exsR_app, exsR, exsR]
theorem exsR_len (sc : List Cl) : ∀ (l : List Ex) (m : MR), (exsR C sc l m).1.length = l.length
  | [], m => by rw [exsR]; rfl
  | e :: l, m => by rw [exsR, List.length_cons, exsR_len sc l, List.length_cons]
theorem exsR_two {sc : List Cl} {l : List Ex} {e1 e2 : Ex} (h : l.length = 2) (h1 : l[0]? = some e1) (h2 : l[1]? = some e2) (m : MR) :
    exsR C sc l m = ([(exR C sc e1 m).1, (exR C sc e2 (exR C sc e1 m).2).1], (exR C sc e2 (exR C sc e1 m).2).2) := by
  match l, h, h1, h2 with
  | [a, b], _, h1, h2 =>
    obtain rfl := Option.some.inj h1
    obtain rfl := Option.some.inj h2
    rw [exsR, exsR, exsR]
structure SR.To (c : Nat) (s s' : SR) : Prop where
  m : s.m.To s'.m
  lo : s.sc.length ≤ s'.sc.length
  hi : s'.sc.length ≤ s.sc.length + c
theorem SR.To.mono {c c' : Nat} {s s' : SR} (h : SR.To c s s') (hc : c ≤ c') : SR.To c' s s' := ⟨h.m, h.lo, by have := h.hi; omega⟩
theorem SR.To.same {s : SR} {m : MR} (h : s.m.To m) (c : Nat) : SR.To c s { s with m := m } := ⟨h, Nat.le_refl _, by dsimp only; omega⟩
def BlkTo (c : Nat) (b : SR → SR) : Prop := ∀ s, s.m.steps ≤ 3000 → SR.To c s (b s) ∧ ((b s).m.err = 0 → (b s).sc.length = s.sc.length)
theorem loopR_to {c : Nat} {f : List Cl → MR → Int × MR} {b : SR → SR} (hf : ∀ (sc : List Cl) (m : MR), m.steps ≤ 3000 → m.To (f sc m).2) (hb : BlkTo c b) : ∀ (k : Nat) (s : SR), s.m.steps ≤ 3000 → SR.To c s (loopR f b k s)
  | 0, s, h => by rw [loopR]; exact ⟨.refl h, Nat.le_refl _, by omega⟩
  | k + 1, s, h => by
    rw [loopR]
    have h1 := step_to h
    have h2 := hf s.sc s.m.step h1.top
    split
    · exact .same h1 c
    · split
      · have h3 := hb { s with m := (f s.sc s.m.step).2 } h2.top
        have h4 := loopR_to hf hb k _ h3.1.m.top
        by_cases he : (b { s with m := (f s.sc s.m.step).2 }).m.err = 0
        · have h5 := h3.2 he
          refine ⟨((h1.trans h2).trans h3.1.m).trans h4.m, ?_, ?_⟩
          · have := h4.lo; dsimp only at h5; omega
          · have := h4.hi; dsimp only at h5; omega
        · have key : ∀ k (s : SR), s.m.err ≠ 0 → loopR f b k s = s := by
            intro k s hs
            cases k with
            | zero => rw [loopR]
            | succ k =>
              rw [loopR, if_pos (by rw [MR.go, decide_eq_false hs]; rfl), MR.step, if_pos hs]
          rw [key _ _ he]
          exact ⟨(h1.trans h2).trans h3.1.m, h3.1.lo, h3.1.hi⟩
      · exact .same (h1.trans h2) c
theorem setR_len (sc : List Cl) (n : List UInt8) (v : Int) : (setR sc n v).length = sc.length := by
  rw [setR]
  split
  · rw [List.length_set]
  · rfl
theorem shutR_to {c : Nat} {s : SR} {r : SR × Bool} (h : SR.To c s r.1) (he : r.2 = false → r.1.m.err ≠ 0) : SR.To c s (shutR s.sc.length r) ∧ ((shutR s.sc.length r).m.err = 0 → (shutR s.sc.length r).sc.length = s.sc.length) := by
  rw [shutR]
  have := h.lo
  have := h.hi
  split
  · have hl : (r.1.sc.take s.sc.length).length = s.sc.length := by rw [List.length_take]; omega
    exact ⟨⟨h.m, by dsimp only; omega, by dsimp only; omega⟩, fun _ => hl⟩
  · rename_i hr
    exact ⟨h, fun h0 => absurd h0 (he (by simpa using hr))⟩
mutual
theorem stmR_to (hC : CallOk C) : ∀ (x : Stm) (s : SR), s.m.steps ≤ 3000 → SR.To x.cnt s (stmR C x s)
  | .mk k nm a lb o e thn els f t, s, h => by
    have h1 := step_to h
    have h2 := exR_to hC s.sc e s.m.step h1.top
    have h3 := h1.trans h2
    have hT : BlkTo (stmsCnt thn) (fun s => shutR s.sc.length (goR C thn s)) := fun s h => shutR_to (goR_to hC thn s h).1 (goR_to hC thn s h).2
    have hE : BlkTo (stmsCnt els) (fun s => shutR s.sc.length (goR C els s)) := fun s h => shutR_to (goR_to hC els s h).1 (goR_to hC els s h).2
    rw [stmR, Stm.cnt]
    split
    · exact (loopR_to (fun sc m h => exR_to hC sc e m h) hT 3001 s h).mono (by omega)
    · split
      · exact .same h1 _
      · split
        · exact .same h3 _
        · split
          · exact ⟨h3, by dsimp only; rw [List.length_append]; omega, by dsimp only; rw [List.length_append, List.length_singleton]; omega⟩
          · split
            · exact ⟨h3, by dsimp only; rw [setR_len]; omega, by dsimp only; rw [setR_len]; omega⟩
            · rename_i hg _ _ _
              have hg := step_go (by simpa using hg)
              split
              · refine ⟨⟨h3.top, h3.up, ?_⟩, Nat.le_refl _, by dsimp only; omega⟩
                dsimp only
                rw [List.length_append, List.length_singleton]
                have := h2.ev
                rw [hg.1] at this ⊢
                dsimp only at this ⊢
                omega
              · split
                · exact ⟨h3, Nat.le_refl _, by dsimp only; omega⟩
                · split
                  · split
                    · have := (hT { s with m := (exR C s.sc e s.m.step).2 } h3.top).1
                      exact ⟨h3.trans this.m, this.lo, by have := this.hi; dsimp only at this ⊢; omega⟩
                    · have := (hE { s with m := (exR C s.sc e s.m.step).2 } h3.top).1
                      exact ⟨h3.trans this.m, this.lo, by have := this.hi; dsimp only at this ⊢; omega⟩
                  · exact .same h3 _
theorem goR_to (hC : CallOk C) : ∀ (l : List Stm) (s : SR), s.m.steps ≤ 3000 → SR.To (stmsCnt l) s (goR C l s).1 ∧ ((goR C l s).2 = false → (goR C l s).1.m.err ≠ 0)
  | [], s, h => by rw [goR]; exact ⟨⟨.refl h, Nat.le_refl _, by dsimp only; omega⟩, fun h => (by cases h)⟩
  | x :: l, s, h => by
    rw [goR, stmsCnt]
    split
    · rename_i he
      exact ⟨⟨.refl h, Nat.le_refl _, by dsimp only; omega⟩, fun _ => he⟩
    · have h1 := stmR_to hC x s h
      obtain ⟨h2, h3⟩ := goR_to hC l _ h1.m.top
      exact ⟨⟨h1.m.trans h2.m, by have := h1.lo; have := h2.lo; omega, by have := h1.hi; have := h2.hi; omega⟩, h3⟩
 end
theorem blkR_to (hC : CallOk C) (l : List Stm) (s : SR) (h : s.m.steps ≤ 3000) : SR.To (stmsCnt l) s (blkR C l s) ∧ ((blkR C l s).m.err = 0 → (blkR C l s).sc.length = s.sc.length) :=
  shutR_to (goR_to hC l s h).1 (goR_to hC l s h).2
end
theorem callR_ok (its : List Itm) : ∀ d, CallOk (callR its d)
  | 0 => fun nm args m h => by
    rw [callR]
    split
    · exact .refl h
    · exact ⟨h, Nat.le_refl _, Nat.le_refl _⟩
  | d + 1 => fun nm args m h => by
    rw [callR]
    split
    · exact .refl h
    · split
      · exact .refl h
      · exact (blkR_to (callR_ok its d) _ ⟨_, 0, m⟩ h).1.m
def okE (its : List Itm) : PE := fun k nm _ na _ _ => k = 1 ∨ k = 2 ∨ (k = 3 ∧ na = 2) ∨ (k = 4 ∧ ∃ j, findIt its 2 nm = some j ∧ (itNo its j).params.length = na)
end Go.Sp
end
section
namespace Go.Proofs.YthmdffgiockcbaaGreatDoor
open Go.Fw
theorem _root_.Go.Fw.pmR4 {a b c d : HItem} {R : List HItem} : (a :: b :: c :: d :: R).Perm ([a, b, c, d] ++ R) := .refl _
theorem _root_.Go.Fw.pmR41 {x a b c d : HItem} {R : List HItem} : (x :: a :: b :: c :: d :: R).Perm ([a, b, c, d] ++ (x :: R)) :=
  (List.Perm.swap a x _).trans (((List.Perm.swap b x _).trans (((List.Perm.swap c x _).trans ((List.Perm.swap d x R).cons c)).cons b)).cons a)
theorem _root_.Go.Fw.pmRL {x : HItem} {A : List HItem} : (A ++ [x]).Perm (x :: A) := List.perm_append_comm
abbrev RSt (br bm bf : Nat) (sc : List Sp.Cl) (back : Int) (m : Sp.MR) (sa : Option Addr) (sp : Nat) (va : Option Addr) (vp deep : Nat) : List HItem :=
  [fCell br bm sc sa sp back, scRow sc sa sp, mCell bm bf m va vp deep, evRow m va vp]
abbrev intV (l : List Int) : List Value := l.map (fun n => .int .i64 n)
def CallW (I : Imm) (its : List Sp.Itm) (C : Sp.CallR) (bm bf deep : Nat) : Prop :=
  ∀ (J : Imm) (nm : List UInt8) (args : List Int) (m : Sp.MR) (va : Option Addr) (vp : Nat) (aa : Option Addr) (ac : Nat), Le I J → (∃ j, Sp.findIt its 2 nm = some j ∧ (Sp.itNo its j).params.length = args.length) →
    RowI J 3 1 (.slice aa args.length ac) args.length (intV args) → m.steps ≤ 3000 → m.ev.length ≤ m.steps →
    CalM Tryz.prog 58 #[ptr bm, str nm, .slice aa args.length ac] J [mCell bm bf m va vp deep, evRow m va vp]
      (fun v _ H' => v = .int .i64 (C nm args m).1 ∧ ∃ va' vp', H' = [mCell bm bf (C nm args m).2 va' vp' deep, evRow (C nm args m).2 va' vp'])
structure RunX where
  k : Nat
  I : Imm
  va : Option Addr
  vp : Nat
  aa : Option Addr
  ac : Nat
section
variable {I0 : Imm} {its : List Sp.Itm} {C : Sp.CallR} {br bm bf deep : Nat}
set_option maxHeartbeats 64000000 in
theorem r_expr (hW : CallW I0 its C bm bf deep) (hC : Sp.CallOk C) : ∀ (n : Nat) (e : Sp.Ex), SizeOf.sizeOf e ≤ n → e.small → e.all (Sp.okE its) →
    ∀ (I : Imm) (b o tc : Nat) (ea : Option Addr) (ec : Nat) (ys : List Value) (sc : List Sp.Cl) (back : Int) (m : Sp.MR) (sa : Option Addr) (sp : Nat) (va : Option Addr) (vp : Nat), Le I0 I → m.steps ≤ 3000 → m.ev.length ≤ m.steps → sc.length ≤ 1000000000 →
    PtrI I b o tc (exCells e ea ec) → RowI I 102 6 (.slice ea e.args.length ec) e.args.length ys → ExsAt I e.args ys →
    CalM Tryz.prog 139 #[ptr br, .pointer (some ⟨b, o, none⟩)] I (RSt br bm bf sc back m sa sp va vp deep)
      (fun v _ H' => v = .int .i64 (Sp.exR C sc e m).1 ∧ ∃ va' vp', H' = RSt br bm bf sc back (Sp.exR C sc e m).2 sa sp va' vp' deep) := by
  intro n
  induction n with
  | zero => intro e h; cases e; simp at h
  | succ n ih =>
  intro e hsz hsm hok I b o tc ea ec ys sc back m sa sp va vp hle0 hst hev hsc hp hr hx
  obtain ⟨hal, hasm⟩ := Sp.small_args hsm
  obtain ⟨hnode, hargs⟩ := Sp.Ex.all_node hok
  refine CalM.of fun w E hm => enter (N := 89) Tryz.func139 rfl [(0, ptr br), (1, .pointer (some ⟨b, o, none⟩))] args2 rfl ?_
  have hS := fun (J : Imm) => r_step (bm := bm) (bf := bf) (m := m) (ea := va) (ep := vp) (deep := deep) hst J
  have hto := Sp.step_to hst
  have hse := Sp.step_ev m
  have heq := Sp.exR_eq C sc e m
  have hexs := Sp.exsR_to hC sc e.args m.step hto.top
  obtain ⟨r, hr0⟩ : ∃ r, r = Sp.exR C sc e m := ⟨_, rfl⟩
  rw [← hr0] at heq ⊢
  clear hr0
  generalize hm1 : m.step = m1 at hS hto hse heq hexs
  have hevr : evRow m1 va vp = evRow m va vp := by unfold evRow; rw [hse]
  have hev1 : m1.ev.length ≤ m1.steps := by have := hto.ev; have := hto.up; omega
  cases hgo : m.go with
  | false =>
    rw [hgo, if_pos rfl] at heq
    subst heq
    rw [hgo] at hS
    repeat' (first|(refine m_call (d:=13) hm (hp:=pm1_2) (hc:=hS _) (k:=?_); clear hm; rintro _ I2 _ _ ⟨rfl, rfl⟩ hleI2 hm; try simp only [setn] at hm; rw [← hevr] at hm)|refine m_load1 hm (k:=?_)|refine op_move (k:=?_)|refine op_assign (k:=?_)|refine op_not (k:=?_)|refine op_nilCheck (k:=?_)|refine op_fieldAddr (k:=?_)|refine wl_nil ?_|refine at_then_normal ?_|refine at_then_ret ?_|refine wc_seq ?_|refine wc_region ?_|refine wc_ret ?_|refine at_ret1 (h:=?_)|refine wc_cond_true (ht:=?_))
    all_goals try (exfalso; first | omega | contradiction)
    exact ⟨I2, _, ⟨rfl, va, vp, rfl⟩, hm.perm pm2_1⟩
  | true =>
  rw [hgo, if_neg (by simp)] at heq
  rw [hgo] at hS
  by_cases k1 : e.kind = 1
  · rw [if_pos k1] at heq
    subst heq
    repeat' (first|(refine m_call (d:=13) hm (hp:=pm1_2) (hc:=hS _) (k:=?_); clear hm; rintro _ I2 _ _ ⟨rfl, rfl⟩ hleI2 hm; try simp only [setn] at hm; rw [← hevr] at hm; have hp2 := hp.le hleI2)|refine m_load1 hm (k:=?_)|refine i_load1 hm (k:=?_)|refine op_move (k:=?_)|refine op_assign (k:=?_)|refine op_eql (k:=?_)|refine op_not (k:=?_)|refine op_nilCheck (k:=?_)|refine op_fieldAddr (k:=?_)|refine wl_nil ?_|refine at_then_normal ?_|refine at_then_ret ?_|refine at_block_ret ?_|refine wc_seq ?_|refine wc_region ?_|refine wc_block ?_|refine wc_skip ?_|refine wc_ret ?_|refine at_ret1 (h:=?_)|refine wc_cond_false (hf:=?_)|(refine wc_cond_dec (ht:=fun _ => ?_) (hf:=fun _ => ?_)<;> (try first | contradiction | (exfalso; omega))))
    all_goals try (exfalso; first | omega | contradiction)
    exact ⟨I2, _, ⟨rfl, va, vp, rfl⟩, hm.perm pm2_1⟩
  rw [if_neg k1] at heq
  by_cases k2 : e.kind = 2
  · rw [if_pos k2] at heq
    have hG := fun (J : Imm) => r_get (br := br) (bm := bm) (sc := sc) (sa := sa) (sp := sp) (back := back) e.name J hsc
    rw [Sp.getR] at heq
    repeat' (first|(refine m_call (d:=13) hm (hp:=pm1_2) (hc:=hS _) (k:=?_); clear hm; rintro _ I2 _ _ ⟨rfl, rfl⟩ hleI2 hm; try simp only [setn] at hm; rw [← hevr] at hm; have hp2 := hp.le hleI2)|(refine m_call (d:=32) hm (hp:=pm2_1) (hc:=hG _) (k:=?_); clear hm; rintro _ I3 _ _ (⟨i, p, b2, hgi, hfl, rfl, rfl, rfl⟩ | ⟨hfl, bl, rfl, rfl⟩) hleI3 hm <;> try simp only [setn] at hm)|(refine mi_loadRow (i := 1) (d := 35) hm (by rfl) (by rfl) (by rfl) gt1 (by exact (encCl_at hgi).2) ?_)|refine m_load1 hm (k:=?_)|refine i_load1 hm (k:=?_)|refine op_move (k:=?_)|refine op_assign (k:=?_)|refine op_eql (k:=?_)|refine op_not (k:=?_)|refine op_nilCheck (k:=?_)|refine op_fieldAddr (k:=?_)|refine wl_nil ?_|refine at_then_normal ?_|refine at_then_ret ?_|refine at_block_ret ?_|refine wc_seq ?_|refine wc_region ?_|refine wc_block ?_|refine wc_skip ?_|refine wc_ret ?_|refine at_ret1 (h:=?_)|refine wc_cond_false (hf:=?_)|(refine wc_cond_dec (ht:=fun _ => ?_) (hf:=fun _ => ?_)<;> (try first | contradiction | (exfalso; omega))))
    all_goals try (exfalso; first | omega | contradiction)
    · rw [hfl] at heq
      have hd : sc.getD i ⟨[], 0⟩ = p := by rw [List.getD_eq_getElem?_getD, hgi]; rfl
      dsimp only at heq
      rw [hd] at heq
      subst heq
      exact ⟨I3, _, ⟨rfl, va, vp, rfl⟩, hm⟩
    · rw [hfl] at heq
      subst heq
      exact ⟨I3, _, ⟨rfl, va, vp, rfl⟩, hm.tl⟩
  rw [if_neg k2] at heq
  by_cases k3 : e.kind = 3
  · rw [if_pos k3] at heq
    have h2 : e.args.length = 2 := by
      rcases hnode with h | h | h | h
      · exact absurd h k1
      · exact absurd h k2
      · exact h.2
      · omega
    have g0 : e.args[0]? = some e.args[0] := List.getElem?_eq_getElem (by omega)
    have g1 : e.args[1]? = some e.args[1] := List.getElem?_eq_getElem (by omega)
    have z0 := Sp.size_args (List.getElem_mem (l := e.args) (n := 0) (by omega))
    have z1 := Sp.size_args (List.getElem_mem (l := e.args) (n := 1) (by omega))
    have w0 := Sp.exsSmall_get hasm g0
    have w1 := Sp.exsSmall_get hasm g1
    have a0 := Sp.exsAll_get hargs g0
    have a1 := Sp.exsAll_get hargs g1
    obtain ⟨ea0, ec0, ys0, hc0, hr0, hx0⟩ := (hx.get g0).out
    obtain ⟨ea1, ec1, ys1, hc1, hr1, hx1⟩ := (hx.get g1).out
    have hexs2 := Sp.exsR_two (C := C) (sc := sc) h2 g0 g1 m1
    rw [hexs2] at heq
    generalize e.args[0] = e0 at g0 z0 w0 a0 hc0 hr0 hx0 heq hexs2
    generalize e.args[1] = e1 at g1 z1 w1 a1 hc1 hr1 hx1 heq hexs2
    have hE0 := fun (J : Imm) (mm : Le I J) (b o tc : Nat) (hpt : PtrI J b o tc (exCells e0 ea0 ec0)) => ih e0 (by omega) w0 a0 J b o tc ea0 ec0 ys0 sc back m1 sa sp va vp (hle0.trans mm) hto.top hev1 hsc hpt (hr0.le mm) (ExsAt.le mm _ _ hx0)
    have t0 := Sp.exR_to hC sc e0 m1 hto.top
    generalize Sp.exR C sc e0 m1 = r0 at hE0 t0 heq
    have hE1 := fun (J : Imm) (mm : Le I J) (va : Option Addr) (vp b o tc : Nat) (hpt : PtrI J b o tc (exCells e1 ea1 ec1)) => ih e1 (by omega) w1 a1 J b o tc ea1 ec1 ys1 sc back r0.2 sa sp va vp (hle0.trans mm) t0.top (by have := t0.ev; omega) hsc hpt (hr1.le mm) (ExsAt.le mm _ _ hx1)
    generalize Sp.exR C sc e1 r0.2 = r1 at hE1 heq
    have hop := fun (J : Imm) => r_op e.name r0.1 r1.1 J
    have hrl : ∀ J, Le I J → RowI J 102 6 (.slice ea e.args.length ec) e.args.length ys := fun J mm => hr.le mm
    rw [h2] at hrl
    have hp' : PtrI I b o tc [nt e.kind, str e.name, nt e.n, .slice ea 2 ec, nt e.fr, nt e.to] := by rw [← h2]; exact hp
    replace heq : r = (Sp.opR e.name r0.1 r1.1, r1.2) := heq
    subst heq
    repeat' (first|(refine m_call (d:=13) hm (hp:=pm1_2) (hc:=hS _) (k:=?_); clear hm; rintro _ I2 _ _ ⟨rfl, rfl⟩ hleI2 hm; try simp only [setn] at hm; rw [← hevr] at hm; replace hm := hm.perm pm2_1; have hp2 := hp'.le hleI2)|(refine wc_semi_memL (id:=9) (hm.perm pmR4) [0,1,2,3,4,5,7,8,9,10,11,12] [6,13] 14 (h:=?_); clear hm; intro wd hR hm)|(refine iw_indexAddr (d:=43) (hr:=hrl _ hleI2) (k:=?_); intro b0 o0 hp0; rw [show ((0 : Int).toNat * 6) = 0 * 6 from rfl, hc0] at hp0)|(refine iw_indexAddr (d:=50) (hr:=hrl _ hleI2) (k:=?_); intro b1 o1 hp1; rw [show ((1 : Int).toNat * 6) = 1 * 6 from rfl, hc1] at hp1)|(refine mt_call (d:=44) hm (hp:=pmR4) (hc:=hE0 I2 hleI2 _ _ _ hp0) (k:=?_); clear hm; rintro _ I3 _ _ ⟨rfl, va3, vp3, rfl⟩ hleI3 hm; try simp only [setn] at hm)|(refine mt_call (d:=51) hm (hp:=pmR4) (hc:=hE1 I3 (hleI2.trans hleI3) va3 vp3 _ _ _ (hp1.le hleI3)) (k:=?_); clear hm; rintro _ I4 _ _ ⟨rfl, va4, vp4, rfl⟩ hleI4 hm; try simp only [setn] at hm; have hp4 := (hp2.le hleI3).le hleI4)|(refine m_call (d:=58) hm (hp:=pm0) (hc:=hop _) (k:=?_); clear hm; rintro _ I5 _ _ ⟨rfl, rfl⟩ hleI5 hm; try simp only [setn] at hm)|refine iw_load1 hR (k:=?_)|(refine ws_nil ?_; replace hm := hR.back hm; clear hR; try simp only [setn] at hm)|refine m_load1 hm (k:=?_)|refine i_load1 hm (k:=?_)|refine op_move (k:=?_)|refine op_assign (k:=?_)|refine op_eql (k:=?_)|refine op_not (k:=?_)|refine op_nilCheck (k:=?_)|refine op_fieldAddr (k:=?_)|refine wl_nil ?_|refine at_then_normal ?_|refine at_then_ret ?_|refine at_block_ret ?_|refine wc_seq ?_|refine wc_region ?_|refine wc_block ?_|refine wc_skip ?_|refine wc_ret ?_|refine at_ret1 (h:=?_)|refine wc_cond_false (hf:=?_)|(refine wc_cond_dec (ht:=fun _ => ?_) (hf:=fun _ => ?_)<;> (try first | contradiction | (exfalso; omega)))|refine v_move (k:=?_)|refine v_nilCheck (k:=?_)|refine v_fieldAddr (k:=?_)|refine wv_nil ?_)
    all_goals try (exfalso; first | omega | contradiction)
    exact ⟨I5, _, ⟨rfl, va4, vp4, rfl⟩, hm⟩
  rw [if_neg k3] at heq
  have h4 : e.kind = 4 ∧ ∃ j, Sp.findIt its 2 e.name = some j ∧ (Sp.itNo its j).params.length = e.args.length := by
    rcases hnode with h | h | h | h
    · exact absurd h k1
    · exact absurd h k2
    · exact absurd h.1 k3
    · exact h
  obtain ⟨k4, hfound⟩ := h4
  have hal2 : e.args.length ≤ 64 := hal
  repeat' (first|(refine m_call (d:=13) hm (hp:=pm1_2) (hc:=hS _) (k:=?_); clear hm; rintro _ I2 _ _ ⟨rfl, rfl⟩ hleI2 hm; try simp only [setn] at hm; rw [← hevr] at hm; replace hm := hm.perm pm2_1; have hp2 := hp.le hleI2)|refine wc_hold 11 ?_|refine m_load1 hm (k:=?_)|refine i_load1 hm (k:=?_)|refine op_move (k:=?_)|refine op_assign (k:=?_)|refine op_eql (k:=?_)|refine op_not (k:=?_)|refine op_nilCheck (k:=?_)|refine op_fieldAddr (k:=?_)|refine wl_nil ?_|refine at_then_normal ?_|refine at_block_normal ?_|refine wc_seq ?_|refine wc_region ?_|refine wc_block ?_|refine wc_skip ?_|refine wc_cond_false (hf:=?_)|(refine wc_cond_dec (ht:=fun _ => ?_) (hf:=fun _ => ?_)<;> (try first | contradiction | (exfalso; omega))))
  all_goals try (exfalso; first | omega | contradiction)
  refine ⟨?_⟩
  repeat' (first|refine i_load1 hm (k:=?_)|refine op_move (k:=?_)|refine op_assign (k:=?_)|refine op_len_slice (k:=?_)|refine op_nilCheck (k:=?_)|refine op_fieldAddr (k:=?_)|refine wl_nil ?_|refine at_then_normal ?_|refine wc_seq ?_|refine wc_region ?_|refine wc_block ?_)
  all_goals try (exfalso; first | omega | contradiction)
  have hm := hm.nil 3 1
  refine wc_loop (fun x : RunX => [(0, ptr br), (1, .pointer (some ⟨b, o, none⟩)), (7, .slice x.aa x.k x.ac), (63, nt e.args.length), (64, nt x.k)])
    (fun x w' => Mem E x.I (.row (.slice x.aa x.k x.ac) 3 1 x.k (intV (Sp.exsR C sc (e.args.take x.k) m1).1) :: RSt br bm bf sc back (Sp.exsR C sc (e.args.take x.k) m1).2 sa sp x.va x.vp deep) w' ∧ Le I2 x.I ∧ x.k ≤ e.args.length) (fun x => e.args.length - x.k) ⟨0, I2, va, vp, none, 0⟩
    (by exact ⟨rfl, rfl, rfl, rfl, rfl, trivial⟩) ⟨by dsimp only; rw [List.take_zero, Sp.exsR]; exact hm, Le.refl _, Nat.zero_le _⟩ ?_
  clear hm
  rintro ⟨k, I3, va3, vp3, aa3, ac3⟩ w3 ⟨hm, hle3, hk⟩
  dsimp only at hm hle3 hk ⊢
  have hp3 := hp2.le hle3
  have hle13 := hleI2.trans hle3
  have hrow := hr.le hle13
  by_cases hlt : k < e.args.length
  · have hg : e.args[k]? = some e.args[k] := List.getElem?_eq_getElem hlt
    have hsz2 := Sp.size_args (List.getElem_mem hlt)
    have hsm2 := Sp.exsSmall_get hasm hg
    have hok2 := Sp.exsAll_get hargs hg
    obtain ⟨ea2, ec2, ys2, hc2, hr2, hx2⟩ := (hx.get hg).out
    generalize e.args[k] = y at hg hsz2 hsm2 hok2 hc2 hr2 hx2
    have hstp := Sp.exsR_step (C := C) sc hg m1
    have htk := Sp.exsR_to hC sc (e.args.take k) m1 hto.top
    have hln := Sp.exsR_len (C := C) sc (e.args.take k) m1
    rw [List.length_take, Nat.min_eq_left hk] at hln
    generalize Sp.exsR C sc (e.args.take k) m1 = q at hm hstp htk hln
    have hE := fun (b o tc : Nat) (hpt : PtrI I3 b o tc (exCells y ea2 ec2)) => ih y (by omega) hsm2 hok2 I3 b o tc ea2 ec2 ys2 sc back q.2 sa sp va3 vp3 (hle0.trans hle13) htk.top (by have := htk.ev; omega) hsc hpt (hr2.le hle13) (ExsAt.le hle13 _ _ hx2)
    generalize Sp.exR C sc y q.2 = r2 at hE hstp
    repeat' (first|(refine i_indexAddr (d:=74) (hr:=hrow) (k:=?_); intro bt ot hpt; rw [show ((k : Int).toNat * 6) = k * 6 from rfl, hc2] at hpt)|(refine m_call (d:=75) hm (hp:=pmR41) (hc:=hE _ _ _ hpt) (k:=?_); clear hm; rintro _ I4 _ _ ⟨rfl, va4, vp4, rfl⟩ hleI4 hm; try simp only [setn] at hm)|(refine m_push (d:=77) hm (k:=?_); clear hm; intro a77 cp77 _ _ hm; try simp only [setn] at hm)|refine i_load1 hm (k:=?_)|refine op_move (k:=?_)|refine op_assign (k:=?_)|refine op_lss (k:=?_)|refine op_nilCheck (k:=?_)|refine op_add (k:=?_)|refine op_fieldAddr (k:=?_)|refine wl_nil ?_|refine at_then_normal ?_|refine at_block_normal ?_|refine wc_seq ?_|refine wc_region ?_|refine wc_block ?_|refine wc_skip ?_|(refine wc_cond_dec (ht:=fun _ => ?_) (hf:=fun _ => ?_)<;> (try first | contradiction | (exfalso; omega))))
    all_goals try (exfalso; first | omega | contradiction)
    refine at_round (⟨k + 1, I4, va4, vp4, a77, cp77⟩ : RunX) (by exact ⟨rfl, rfl, rfl, rfl, rfl, trivial⟩) ⟨?_, hle3.trans hleI4, by dsimp only; omega⟩ (by dsimp only; omega)
    dsimp only
    rw [hstp, intV, List.map_append]
    exact hm.perm (pmRL (A := [_, _, _, _]))
  · obtain rfl : k = e.args.length := by omega
    rw [List.take_length] at hm
    have hln := Sp.exsR_len (C := C) sc e.args m1
    generalize Sp.exsR C sc e.args m1 = q at hm hexs heq hln
    subst heq
    repeat' (first|refine wc_hold 17 ?_|refine op_lss (k:=?_)|refine wl_nil ?_|refine at_then_normal ?_|refine at_then_exit ?_|refine at_block_exit ?_|refine wc_seq ?_|refine wc_region ?_|refine wc_exit ?_|(refine wc_cond_dec (ht:=fun _ => ?_) (hf:=fun _ => ?_)<;> (try first | contradiction | (exfalso; omega))))
    all_goals try (exfalso; first | omega | contradiction)
    obtain ⟨I4, hle4, hm4, hra⟩ := hm.freeze
    clear hm
    have hm := hm4
    clear hm4
    have hp4 := hp3.le hle4
    rw [← hln] at hra
    rw [← hln] at hfound
    have hCall := hW I4 e.name q.1 q.2 va3 vp3 aa3 ac3 ((hle0.trans hle13).trans hle4) hfound hra hexs.top (by have := hexs.ev; omega)
    rw [hln] at hCall
    refine ⟨?_⟩
    repeat' (first|(refine wc_semi_memL (id:=17) (hm.perm pm2_2) [0,1,2,3,4,5,6,7,8] [9] 10 (h:=?_); clear hm; intro wd hR hm)|(refine mt_call (d:=88) hm (hp:=pm2_0) (hc:=hCall) (k:=?_); clear hm; rintro _ I5 _ _ ⟨rfl, va5, vp5, rfl⟩ hleI5 hm; try simp only [setn] at hm)|refine mw_load1 hR (k:=?_)|refine iw_load1 hR (k:=?_)|(refine ws_nil ?_; replace hm := hR.back hm; clear hR; try simp only [setn] at hm)|refine op_assign (k:=?_)|refine wl_nil ?_|refine at_then_normal ?_|refine wc_ret ?_|refine at_ret1 (h:=?_)|refine v_move (k:=?_)|refine v_nilCheck (k:=?_)|refine v_fieldAddr (k:=?_)|refine wv_nil ?_)
    all_goals try (exfalso; first | omega | contradiction)
    exact ⟨I5, _, ⟨rfl, va5, vp5, rfl⟩, hm.perm pm2_2.symm⟩
end
end Go.Proofs.YthmdffgiockcbaaGreatDoor
end
section
namespace Go.Sp
abbrev Nm := List UInt8
theorem nlt_irrefl (a : Nm) : ¬ a < a := List.lt_irrefl a
theorem nlt_trans {a b c : Nm} (h : a < b) (k : b < c) : a < c := List.lt_trans h k
theorem nlt_tri (a b : Nm) : a < b ∨ a = b ∨ b < a := by
  rcases Decidable.em (a < b) with h | h
  · exact .inl h
  · rcases Decidable.em (b < a) with k | k
    · exact .inr (.inr k)
    · exact .inr (.inl (List.le_antisymm (List.not_lt.1 k) (List.not_lt.1 h)))
theorem nlt_asymm {a b : Nm} (h : a < b) : ¬ b < a := fun k => nlt_irrefl a (nlt_trans h k)
def Srt (l : List Nm) : Prop := l.Pairwise (· < ·)
theorem Srt.nil : Srt [] := List.Pairwise.nil
theorem srt_ext : ∀ {a b : List Nm}, Srt a → Srt b → (∀ x, x ∈ a ↔ x ∈ b) → a = b
  | [], [], _, _, _ => rfl
  | [], y :: b, _, _, h => absurd ((h y).2 List.mem_cons_self) (by simp)
  | x :: a, [], _, _, h => absurd ((h x).1 List.mem_cons_self) (by simp)
  | x :: a, y :: b, ha, hb, h => by
    obtain ⟨ha1, ha2⟩ := List.pairwise_cons.1 ha
    obtain ⟨hb1, hb2⟩ := List.pairwise_cons.1 hb
    have hx := (h x).1 List.mem_cons_self
    have hy := (h y).2 List.mem_cons_self
    have e : x = y := by
      rcases List.mem_cons.1 hx with e | hx
      · exact e
      · rcases List.mem_cons.1 hy with e | hy
        · exact e.symm
        · exact absurd (ha1 y hy) (nlt_asymm (hb1 x hx))
    subst e
    congr 1
    refine srt_ext ha2 hb2 (fun z => ⟨fun hz => ?_, fun hz => ?_⟩)
    · rcases List.mem_cons.1 ((h z).1 (List.mem_cons_of_mem _ hz)) with e | h1
      · subst e; exact absurd (ha1 z hz) (nlt_irrefl z)
      · exact h1
    · rcases List.mem_cons.1 ((h z).2 (List.mem_cons_of_mem _ hz)) with e | h1
      · subst e; exact absurd (hb1 z hz) (nlt_irrefl z)
      · exact h1
def insT (s : Nm) : List Nm → List Nm
  | [] => [s]
  | x :: l => if x < s then x :: insT s l else s :: x :: l
def addE (l : List Nm) (s : Nm) : List Nm := if s = [] ∨ s ∈ l then l else insT s l
theorem insT_mem (s x : Nm) : ∀ (l : List Nm), x ∈ insT s l ↔ x = s ∨ x ∈ l
  | [] => by simp [insT]
  | y :: l => by
    rw [insT]
    split
    · rw [List.mem_cons, insT_mem s x l, List.mem_cons]
      constructor
      · rintro (h | h | h)
        · exact .inr (.inl h)
        · exact .inl h
        · exact .inr (.inr h)
      · rintro (h | h | h)
        · exact .inr (.inl h)
        · exact .inl h
        · exact .inr (.inr h)
    · simp
theorem insT_srt {s : Nm} : ∀ {l : List Nm}, Srt l → s ∉ l → Srt (insT s l)
  | [], _, _ => by rw [insT]; exact List.pairwise_singleton _ _
  | y :: l, h, hs => by
    obtain ⟨h1, h2⟩ := List.pairwise_cons.1 h
    rw [insT]
    split
    · rename_i hy
      refine List.pairwise_cons.2 ⟨fun z hz => ?_, insT_srt h2 (fun hm => hs (List.mem_cons_of_mem _ hm))⟩
      rcases (insT_mem s z l).1 hz with rfl | hz
      · exact hy
      · exact h1 z hz
    · rename_i hy
      have hsy : s < y := by
        rcases nlt_tri s y with h | h | h
        · exact h
        · subst h; exact absurd List.mem_cons_self hs
        · exact absurd h hy
      refine List.pairwise_cons.2 ⟨fun z hz => ?_, h⟩
      rcases List.mem_cons.1 hz with rfl | hz
      · exact hsy
      · exact nlt_trans hsy (h1 z hz)
theorem insT_len (s : Nm) : ∀ (l : List Nm), (insT s l).length = l.length + 1
  | [] => rfl
  | y :: l => by
    rw [insT]
    split
    · rw [List.length_cons, insT_len s l, List.length_cons]
    · rfl
theorem insT_at {s : Nm} : ∀ {l : List Nm} {k : Nat}, k ≤ l.length → (∀ j x, j < k → l[j]? = some x → x < s) → (∀ x, l[k]? = some x → ¬ x < s) → insT s l = l.take k ++ s :: l.drop k
  | [], k, hk, _, _ => by
    obtain rfl : k = 0 := by simpa using hk
    rfl
  | y :: l, 0, _, _, h2 => by
    rw [insT, if_neg (h2 y rfl)]; rfl
  | y :: l, k + 1, hk, h1, h2 => by
    rw [insT, if_pos (h1 0 y (by omega) rfl), List.take_succ_cons, List.drop_succ_cons, List.cons_append]
    congr 1
    refine insT_at (by simpa using hk) (fun j x hj hx => h1 (j + 1) x (by omega) (by simpa using hx)) (fun x hx => h2 x (by simpa using hx))
theorem addE_mem (l : List Nm) (s x : Nm) : x ∈ addE l s ↔ x ∈ l ∨ (x = s ∧ s ≠ []) := by
  rw [addE]
  split
  · rename_i h
    constructor
    · exact .inl
    · rintro (h1 | ⟨rfl, h1⟩)
      · exact h1
      · rcases h with h | h
        · exact absurd h h1
        · exact h
  · rename_i h
    rw [insT_mem]
    constructor
    · rintro (rfl | h1)
      · exact .inr ⟨rfl, fun e => h (.inl e)⟩
      · exact .inl h1
    · rintro (h1 | ⟨rfl, _⟩)
      · exact .inr h1
      · exact .inl rfl
theorem addE_srt {l : List Nm} (h : Srt l) (s : Nm) : Srt (addE l s) := by
  rw [addE]
  split
  · exact h
  · rename_i h1
    exact insT_srt h (fun hm => h1 (.inr hm))
theorem addE_len (l : List Nm) (s : Nm) : l.length ≤ (addE l s).length ∧ (addE l s).length ≤ l.length + 1 := by
  rw [addE]
  split
  · omega
  · rw [insT_len]; omega
theorem addE_same {l : List Nm} {s : Nm} (h : s = [] ∨ s ∈ l) : addE l s = l := by rw [addE, if_pos h]
theorem addE_new {l : List Nm} {s : Nm} (h : ¬ (s = [] ∨ s ∈ l)) : addE l s = insT s l := by rw [addE, if_neg h]
def joinE (a b : List Nm) : List Nm := b.foldl addE a
theorem joinE_mem : ∀ (b a : List Nm) (x : Nm), x ∈ joinE a b ↔ x ∈ a ∨ (x ∈ b ∧ x ≠ [])
  | [], a, x => by simp [joinE]
  | y :: b, a, x => by
    show x ∈ joinE (addE a y) b ↔ _
    rw [joinE_mem b, addE_mem, List.mem_cons]
    constructor
    · rintro ((h | ⟨rfl, h⟩) | ⟨h, k⟩)
      · exact .inl h
      · exact .inr ⟨.inl rfl, h⟩
      · exact .inr ⟨.inr h, k⟩
    · rintro (h | ⟨rfl | h, k⟩)
      · exact .inl (.inl h)
      · exact .inl (.inr ⟨rfl, k⟩)
      · exact .inr ⟨h, k⟩
theorem joinE_srt : ∀ (b : List Nm) {a : List Nm}, Srt a → Srt (joinE a b)
  | [], _, h => h
  | y :: b, a, h => joinE_srt b (addE_srt h y)
theorem joinE_same : ∀ (b : List Nm) {a : List Nm}, (∀ x ∈ b, x ∈ a) → joinE a b = a
  | [], _, _ => rfl
  | y :: b, a, h => by
    show joinE (addE a y) b = a
    rw [addE_same (.inr (h y List.mem_cons_self))]
    exact joinE_same b (fun x hx => h x (List.mem_cons_of_mem _ hx))
theorem joinE_step {a b : List Nm} {k : Nat} {x : Nm} (h : b[k]? = some x) : joinE a (b.take (k + 1)) = addE (joinE a (b.take k)) x := by
  rw [take_succ_get h, joinE, List.foldl_append]; rfl
theorem srt_len {a u : List Nm} (ha : Srt a) (h : ∀ x ∈ a, x ∈ u) : a.length ≤ u.length := by
  induction a generalizing u with
  | nil => exact Nat.zero_le _
  | cons x a ih =>
    obtain ⟨h1, h2⟩ := List.pairwise_cons.1 ha
    have hx := h x List.mem_cons_self
    have := ih (u := u.erase x) h2 (fun y hy => (List.mem_erase_of_ne (fun e => nlt_irrefl x (by have h2 := h1 y hy; rw [e] at h2; exact h2))).2 (h y (List.mem_cons_of_mem _ hy)))
    rw [List.length_erase_of_mem hx] at this
    have := List.length_pos_of_mem hx
    rw [List.length_cons]; omega
theorem srt_same {a b : List Nm} (ha : Srt a) (hb : Srt b) (h : ∀ x ∈ a, x ∈ b) (hl : b.length ≤ a.length) : a = b := by
  refine srt_ext ha hb (fun x => ⟨h x, fun hx => ?_⟩)
  refine Decidable.byContradiction (fun hn => ?_)
  have h1 := srt_len (a := insT x a) (u := b) (insT_srt ha hn) (fun y hy => by
    rcases (insT_mem x y a).1 hy with rfl | hy
    · exact hx
    · exact h y hy)
  rw [insT_len] at h1
  omega
end Go.Sp
end
section
namespace Go.Sp
mutual
def exE : Ex → List Nm → List Nm
  | .mk k nm _ args _ _, c => exsE args (if k = 4 then addE c nm else c)
def exsE : List Ex → List Nm → List Nm
  | [], c => c
  | e :: es, c => exsE es (exE e c)
 end
mutual
def stmE : Stm → List Nm × List Nm → List Nm × List Nm
  | .mk k nm _ _ _ e thn els _ _, q => stmsE els (stmsE thn (if k = 5 then addE q.1 nm else q.1, exE e q.2))
def stmsE : List Stm → List Nm × List Nm → List Nm × List Nm
  | [], q => q
  | x :: xs, q => stmsE xs (stmE x q)
 end
def ownE (it : Itm) : List Nm × List Nm := stmsE it.body ([], [])
theorem exE_eq (e : Ex) (c : List Nm) : exE e c = exsE e.args (if e.kind = 4 then addE c e.name else c) := by cases e; rw [exE]; rfl
theorem stmE_eq (x : Stm) (q : List Nm × List Nm) : stmE x q = stmsE x.els (stmsE x.thn (if x.kind = 5 then addE q.1 x.name else q.1, exE x.e q.2)) := by cases x; rw [stmE]; rfl
theorem exsE_app : ∀ (l r : List Ex) (c : List Nm), exsE (l ++ r) c = exsE r (exsE l c)
  | [], r, c => by rw [List.nil_append, exsE]
  | e :: l, r, c => by rw [List.cons_append, exsE, exsE, exsE_app l r]
theorem stmsE_app : ∀ (l r : List Stm) (q : List Nm × List Nm), stmsE (l ++ r) q = stmsE r (stmsE l q)
  | [], r, q => by rw [List.nil_append, stmsE]
  | e :: l, r, q => by rw [List.cons_append, stmsE, stmsE, stmsE_app l r]
theorem exsE_step {l : List Ex} {k : Nat} {e : Ex} (h : l[k]? = some e) (c : List Nm) : exsE (l.take (k + 1)) c = exE e (exsE (l.take k) c) := by
  rw [take_succ_get h, exsE_app, exsE, exsE]
theorem stmsE_step {l : List Stm} {k : Nat} {x : Stm} (h : l[k]? = some x) (q : List Nm × List Nm) : stmsE (l.take (k + 1)) q = stmE x (stmsE (l.take k) q) := by
  rw [take_succ_get h, stmsE_app, stmsE, stmsE]
mutual
theorem exE_srt : ∀ (e : Ex) {c : List Nm}, Srt c → Srt (exE e c)
  | .mk k nm n args f t, c, h => by
    rw [exE]
    refine exsE_srt args ?_
    split
    · exact addE_srt h nm
    · exact h
theorem exsE_srt : ∀ (l : List Ex) {c : List Nm}, Srt c → Srt (exsE l c)
  | [], c, h => by rw [exsE]; exact h
  | e :: l, c, h => by rw [exsE]; exact exsE_srt l (exE_srt e h)
 end
mutual
theorem stmE_srt : ∀ (x : Stm) {q : List Nm × List Nm}, Srt q.1 ∧ Srt q.2 → Srt (stmE x q).1 ∧ Srt (stmE x q).2
  | .mk k nm a lb o e thn els f t, q, h => by
    rw [stmE]
    refine stmsE_srt els (stmsE_srt thn ⟨?_, exE_srt e h.2⟩)
    dsimp only
    split
    · exact addE_srt h.1 nm
    · exact h.1
theorem stmsE_srt : ∀ (l : List Stm) {q : List Nm × List Nm}, Srt q.1 ∧ Srt q.2 → Srt (stmsE l q).1 ∧ Srt (stmsE l q).2
  | [], q, h => by rw [stmsE]; exact h
  | x :: l, q, h => by rw [stmsE]; exact stmsE_srt l (stmE_srt x h)
 end
mutual
theorem exE_n : ∀ (e : Ex) (c : List Nm), c.length ≤ (exE e c).length ∧ (exE e c).length ≤ c.length + e.cnt
  | .mk k nm n args f t, c => by
    rw [exE, Ex.cnt]
    have h1 := addE_len c nm
    have h2 := exsE_n args (if k = 4 then addE c nm else c)
    split at h2 <;> rename_i hk
    · rw [if_pos hk]; omega
    · rw [if_neg hk]; omega
theorem exsE_n : ∀ (l : List Ex) (c : List Nm), c.length ≤ (exsE l c).length ∧ (exsE l c).length ≤ c.length + exsCnt l
  | [], c => by rw [exsE, exsCnt]; omega
  | e :: l, c => by
    rw [exsE, exsCnt]
    have h1 := exE_n e c
    have h2 := exsE_n l (exE e c)
    omega
 end
mutual
theorem stmE_n : ∀ (x : Stm) (q : List Nm × List Nm), q.1.length + q.2.length ≤ (stmE x q).1.length + (stmE x q).2.length ∧ (stmE x q).1.length + (stmE x q).2.length ≤ q.1.length + q.2.length + x.cnt
  | .mk k nm a lb o e thn els f t, q => by
    rw [stmE, Stm.cnt]
    have h1 := addE_len q.1 nm
    have h2 := exE_n e q.2
    have h3 := stmsE_n thn (if k = 5 then addE q.1 nm else q.1, exE e q.2)
    have h4 := stmsE_n els (stmsE thn (if k = 5 then addE q.1 nm else q.1, exE e q.2))
    generalize stmsE els (stmsE thn (if k = 5 then addE q.1 nm else q.1, exE e q.2)) = r4 at h4 ⊢
    generalize stmsE thn (if k = 5 then addE q.1 nm else q.1, exE e q.2) = r3 at h3 h4
    split at h3
    · dsimp only at h3; omega
    · dsimp only at h3; omega
theorem stmsE_n : ∀ (l : List Stm) (q : List Nm × List Nm), q.1.length + q.2.length ≤ (stmsE l q).1.length + (stmsE l q).2.length ∧ (stmsE l q).1.length + (stmsE l q).2.length ≤ q.1.length + q.2.length + stmsCnt l
  | [], q => by rw [stmsE, stmsCnt]; omega
  | x :: l, q => by
    rw [stmsE, stmsCnt]
    have h1 := stmE_n x q
    have h2 := stmsE_n l (stmE x q)
    omega
 end
def initE (its : List Itm) (i : Nat) : List Nm := if (itNo its i).kind = 2 then (ownE (itNo its i)).1 else []
def findsE (its : List Itm) (l : List Nm) : List Nat := l.filterMap (findIt its 2)
def callsE (its : List Itm) (i : Nat) : List Nat := if (itNo its i).kind = 2 then findsE its (ownE (itNo its i)).2 else []
def initsE (its : List Itm) : List (List Nm) := (List.range its.length).map (initE its)
def rowE (its : List Itm) (rows : List (List Nm)) (i : Nat) : List Nm := (callsE its i).foldl (fun a k => joinE a (rows.getD k [])) (rows.getD i [])
def stepE (its : List Itm) (rows : List (List Nm)) (i : Nat) : List (List Nm) := rows.set i (rowE its rows i)
def roundE (its : List Itm) (rows : List (List Nm)) : List (List Nm) := (List.range its.length).foldl (stepE its) rows
def iterE (its : List Itm) : Nat → List (List Nm) → List (List Nm)
  | 0, r => r
  | n + 1, r => if roundE its r = r then r else iterE its n (roundE its r)
def sumE (r : List (List Nm)) : Nat := (r.map List.length).sum
def namesE (its : List Itm) : List Nm := (initsE its).flatten
def allsE (its : List Itm) : List (List Nm) := iterE its (its.length * (namesE its).length + 1) (initsE its)
def allE (its : List Itm) (i : Nat) : List Nm := (allsE its).getD i []
structure RowsE (its : List Itm) (r : List (List Nm)) : Prop where
  len : r.length = its.length
  srt : ∀ a ∈ r, Srt a
  of : ∀ a ∈ r, ∀ x ∈ a, x ∈ namesE its
  ne : ∀ a ∈ r, [] ∉ a
def LeE (r s : List (List Nm)) : Prop := r.length = s.length ∧ ∀ i x, x ∈ r.getD i [] → x ∈ s.getD i []
theorem LeE.refl (r : List (List Nm)) : LeE r r := ⟨rfl, fun _ _ h => h⟩
theorem LeE.trans {r s t : List (List Nm)} (h : LeE r s) (k : LeE s t) : LeE r t := ⟨h.1.trans k.1, fun i x hx => k.2 i x (h.2 i x hx)⟩
theorem getD_mem {α : Type} {l : List α} {i : Nat} {d : α} (h : i < l.length) : l.getD i d ∈ l := by
  rw [List.getD_eq_getElem?_getD, List.getElem?_eq_getElem h]; exact List.getElem_mem h
theorem getD_out {α : Type} {l : List α} {i : Nat} {d : α} (h : l.length ≤ i) : l.getD i d = d := by
  rw [List.getD_eq_getElem?_getD, List.getElem?_eq_none h]; rfl
theorem getD_set_self {α : Type} {l : List α} {i : Nat} {d a : α} (h : i < l.length) : (l.set i a).getD i d = a := by
  rw [List.getD_eq_getElem?_getD, List.getElem?_set_self h]; rfl
theorem getD_set_ne {α : Type} {l : List α} {i j : Nat} {d a : α} (h : i ≠ j) : (l.set i a).getD j d = l.getD j d := by
  rw [List.getD_eq_getElem?_getD, List.getElem?_set_ne h, List.getD_eq_getElem?_getD]
mutual
theorem exE_ne : ∀ (e : Ex) {c : List Nm}, [] ∉ c → [] ∉ exE e c
  | .mk k nm n args f t, c, h => by
    rw [exE]
    refine exsE_ne args ?_
    split
    · rw [addE_mem]; rintro (h1 | ⟨h1, h2⟩)
      · exact h h1
      · exact h2 h1.symm
    · exact h
theorem exsE_ne : ∀ (l : List Ex) {c : List Nm}, [] ∉ c → [] ∉ exsE l c
  | [], c, h => by rw [exsE]; exact h
  | e :: l, c, h => by rw [exsE]; exact exsE_ne l (exE_ne e h)
 end
mutual
theorem stmE_ne : ∀ (x : Stm) {q : List Nm × List Nm}, [] ∉ q.1 ∧ [] ∉ q.2 → [] ∉ (stmE x q).1 ∧ [] ∉ (stmE x q).2
  | .mk k nm a lb o e thn els f t, q, h => by
    rw [stmE]
    refine stmsE_ne els (stmsE_ne thn ⟨?_, exE_ne e h.2⟩)
    dsimp only
    split
    · rw [addE_mem]; rintro (h1 | ⟨h1, h2⟩)
      · exact h.1 h1
      · exact h2 h1.symm
    · exact h.1
theorem stmsE_ne : ∀ (l : List Stm) {q : List Nm × List Nm}, [] ∉ q.1 ∧ [] ∉ q.2 → [] ∉ (stmsE l q).1 ∧ [] ∉ (stmsE l q).2
  | [], q, h => by rw [stmsE]; exact h
  | x :: l, q, h => by rw [stmsE]; exact stmsE_ne l (stmE_ne x h)
 end
theorem ownE_ne (it : Itm) : [] ∉ (ownE it).1 ∧ [] ∉ (ownE it).2 := stmsE_ne _ ⟨by simp, by simp⟩
theorem ownE_srt (it : Itm) : Srt (ownE it).1 ∧ Srt (ownE it).2 := stmsE_srt _ ⟨Srt.nil, Srt.nil⟩
theorem initsE_len (its : List Itm) : (initsE its).length = its.length := by rw [initsE, List.length_map, List.length_range]
theorem initsE_get (its : List Itm) {i : Nat} (h : i < its.length) : (initsE its).getD i [] = initE its i := by
  rw [initsE, List.getD_eq_getElem?_getD, List.getElem?_map, List.getElem?_range h]; rfl
theorem rowsE_init (its : List Itm) : RowsE its (initsE its) := by
  have key : ∀ a ∈ initsE its, ∃ i, a = initE its i := fun a ha => by
    obtain ⟨i, _, rfl⟩ := List.mem_map.1 ha
    exact ⟨i, rfl⟩
  refine ⟨initsE_len its, fun a ha => ?_, fun a ha x hx => List.mem_flatten.2 ⟨a, ha, hx⟩, fun a ha => ?_⟩
  · obtain ⟨i, rfl⟩ := key a ha
    rw [initE]
    split
    · exact (ownE_srt _).1
    · exact Srt.nil
  · obtain ⟨i, rfl⟩ := key a ha
    rw [initE]
    split
    · exact (ownE_ne _).1
    · simp
theorem rowE_fold (rows : List (List Nm)) : ∀ (l : List Nat) (a : List Nm), Srt a → (∀ x, x ∈ l.foldl (fun a k => joinE a (rows.getD k [])) a ↔ x ∈ a ∨ ∃ k ∈ l, x ∈ rows.getD k [] ∧ x ≠ []) ∧ Srt (l.foldl (fun a k => joinE a (rows.getD k [])) a)
  | [], a, h => ⟨fun x => by simp, h⟩
  | k :: l, a, h => by
    rw [List.foldl_cons]
    obtain ⟨h1, h2⟩ := rowE_fold rows l (joinE a (rows.getD k [])) (joinE_srt _ h)
    refine ⟨fun x => ?_, h2⟩
    rw [h1, joinE_mem]
    constructor
    · rintro ((h | h) | ⟨j, hj, h⟩)
      · exact .inl h
      · exact .inr ⟨k, List.mem_cons_self, h⟩
      · exact .inr ⟨j, List.mem_cons_of_mem _ hj, h⟩
    · rintro (h | ⟨j, hj, h⟩)
      · exact .inl (.inl h)
      · rcases List.mem_cons.1 hj with rfl | hj
        · exact .inl (.inr h)
        · exact .inr ⟨j, hj, h⟩
theorem RowsE.getD {its : List Itm} {r : List (List Nm)} (h : RowsE its r) (i : Nat) : Srt (r.getD i []) ∧ (∀ x ∈ r.getD i [], x ∈ namesE its) ∧ [] ∉ r.getD i [] := by
  rcases Nat.lt_or_ge i r.length with hi | hi
  · have := getD_mem (d := []) hi
    exact ⟨h.srt _ this, h.of _ this, h.ne _ this⟩
  · rw [getD_out hi]; exact ⟨Srt.nil, by simp, by simp⟩
theorem rowE_mem {its : List Itm} {r : List (List Nm)} (h : RowsE its r) (i : Nat) (x : Nm) : x ∈ rowE its r i ↔ x ∈ r.getD i [] ∨ ∃ k ∈ callsE its i, x ∈ r.getD k [] := by
  rw [rowE, (rowE_fold r (callsE its i) (r.getD i []) (h.getD i).1).1]
  constructor
  · rintro (h1 | ⟨k, hk, h1, _⟩)
    · exact .inl h1
    · exact .inr ⟨k, hk, h1⟩
  · rintro (h1 | ⟨k, hk, h1⟩)
    · exact .inl h1
    · exact .inr ⟨k, hk, h1, fun e => (h.getD k).2.2 (by rw [← e]; exact h1)⟩
theorem RowsE.step {its : List Itm} {r : List (List Nm)} (h : RowsE its r) (i : Nat) : RowsE its (stepE its r i) ∧ LeE r (stepE its r i) := by
  have hs : Srt (rowE its r i) := (rowE_fold r (callsE its i) (r.getD i []) (h.getD i).1).2
  have hm : ∀ a ∈ stepE its r i, a ∈ r ∨ a = rowE its r i := fun a ha => List.mem_or_eq_of_mem_set ha
  refine ⟨⟨by rw [stepE, List.length_set, h.len], fun a ha => ?_, fun a ha x hx => ?_, fun a ha hx => ?_⟩, ⟨by rw [stepE, List.length_set], fun j x hx => ?_⟩⟩
  · rcases hm a ha with h1 | rfl
    · exact h.srt a h1
    · exact hs
  · rcases hm a ha with h1 | rfl
    · exact h.of a h1 x hx
    · rcases (rowE_mem h i x).1 hx with h1 | ⟨k, _, h1⟩
      · exact (h.getD i).2.1 x h1
      · exact (h.getD k).2.1 x h1
  · rcases hm a ha with h1 | rfl
    · exact h.ne a h1 hx
    · rcases (rowE_mem h i []).1 hx with h1 | ⟨k, _, h1⟩
      · exact (h.getD i).2.2 h1
      · exact (h.getD k).2.2 h1
  · by_cases e : i = j
    · subst e
      rcases Nat.lt_or_ge i r.length with hi | hi
      · rw [stepE, getD_set_self hi]; exact (rowE_mem h i x).2 (.inl hx)
      · rw [getD_out hi] at hx; cases hx
    · rw [stepE, getD_set_ne e]; exact hx
theorem RowsE.folds {its : List Itm} : ∀ (l : List Nat) {r : List (List Nm)}, RowsE its r → RowsE its (l.foldl (stepE its) r) ∧ LeE r (l.foldl (stepE its) r)
  | [], r, h => ⟨h, LeE.refl r⟩
  | i :: l, r, h => by
    obtain ⟨h1, h2⟩ := h.step i
    obtain ⟨h3, h4⟩ := RowsE.folds l h1
    exact ⟨h3, h2.trans h4⟩
theorem RowsE.round {its : List Itm} {r : List (List Nm)} (h : RowsE its r) : RowsE its (roundE its r) ∧ LeE r (roundE its r) := h.folds _
theorem leE_same {its : List Itm} {r s : List (List Nm)} (hr : RowsE its r) (hs : RowsE its s) (h : LeE r s) (k : LeE s r) : r = s := by
  refine List.ext_getElem? (fun i => ?_)
  rcases Nat.lt_or_ge i r.length with hi | hi
  · have h1 := srt_ext (hr.getD i).1 (hs.getD i).1 (fun x => ⟨h.2 i x, k.2 i x⟩)
    rw [List.getElem?_eq_getElem hi, List.getElem?_eq_getElem (by rw [← h.1]; exact hi)]
    rw [List.getD_eq_getElem?_getD, List.getElem?_eq_getElem hi, List.getD_eq_getElem?_getD, List.getElem?_eq_getElem (by rw [← h.1]; exact hi)] at h1
    exact congrArg some h1
  · rw [List.getElem?_eq_none hi, List.getElem?_eq_none (by rw [← h.1]; exact hi)]
theorem folds_fix {its : List Itm} : ∀ (l : List Nat) {r : List (List Nm)}, RowsE its r → l.foldl (stepE its) r = r → ∀ i ∈ l, stepE its r i = r
  | [], _, _, _, i, hi => by cases hi
  | j :: l, r, h, e, i, hi => by
    rw [List.foldl_cons] at e
    obtain ⟨h1, h2⟩ := h.step j
    obtain ⟨h3, h4⟩ := RowsE.folds l h1
    rw [e] at h4
    have hj : stepE its r j = r := (leE_same h h1 h2 h4).symm
    rcases List.mem_cons.1 hi with rfl | hi
    · exact hj
    · rw [hj] at e; exact folds_fix l h e i hi
end Go.Sp
end
