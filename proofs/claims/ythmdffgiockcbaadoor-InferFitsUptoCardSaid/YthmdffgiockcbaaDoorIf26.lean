/- Own work: texts LawFtA, FwMapY, FwRow2, FwRow3, FwT, one behind the other. -/
import Derived.Test.YthmdffgiockcbaaDoorIf25
import Derived.Laws.OwnMore
section
namespace Go.Sp
mutual
def Stm.letP : Stm → List (Int × Int)
  | .mk k _ _ _ _ _ thn els f t => (if k = 1 then [((f : Int), (t : Int))] else []) ++ (letPs thn ++ letPs els)
def letPs : List Stm → List (Int × Int)
  | [] => []
  | x :: xs => x.letP ++ letPs xs
 end
theorem letP_eq (x : Stm) : x.letP = (if x.kind = 1 then [((x.fr : Int), (x.to : Int))] else []) ++ (letPs x.thn ++ letPs x.els) := by cases x; rw [Stm.letP]; rfl
theorem letPs_app : ∀ (l r : List Stm), letPs (l ++ r) = letPs l ++ letPs r
  | [], r => rfl
  | x :: l, r => by rw [List.cons_append, letPs, letPs, letPs_app l r, List.append_assoc]
theorem letPs_step {l : List Stm} {k : Nat} {x : Stm} (h : l[k]? = some x) : letPs (l.take (k + 1)) = letPs (l.take k) ++ x.letP := by
  rw [take_succ_get h, letPs_app, letPs, letPs, List.append_nil]
mutual
def Stm.shut : Stm → Bool
  | .mk k _ _ _ o _ thn els _ _ => (decide (k = 1) && !o) || (shutL thn || shutL els)
def shutL : List Stm → Bool
  | [] => false
  | x :: xs => x.shut || shutL xs
 end
theorem shut_eq (x : Stm) : x.shut = ((decide (x.kind = 1) && !x.opn) || (shutL x.thn || shutL x.els)) := by cases x; rw [Stm.shut]; rfl
theorem shutL_app : ∀ (l r : List Stm), shutL (l ++ r) = (shutL l || shutL r)
  | [], r => by rw [List.nil_append, shutL, Bool.false_or]
  | x :: l, r => by rw [List.cons_append, shutL, shutL, shutL_app l r, Bool.or_assoc]
theorem shutL_step {l : List Stm} {k : Nat} {x : Stm} (h : l[k]? = some x) : shutL (l.take (k + 1)) = (shutL (l.take k) || x.shut) := by
  rw [take_succ_get h, shutL_app, shutL, shutL, Bool.or_false]
theorem shutL_get : ∀ {l : List Stm} {k : Nat} {x : Stm}, l[k]? = some x → x.shut = true → shutL l = true
  | [], _, _, h, _ => by simp at h
  | a :: l, 0, x, h, hx => by
    simp only [List.getElem?_cons_zero, Option.some.injEq] at h
    subst h
    rw [shutL, hx]; rfl
  | a :: l, k + 1, x, h, hx => by
    rw [List.getElem?_cons_succ] at h
    rw [shutL, shutL_get h hx, Bool.or_true]
mutual
theorem any_ex : ∀ (e : Ex), e.all anyE
  | .mk k nm n args f t => by rw [Ex.all]; exact ⟨trivial, any_exs args⟩
theorem any_exs : ∀ (l : List Ex), exsAll anyE l
  | [] => by rw [exsAll]; trivial
  | e :: l => by rw [exsAll]; exact ⟨any_ex e, any_exs l⟩
 end
mutual
theorem shut_open : ∀ (x : Stm), x.shut = false → x.all anyE openP
  | .mk k nm a lb o e thn els f t, h => by
    rw [Stm.shut] at h
    simp only [Bool.or_eq_false_iff] at h
    rw [Stm.all]
    refine ⟨fun hk => ?_, any_ex e, shutL_open thn h.2.1, shutL_open els h.2.2⟩
    have := h.1
    rw [decide_eq_true hk] at this
    simpa using this
theorem shutL_open : ∀ (l : List Stm), shutL l = false → stmsAll anyE openP l
  | [], _ => by rw [stmsAll]; trivial
  | x :: l, h => by
    rw [shutL, Bool.or_eq_false_iff] at h
    rw [stmsAll]
    exact ⟨shut_open x h.1, shutL_open l h.2⟩
 end
end Go.Sp
namespace Go.Proofs.YthmdffgiockcbaaDoor
open Go.Fw
instance : KeyP Tryd.prog 66 := ⟨⟨3, by kernel_rfl, by kernel_rfl, let ⟨i, _, h1, _, h3, _⟩ := Elem.out (P := Tryd.prog) (e := 3); ⟨i, h1, h3⟩⟩⟩
theorem zero_bool (w : World) : (zeroValue 4).run Tryd.prog w = .ok (.bool false) w := by kernel_rfl
theorem build_pair (a b : Int) (w : World) : (Instr.build 66 #[(0, .int .i64 a), (1, .int .i64 b)]).run Tryd.prog w = .ok (numP (a, b)) w := by kernel_rfl
/-- a set of pairs: of these. -/
structure PairS (es : EntsP) (L : List PK) : Prop where
  nodup : (es.map (·.1)).Nodup
  sub : ∀ p ∈ es, p.2 = .bool true ∧ p.1 ∈ L
theorem PairS.nil : PairS [] [] := ⟨List.nodup_nil, fun _ h => (by cases h)⟩
theorem PairS.more {es : EntsP} {L R : List PK} (h : PairS es L) (hs : ∀ x ∈ L, x ∈ R) : PairS es R := ⟨h.nodup, fun p hp => ⟨(h.sub p hp).1, hs _ (h.sub p hp).2⟩⟩
theorem PairS.put {es : EntsP} {L : List PK} (h : PairS es L) {s : PK} (hs : s ∈ L) : PairS (mputP es s (.bool true)) L :=
  ⟨mput_nodupP h.nodup, fun p hp => by
    rcases mput_memP hp with hp | rfl
    · exact h.sub p hp
    · exact ⟨rfl, hs⟩⟩
theorem PairS.look {es : EntsP} {L : List PK} (h : PairS es L) (s : PK) : ∃ b, mlookP es s (.bool false) = .bool b ∧ (b = true → s ∈ L) := by
  rw [mlookP]
  cases hf : es.find? (fun p => decide (p.1 = s)) with
  | none => exact ⟨false, rfl, fun h => by cases h⟩
  | some p =>
    have h1 := h.sub p (List.mem_of_find?_eq_some hf)
    have h2 : p.1 = s := by simpa using List.find?_some hf
    exact ⟨true, by show p.2 = _; exact h1.1, fun _ => h2 ▸ h1.2⟩
structure PgX where
  k : Nat
  I : Imm
  es : EntsP
set_option maxHeartbeats 16000000 in
theorem g_gather {b : Nat} : ∀ (n : Nat) (l : List Sp.Stm), SizeOf.sizeOf l ≤ n → l.length ≤ 64 → Sp.stmsSmall l → ∀ (I : Imm) (ab : Option Addr) (cb : Nat) (xb : List Value) (es : EntsP) (L : List PK),
    PairS es L → RowI I 43 15 (.slice ab l.length cb) l.length xb → StsAt I l xb →
    CalM Tryd.prog 14 #[.slice ab l.length cb, .map (some b)] I [.mpp b es] (fun v _ H' => v = .tuple #[] ∧ ∃ es', PairS es' (L ++ Sp.letPs l) ∧ H' = [.mpp b es']) := by
  intro n
  induction n with
  | zero => intro l h; cases l <;> simp at h
  | succ n ih =>
  intro l hsz hll hsm I ab cb xb es L hq hr hx
  refine CalM.of fun w E hm => enter (N := 30) Tryd.func14 rfl [(0, .slice ab l.length cb), (1, .map (some b))] args2 rfl ?_
  repeat' (first
  | refine op_move (k:=?_)
  | refine op_len_slice (k:=?_)
  | refine wl_nil ?_
  | refine at_then_normal ?_
  | refine wc_seq ?_
  | refine wc_region ?_
  | refine wc_block ?_)
  refine wc_loop (fun x : PgX => [(1, .map (some b)), (6, .slice ab l.length cb), (7, nt l.length), (8, nt x.k)])
    (fun x w' => Mem E x.I [.mpp b x.es] w' ∧ Le I x.I ∧ PairS x.es (L ++ Sp.letPs (l.take x.k)) ∧ x.k ≤ l.length) (fun x => l.length - x.k) ⟨0, I, es⟩
    (by exact ⟨rfl, rfl, rfl, rfl, trivial⟩) ⟨hm, Le.refl _, by dsimp only; rw [List.take_zero, Sp.letPs, List.append_nil]; exact hq, Nat.zero_le _⟩ ?_
  clear hm hq
  rintro ⟨k, I1, es1⟩ w1 ⟨hm, hle1, hq, hk⟩
  dsimp only at hm hle1 hq hk ⊢
  have hrow := hr.le hle1
  by_cases hlt : k < l.length
  · have hg : l[k]? = some l[k] := List.getElem?_eq_getElem hlt
    have hme := Sp.sizeL_mem (List.getElem_mem hlt)
    obtain ⟨cs, hcs⟩ : ∃ cs, (xb.drop (k * 15)).take 15 = cs := ⟨_, rfl⟩
    have hat := hx.get hg
    rw [hcs] at hat
    have hsm2 := Sp.stmsSmall_get hsm hg
    generalize l[k] = y at hg hme hat hsm2
    have hst := Sp.letPs_step hg
    rw [Sp.letP_eq] at hst
    obtain ⟨s1, s2, s3, s4, s5⟩ := Sp.small_parts hsm2
    obtain ⟨z1, z2⟩ := Sp.size_thn (s := y)
    obtain ⟨ea, ec, ex, a1', c1, xs1, a2', c2, xs2, rfl, hr3, hx3, hr4, hx4, hr5, hx5⟩ := hat.out
    have hT := fun (es : EntsP) (L : List PK) (he : PairS es L) => ih y.thn (by omega) s2 s3 I1 a1' c1 xs1 es L he (hr4.le hle1) (StsAt.le hle1 _ _ hx4)
    have hL := fun (J : Imm) (m : Le I1 J) (es : EntsP) (L : List PK) (he : PairS es L) => ih y.els (by omega) s4 s5 J a2' c2 xs2 es L he ((hr5.le hle1).le m) (StsAt.le m _ _ (StsAt.le hle1 _ _ hx5))
    by_cases k1 : y.kind = 1
    · rw [if_pos k1] at hst
      have hq1 : PairS (mputP es1 ((y.fr : Int), (y.to : Int)) (.bool true)) (L ++ Sp.letPs (l.take k) ++ [((y.fr : Int), (y.to : Int))]) := (hq.more (fun x hx => List.mem_append_left _ hx)).put (List.mem_append_right _ (List.mem_singleton.2 rfl))
      repeat' (first
      | (refine i_indexAddr (d:=10) (hr:=hrow) (k:=?_); intro bt ot hpt; rw [show ((k : Int).toNat * 15) = k * 15 from rfl, hcs] at hpt)
      | (refine op_build (d:=20) (hr:=build_pair _ _) (k:=?_))
      | (refine wl_mapUpdate ?_; refine m_putP (s := ((y.fr : Int), (y.to : Int))) hm (by rfl) (by rfl) (by rfl) (by rfl) (by rfl) gt1 hq.nodup ?_; clear hm; intro _ hm; try simp only [setn] at hm; replace hm := hm.swap)
      | (refine m_call (d:=24) hm (hp:=pm1_0) (hc:=hT _ _ hq1) (k:=?_); clear hm; rintro _ I2 _ _ ⟨rfl, es2, hq2, rfl⟩ hleI2 hm; try simp only [setn] at hm)
      | (refine m_call (d:=28) hm (hp:=pm1_0) (hc:=hL I2 hleI2 es2 _ hq2) (k:=?_); clear hm; rintro _ I3 _ _ ⟨rfl, es3, hq3, rfl⟩ hleI3 hm; try simp only [setn] at hm)
      | (refine m_varS (d:=5) hm (k:=?_); clear hm; intro b5 _ hm)
      | refine m_load1 hm (k:=?_)
      | refine i_loadN hm (k:=?_)
      | refine op_move (k:=?_)
      | refine op_lss (k:=?_)
      | refine op_eql (k:=?_)
      | refine op_add (k:=?_)
      | refine op_fieldAddr (k:=?_)
      | refine wl_nil ?_
      | refine at_then_normal ?_
      | refine at_block_normal ?_
      | refine wc_seq ?_
      | refine wc_region ?_
      | refine wc_block ?_
      | refine wc_skip ?_
      | (refine wc_cond_dec (ht:=fun _ => ?_) (hf:=fun _ => ?_)<;> (try first | contradiction | (exfalso; omega))))
      all_goals try (exfalso; first | omega | contradiction)
      exact at_round (⟨k + 1, I3, es3⟩ : PgX) (by exact ⟨rfl, rfl, rfl, rfl, trivial⟩) ⟨hm.snd, (hle1.trans hleI2).trans hleI3, by dsimp only; rw [hst]; simpa only [List.append_assoc] using hq3, by dsimp only; omega⟩ (by dsimp only; omega)
    · rw [if_neg k1, List.nil_append] at hst
      repeat' (first
      | (refine i_indexAddr (d:=10) (hr:=hrow) (k:=?_); intro bt ot hpt; rw [show ((k : Int).toNat * 15) = k * 15 from rfl, hcs] at hpt)
      | (refine m_call (d:=24) hm (hp:=pm1_1) (hc:=hT _ _ hq) (k:=?_); clear hm; rintro _ I2 _ _ ⟨rfl, es2, hq2, rfl⟩ hleI2 hm; try simp only [setn] at hm)
      | (refine m_call (d:=28) hm (hp:=pm1_0) (hc:=hL I2 hleI2 es2 _ hq2) (k:=?_); clear hm; rintro _ I3 _ _ ⟨rfl, es3, hq3, rfl⟩ hleI3 hm; try simp only [setn] at hm)
      | (refine m_varS (d:=5) hm (k:=?_); clear hm; intro b5 _ hm)
      | refine m_load1 hm (k:=?_)
      | refine i_loadN hm (k:=?_)
      | refine op_move (k:=?_)
      | refine op_lss (k:=?_)
      | refine op_eql (k:=?_)
      | refine op_add (k:=?_)
      | refine op_fieldAddr (k:=?_)
      | refine wl_nil ?_
      | refine at_then_normal ?_
      | refine at_block_normal ?_
      | refine wc_seq ?_
      | refine wc_region ?_
      | refine wc_block ?_
      | refine wc_skip ?_
      | (refine wc_cond_dec (ht:=fun _ => ?_) (hf:=fun _ => ?_)<;> (try first | contradiction | (exfalso; omega))))
      all_goals try (exfalso; first | omega | contradiction)
      exact at_round (⟨k + 1, I3, es3⟩ : PgX) (by exact ⟨rfl, rfl, rfl, rfl, trivial⟩) ⟨hm.snd, (hle1.trans hleI2).trans hleI3, by dsimp only; rw [hst]; simpa only [List.append_assoc] using hq3, by dsimp only; omega⟩ (by dsimp only; omega)
  · obtain rfl : k = l.length := by omega
    rw [List.take_length] at hq
    repeat' (first
    | refine op_lss (k:=?_)
    | refine wl_nil ?_
    | refine at_then_normal ?_
    | refine at_then_exit ?_
    | refine at_block_exit ?_
    | refine wc_seq ?_
    | refine wc_region ?_
    | refine wc_exit ?_
    | refine at_end0 (h:=?_)
    | (refine wc_cond_dec (ht:=fun _ => ?_) (hf:=fun _ => ?_)<;> (try first | contradiction | (exfalso; omega))))
    all_goals try (exfalso; omega)
    exact ⟨I1, _, ⟨rfl, es1, hq, rfl⟩, hm⟩
set_option maxHeartbeats 16000000 in
theorem g_closed : ∀ (n : Nat) (l : List Sp.Stm), SizeOf.sizeOf l ≤ n → l.length ≤ 64 → Sp.stmsSmall l → ∀ (I : Imm) (ab : Option Addr) (cb : Nat) (xb : List Value),
    RowI I 43 15 (.slice ab l.length cb) l.length xb → StsAt I l xb →
    CalM Tryd.prog 6 #[.slice ab l.length cb] I [] (fun v _ H' => v = .bool (Sp.shutL l) ∧ H' = []) := by
  intro n
  induction n with
  | zero => intro l h; cases l <;> simp at h
  | succ n ih =>
  intro l hsz hll hsm I ab cb xb hr hx
  refine CalM.of fun w E hm => enter (N := 30) Tryd.func6 rfl [(0, .slice ab l.length cb)] args1 rfl ?_
  repeat' (first
  | refine op_move (k:=?_)
  | refine op_assign (k:=?_)
  | refine op_len_slice (k:=?_)
  | refine wl_nil ?_
  | refine at_then_normal ?_
  | refine wc_seq ?_
  | refine wc_region ?_
  | refine wc_block ?_)
  refine wc_loop (fun x : NI => [(5, .slice ab l.length cb), (6, nt l.length), (7, nt x.k)])
    (fun x w' => Mem E x.I [] w' ∧ Le I x.I ∧ Sp.shutL (l.take x.k) = false ∧ x.k ≤ l.length) (fun x => l.length - x.k) ⟨0, I⟩
    (by exact ⟨rfl, rfl, rfl, trivial⟩) ⟨hm, Le.refl _, by dsimp only; rw [List.take_zero, Sp.shutL], Nat.zero_le _⟩ ?_
  clear hm
  rintro ⟨k, I1⟩ w1 ⟨hm, hle1, hq, hk⟩
  dsimp only at hm hle1 hq hk ⊢
  have hrow := hr.le hle1
  by_cases hlt : k < l.length
  · have hg : l[k]? = some l[k] := List.getElem?_eq_getElem hlt
    have hme := Sp.sizeL_mem (List.getElem_mem hlt)
    obtain ⟨cs, hcs⟩ : ∃ cs, (xb.drop (k * 15)).take 15 = cs := ⟨_, rfl⟩
    have hat := hx.get hg
    rw [hcs] at hat
    have hsm2 := Sp.stmsSmall_get hsm hg
    have hgl := fun (h : l[k].shut = true) => Sp.shutL_get hg h
    generalize l[k] = y at hg hme hat hsm2 hgl
    have hst := Sp.shutL_step hg
    rw [hq, Bool.false_or] at hst
    rw [Sp.shut_eq] at hst hgl
    obtain ⟨s1, s2, s3, s4, s5⟩ := Sp.small_parts hsm2
    obtain ⟨z1, z2⟩ := Sp.size_thn (s := y)
    obtain ⟨ea, ec, ex, a1', c1, xs1, a2', c2, xs2, rfl, hr3, hx3, hr4, hx4, hr5, hx5⟩ := hat.out
    have hT := ih y.thn (by omega) s2 s3 I1 a1' c1 xs1 (hr4.le hle1) (StsAt.le hle1 _ _ hx4)
    have hL := fun (J : Imm) (m : Le I1 J) => ih y.els (by omega) s4 s5 J a2' c2 xs2 ((hr5.le hle1).le m) (StsAt.le m _ _ (StsAt.le hle1 _ _ hx5))
    by_cases k1 : y.kind = 1 ∧ y.opn = false
    · have h1 := hgl (by rw [decide_eq_true k1.1, k1.2]; rfl)
      rw [h1]
      obtain ⟨k1, ho⟩ := k1
      repeat' (first
      | (refine i_indexAddr (d:=9) (hr:=hrow) (k:=?_); intro bt ot hpt; rw [show ((k : Int).toNat * 15) = k * 15 from rfl, hcs, ho] at hpt)
      | (refine m_varS (d:=4) hm (k:=?_); clear hm; intro b4 _ hm)
      | refine m_load1 hm (k:=?_)
      | refine i_loadN hm (k:=?_)
      | refine op_move (k:=?_)
      | refine op_assign (k:=?_)
      | refine op_pick_true (k:=?_)
      | refine op_lss (k:=?_)
      | refine op_eql (k:=?_)
      | refine op_not (k:=?_)
      | refine op_fieldAddr (k:=?_)
      | refine wl_skip (k:=?_)
      | (refine wl_split_dec (h1:=fun _ => ?_) (h0:=fun _ => ?_)<;> (try first | contradiction | (exfalso; omega)))
      | refine wl_nil ?_
      | refine at_then_normal ?_
      | refine at_then_ret ?_
      | refine at_block_ret ?_
      | refine wc_seq ?_
      | refine wc_region ?_
      | refine wc_block ?_
      | refine wc_skip ?_
      | refine wc_ret ?_
      | refine at_ret1 (h:=?_)
      | refine wc_cond_true (ht:=?_)
      | (refine wc_cond_dec (ht:=fun _ => ?_) (hf:=fun _ => ?_)<;> (try first | contradiction | (exfalso; omega))))
      all_goals try (exfalso; first | omega | contradiction)
      all_goals exact ⟨I1, _, ⟨rfl, rfl⟩, hm.tl⟩
    · have hz : (decide (y.kind = 1) && !y.opn) = false := by
        rw [Bool.and_eq_false_iff, decide_eq_false_iff_not]
        by_cases h : y.kind = 1
        · right
          cases ho : y.opn with
          | true => rfl
          | false => exact absurd ⟨h, ho⟩ k1
        · exact .inl h
      rw [hz, Bool.false_or] at hst hgl
      have ho : y.kind = 1 → y.opn = true := fun h => by
        cases ho : y.opn with
        | true => rfl
        | false => exact absurd ⟨h, ho⟩ k1
      generalize Sp.shutL y.thn = q1 at hT hst hgl
      generalize Sp.shutL y.els = q2 at hL hst hgl
      rcases Nat.decEq y.kind 1 with kk | kk
      all_goals
        cases q1 with
        | true =>
          rw [hgl rfl]
          repeat' (first
          | (refine i_indexAddr (d:=9) (hr:=hrow) (k:=?_); intro bt ot hpt; rw [show ((k : Int).toNat * 15) = k * 15 from rfl, hcs] at hpt; try rw [ho kk] at hpt)
          | (refine m_call (d:=22) hm (hp:=pm0) (hc:=hT) (k:=?_); clear hm; rintro _ I2 _ _ ⟨rfl, rfl⟩ hleI2 hm; try simp only [setn] at hm)
          | (refine m_varS (d:=4) hm (k:=?_); clear hm; intro b4 _ hm)
          | refine m_load1 hm (k:=?_)
          | refine i_loadN hm (k:=?_)
          | refine op_move (k:=?_)
          | refine op_assign (k:=?_)
          | refine op_pick_true (k:=?_)
          | refine op_pick_false (k:=?_)
          | refine op_lss (k:=?_)
          | refine op_eql (k:=?_)
          | refine op_not (k:=?_)
          | refine op_fieldAddr (k:=?_)
          | refine wl_skip (k:=?_)
          | (refine wl_split_dec (h1:=fun _ => ?_) (h0:=fun _ => ?_)<;> (try first | contradiction | (exfalso; omega)))
          | refine wl_nil ?_
          | refine at_then_normal ?_
          | refine at_then_ret ?_
          | refine at_block_ret ?_
          | refine wc_seq ?_
          | refine wc_region ?_
          | refine wc_block ?_
          | refine wc_skip ?_
          | refine wc_ret ?_
          | refine at_ret1 (h:=?_)
          | refine wc_cond_true (ht:=?_)
          | (refine wc_cond_dec (ht:=fun _ => ?_) (hf:=fun _ => ?_)<;> (try first | contradiction | (exfalso; omega))))
          all_goals try (exfalso; first | omega | contradiction)
          all_goals exact ⟨I2, _, ⟨rfl, rfl⟩, hm.tl⟩
        | false =>
          cases q2 with
          | true =>
            rw [hgl rfl]
            repeat' (first
            | (refine i_indexAddr (d:=9) (hr:=hrow) (k:=?_); intro bt ot hpt; rw [show ((k : Int).toNat * 15) = k * 15 from rfl, hcs] at hpt; try rw [ho kk] at hpt)
            | (refine m_call (d:=22) hm (hp:=pm0) (hc:=hT) (k:=?_); clear hm; rintro _ I2 _ _ ⟨rfl, rfl⟩ hleI2 hm; try simp only [setn] at hm)
            | (refine m_call (d:=27) hm (hp:=pm0) (hc:=hL I2 hleI2) (k:=?_); clear hm; rintro _ I3 _ _ ⟨rfl, rfl⟩ hleI3 hm; try simp only [setn] at hm)
            | (refine m_varS (d:=4) hm (k:=?_); clear hm; intro b4 _ hm)
            | refine m_load1 hm (k:=?_)
            | refine i_loadN hm (k:=?_)
            | refine op_move (k:=?_)
            | refine op_assign (k:=?_)
            | refine op_pick_true (k:=?_)
            | refine op_pick_false (k:=?_)
            | refine op_lss (k:=?_)
            | refine op_eql (k:=?_)
            | refine op_not (k:=?_)
            | refine op_fieldAddr (k:=?_)
            | refine wl_skip (k:=?_)
            | (refine wl_split_dec (h1:=fun _ => ?_) (h0:=fun _ => ?_)<;> (try first | contradiction | (exfalso; omega)))
            | refine wl_nil ?_
            | refine at_then_normal ?_
            | refine at_then_ret ?_
            | refine at_block_ret ?_
            | refine wc_seq ?_
            | refine wc_region ?_
            | refine wc_block ?_
            | refine wc_skip ?_
            | refine wc_ret ?_
            | refine at_ret1 (h:=?_)
            | refine wc_cond_true (ht:=?_)
            | (refine wc_cond_dec (ht:=fun _ => ?_) (hf:=fun _ => ?_)<;> (try first | contradiction | (exfalso; omega))))
            all_goals try (exfalso; first | omega | contradiction)
            all_goals exact ⟨I3, _, ⟨rfl, rfl⟩, hm.tl⟩
          | false =>
            repeat' (first
            | (refine i_indexAddr (d:=9) (hr:=hrow) (k:=?_); intro bt ot hpt; rw [show ((k : Int).toNat * 15) = k * 15 from rfl, hcs] at hpt; try rw [ho kk] at hpt)
            | (refine m_call (d:=22) hm (hp:=pm0) (hc:=hT) (k:=?_); clear hm; rintro _ I2 _ _ ⟨rfl, rfl⟩ hleI2 hm; try simp only [setn] at hm)
            | (refine m_call (d:=27) hm (hp:=pm0) (hc:=hL I2 hleI2) (k:=?_); clear hm; rintro _ I3 _ _ ⟨rfl, rfl⟩ hleI3 hm; try simp only [setn] at hm)
            | (refine m_varS (d:=4) hm (k:=?_); clear hm; intro b4 _ hm)
            | refine m_load1 hm (k:=?_)
            | refine i_loadN hm (k:=?_)
            | refine op_move (k:=?_)
            | refine op_pick_true (k:=?_)
            | refine op_pick_false (k:=?_)
            | refine op_lss (k:=?_)
            | refine op_eql (k:=?_)
            | refine op_not (k:=?_)
            | refine op_add (k:=?_)
            | refine op_fieldAddr (k:=?_)
            | refine wl_skip (k:=?_)
            | (refine wl_split_dec (h1:=fun _ => ?_) (h0:=fun _ => ?_)<;> (try first | contradiction | (exfalso; omega)))
            | refine wl_nil ?_
            | refine at_then_normal ?_
            | refine at_block_normal ?_
            | refine wc_seq ?_
            | refine wc_region ?_
            | refine wc_block ?_
            | refine wc_skip ?_
            | refine wc_cond_false (hf:=?_)
            | (refine wc_cond_dec (ht:=fun _ => ?_) (hf:=fun _ => ?_)<;> (try first | contradiction | (exfalso; omega))))
            all_goals try (exfalso; first | omega | contradiction)
            all_goals exact at_round (⟨k + 1, I3⟩ : NI) (by exact ⟨rfl, rfl, rfl, trivial⟩) ⟨hm.tl, (hle1.trans hleI2).trans hleI3, hst, by dsimp only; omega⟩ (by dsimp only; omega)
  · obtain rfl : k = l.length := by omega
    rw [List.take_length] at hq
    rw [hq]
    repeat' (first
    | refine op_assign (k:=?_)
    | refine op_lss (k:=?_)
    | refine wl_nil ?_
    | refine at_then_normal ?_
    | refine at_then_exit ?_
    | refine at_block_exit ?_
    | refine wc_seq ?_
    | refine wc_region ?_
    | refine wc_exit ?_
    | refine wc_ret ?_
    | refine at_ret1 (h:=?_)
    | (refine wc_cond_dec (ht:=fun _ => ?_) (hf:=fun _ => ?_)<;> (try first | contradiction | (exfalso; omega))))
    all_goals try (exfalso; omega)
    exact ⟨I1, _, ⟨rfl, rfl⟩, hm⟩
end Go.Proofs.YthmdffgiockcbaaDoor
end
section
namespace Go.Fw
open Go
section
variable {P : Program} {N : Nat} {ds : List Deferred} {Q : Exit → Act → World → Prop} {K : Act → World → Prop} {KV : Act → Prop} {l : Log} {w w0 : World} {ops : Array Oper} {os os' tail : List Oper} {X : List Nat}
variable {d : Nat} {ty : TypeId} {pos : String} {af : Array Edge} {g : Option (Nat × Bool)} {t : TypeId} {x y z : Operand} {E : Ent} {I I0 : Imm} {H G R : List HItem} {n f : Nat} {listed : Array Bool}
theorem mq_lookupZ {kt et : TypeId} [TyMap P t kt et] [TyInt P kt .i64] {i b : Nat} {es : EntsZ} {s : Int} {zv : Value} (hm : Mem E I H w) (hw : want ops l ⟨some d, .lookup t x y false, ty, pos, af, g⟩ = some true) (hN : Nat.blt d N = true)
    (hx : ev l x = some (.map (some b))) (hy : ev l y = some (numZ s)) (hi : H[i]? = some (.mz b es)) (hz : ∀ w, (zeroValue et).run P w = .ok zv w)
    (k : WQ P N ds ops w K os ((d, mlookZ es s zv) :: l)) : WQ P N ds ops w K (⟨some d, .lookup t x y false, ty, pos, af, g⟩ :: os) l := by
  have hg := hm.get hi
  exact wq_value rfl hw hN (fun w' hkq a ha => run_lookupZ ha hx hy (by rw [hkq.blk b (lt_of_heap hg) (by simp)]; exact hg) hz) k
theorem mw_lookupZ {kt et : TypeId} [TyMap P t kt et] [TyInt P kt .i64] {i b : Nat} {es : EntsZ} {s : Int} {zv : Value} (hR : Mem E I (G ++ R) w) (hw : want ops l ⟨some d, .lookup t x y false, ty, pos, af, g⟩ = some true) (hN : Nat.blt d N = true)
    (hx : ev l x = some (.map (some b))) (hy : ev l y = some (numZ s)) (hi : R[i]? = some (.mz b es)) (hz : ∀ w, (zeroValue et).run P w = .ok zv w)
    (k : WV P N ds ops (blks G) w KV os ((d, mlookZ es s zv) :: l)) : WV P N ds ops (blks G) w KV (⟨some d, .lookup t x y false, ty, pos, af, g⟩ :: os) l := by
  have hg := hR.right.get hi
  have hnG := hR.notG hi rfl
  exact wv_value rfl hw hN (fun w' hkq a ha => run_lookupZ ha hx hy (by rw [hkq.blk b (lt_of_heap hg) hnG]; exact hg) hz) k
/-- an entry, made if there is none. -/
theorem run_mapEntry {kt et : TypeId} [TyMap P t kt et] [TyInt P kt .i64] {b : Nat} {es : EntsZ} {s : Int} {zv : Value} (hb : w.heap[b]? = some (.map (entsZ es 0).toArray es.length)) (hn : (es.map (·.1)).Nodup) (hz : ∀ w, (zeroValue et).run P w = .ok zv w) :
    ∃ (es1 : EntsZ) (j : Nat) (u : Value) (w' : World), (Instr.mapEntry t (.map (some b)) (numZ s)).run P w = .ok (.tuple #[u, .int .i64 (j : Int)]) w' ∧ w'.heap[b]? = some (.map (entsZ es1 0).toArray es1.length) ∧ Kept [b] w w' ∧ es1[j]? = some (s, u) ∧ ∀ v, es1.set j (s, v) = mputZ es s v := by
  have h1 := run_underlying (P := P) (w := w) (TyMap.out (P := P) (t := t))
  have hk := TyInt.out (P := P) (t := kt)
  have h2 := run_findKeyZ (P := P) (w := w) hk s es 0
  have h3 := run_checkKeyZ (P := P) (w := w) hk s false
  have h4 := MapKept.run_getObj_map (P := P) hb
  have h5 := fun o' => MapKept.run_setObj_map (P := P) o' hb
  have hlt := lt_of_heap hb
  cases hf : es.findIdx? (fun p => decide (p.1 = s)) with
  | none =>
    rw [hf] at h2
    have e1 : (entsZ (es ++ [(s, zv)]) 0).toArray = (entsZ es 0).toArray.push { key := numZ s, val := zv, born := es.length } := by
      simp [entsZ, List.zipIdx_append]
    refine ⟨es ++ [(s, zv)], es.length, zv, { w with heap := w.heap.setIfInBounds b (.map ((entsZ es 0).toArray.push { key := numZ s, val := zv, born := es.length }) (es.length + 1)) }, ?_, ?_, ⟨rfl, rfl, rfl, by simp, fun i hi hx => ?_⟩, by simp, fun v => ?_⟩
    · simp only [Instr.mapEntry, Sem.run_bind, h1, Result.andThen_ok, h4, h3, h2, Option.bind_none, hz, h5, Sem.run_pure]
      rfl
    · rw [e1, List.length_append]
      simp [hlt]
    · have : b ≠ i := by rintro rfl; simp at hx
      simp [Array.getElem?_setIfInBounds_ne this]
    · rw [mputZ, hf]
      simp
  | some j =>
    obtain ⟨hj, hsj, _⟩ := List.findIdx?_eq_some_iff_getElem.1 hf
    have hsj' : es[j].1 = s := by simpa using hsj
    rw [hf] at h2
    have hg : es[j]? = some es[j] := List.getElem?_eq_getElem hj
    simp only [Option.bind_some, hg, Option.map_some, Nat.zero_add] at h2
    have hkey : (entsZ es 0).toArray[j]? = some { key := numZ s, val := es[j].2, born := j } := by
      simp [entsZ, List.getElem?_zipIdx, hg, hsj']
    have h6 : (Instr.keyThatStays (numZ s) (numZ s)).run P w = .ok (numZ s) w := by
      have : Instr.sameBits 10000 (numZ s) (numZ s) = true := by simp [Instr.sameBits]
      simp [Instr.keyThatStays, this]
    have e2 := ents_modifyZ es j s es[j].2
    have e3 : es.set j (s, es[j].2) = es := by
      apply List.ext_getElem?
      intro i
      rw [List.getElem?_set]
      by_cases e : j = i
      · subst e
        rw [if_pos rfl, if_pos hj, hg, ← hsj']
      · rw [if_neg e]
    have e4 : ((entsZ es 0).toArray.modify j fun e => { e with key := numZ s }) = (entsZ es 0).toArray := by
      rw [← Array.toList_inj]
      apply List.ext_getElem?
      intro i
      rw [Array.getElem?_toList, Array.getElem?_toList, Array.getElem?_modify]
      by_cases e : j = i
      · subst e
        rw [if_pos rfl, hkey]; rfl
      · rw [if_neg e]
    refine ⟨es, j, es[j].2, { w with heap := w.heap.setIfInBounds b (.map (entsZ es 0).toArray es.length) }, ?_, by simp [hlt], ⟨rfl, rfl, rfl, by simp, fun i hi hx => ?_⟩, by rw [hg, ← hsj'], fun v => by rw [mputZ, hf]⟩
    · simp only [Instr.mapEntry, Sem.run_bind, h1, Result.andThen_ok, h4, h3, h2, hkey, Option.map_some, Option.getD_some, h6, h5, Sem.run_pure]
      rw [e4]
      rfl
    · have : b ≠ i := by rintro rfl; simp at hx
      simp [Array.getElem?_setIfInBounds_ne this]
theorem mu_mapEntryZ {kt et : TypeId} [TyMap P t kt et] [TyInt P kt .i64] {i b : Nat} {es : EntsZ} {s : Int} {zv : Value} (hm : Mem ⟨w0, X, I0⟩ I H w) (hw : want ops l ⟨some d, .mapEntry t x y, ty, pos, af, g⟩ = some true) (hN : Nat.blt d N = true)
    (hx : ev l x = some (.map (some b))) (hy : ev l y = some (numZ s)) (hi : H[i]? = some (.mz b es)) (hn : (es.map (·.1)).Nodup) (hz : ∀ w, (zeroValue et).run P w = .ok zv w)
    (k : ∀ (es1 : EntsZ) (j : Nat) (u : Value) (w' : World), es1[j]? = some (s, u) → (∀ v, es1.set j (s, v) = mputZ es s v) → Mem ⟨w0, X, I0⟩ I (H.set i (.mz b es1)) w' → WA P N ds ops Q X w0 n f listed tail ((d, .tuple #[u, .int .i64 (j : Int)]) :: l) w') :
    WU P N ds ops Q X w0 n f listed tail ⟨some d, .mapEntry t x y, ty, pos, af, g⟩ l w := by
  obtain ⟨es1, j, u, w', hr, hh, hk, hj, hp⟩ := run_mapEntry (P := P) (t := t) (s := s) (hm.get hi) hn hz
  have hm' := hm.turn (h' := .mz b es1) hi (by simpa [HItem.blk] using hk) hh (.inl rfl)
  refine wu_value (w' := w') rfl hw hN (fun a ha => ?_) hm'.kept (k es1 j u w' hj hp hm')
  simp [execOp, ha.ev hx, ha.ev hy, hr]
theorem wu_extract {m : Nat} {vs : Array Value} {v : Value} (hC : Kept X w0 w) (hw : want ops l ⟨some d, .extract x m, ty, pos, af, g⟩ = some true) (hN : Nat.blt d N = true)
    (hx : ev l x = some (.tuple vs)) (hv : vs[m]? = some v) (k : WA P N ds ops Q X w0 n f listed tail ((d, v) :: l) w) : WU P N ds ops Q X w0 n f listed tail ⟨some d, .extract x m, ty, pos, af, g⟩ l w :=
  wu_value (w' := w) rfl hw hN (fun a ha => by simp [execOp, ha.ev hx, Instr.extract, hv]) hC k
theorem born_idx (es : EntsZ) {j : Nat} (hj : j < es.length) : (entsZ es 0).toArray.findIdx? (fun e => (e.born : Int) == (j : Int)) = some j := by
  rw [List.findIdx?_toArray, List.findIdx?_eq_some_iff_getElem]
  have hl : (entsZ es 0).length = es.length := by simp [entsZ]
  refine ⟨by omega, by simp [entsZ], fun i hi => ?_⟩
  simp [entsZ]; omega
theorem mu_entryStoreZ {i b j : Nat} {es es1 : EntsZ} {s : Int} {u v : Value} {dst : Option Nat} (hm : Mem ⟨w0, X, I0⟩ I H w) (hd : dst = none) (hw : want ops l ⟨dst, .entryStore t x y z, ty, pos, af, g⟩ = some true)
    (hx : ev l x = some (.map (some b))) (hy : ev l y = some (.int .i64 (j : Int))) (hz : ev l z = some v) (hi : H[i]? = some (.mz b es1)) (hj : es1[j]? = some (s, u)) (hp : ∀ v, es1.set j (s, v) = mputZ es s v)
    (k : ∀ w', Mem ⟨w0, X, I0⟩ I (H.set i (.mz b (mputZ es s v))) w' → WA P N ds ops Q X w0 n f listed tail l w') :
    WU P N ds ops Q X w0 n f listed tail ⟨dst, .entryStore t x y z, ty, pos, af, g⟩ l w := by
  subst hd
  have hb := hm.get hi
  have hlt := lt_of_heap hb
  have h4 := MapKept.run_getObj_map (P := P) hb
  have h5 := fun o' => MapKept.run_setObj_map (P := P) o' hb
  have hjl := (List.getElem?_eq_some_iff.1 hj).1
  have h6 := born_idx es1 hjl
  have e1 : ((entsZ es1 0).toArray.modify j fun e => { e with val := v }) = (entsZ (mputZ es s v) 0).toArray := by
    rw [← hp v, ← ents_modifyZ es1 j s v, ← Array.toList_inj]
    apply List.ext_getElem?
    intro i
    rw [Array.getElem?_toList, Array.getElem?_toList, Array.getElem?_modify, Array.getElem?_modify]
    by_cases e : j = i
    · subst e
      rw [if_pos rfl, if_pos rfl]
      simp [entsZ, List.getElem?_zipIdx, hj]
    · rw [if_neg e, if_neg e]
  have hl : es1.length = (mputZ es s v).length := by rw [← hp v, List.length_set]
  have hkept : Kept [b] w { w with heap := w.heap.setIfInBounds b (.map (entsZ (mputZ es s v) 0).toArray (mputZ es s v).length) } :=
    ⟨rfl, rfl, rfl, by simp, fun i hi hx => by
      have : b ≠ i := by rintro rfl; simp at hx
      simp [Array.getElem?_setIfInBounds_ne this]⟩
  have hm' := hm.turn (h' := .mz b (mputZ es s v)) hi (by simpa [HItem.blk] using hkept) (by
    show HItem.ok _ _
    simp [HItem.ok, hlt]) (.inl rfl)
  rw [hl] at h4
  refine wu_skip rfl hw (fun a ha => ?_) hm'.kept (k _ hm')
  simp [execOp, Instr.entryStore, ha.ev hx, ha.ev hy, ha.ev hz, h4, asInt, asIntOf, h6, e1, h5]
end
end Go.Fw
end
section
namespace Go.Fw
open Go
section
variable {P : Program} {N : Nat} {ds : List Deferred} {Q : Exit → Act → World → Prop} {l l' : Log} {w w' : World} {ops : Array Oper} {os : List Oper}
variable {d : Nat} {ty : TypeId} {pos : String} {af : Array Edge} {g : Option (Nat × Bool)} {t t' : TypeId} {x y z : Operand}
variable {E : Ent} {I I' : Imm} {H H' R : List HItem}
/-- a row that is not empty lies in a block. -/
theorem Mem.rowAddr {e : TypeId} {sz n cap : Nat} {a : Option Addr} {xs : List Value} (hm : Mem E I (.row (.slice a n cap) e sz n xs :: H) w) (hn : 0 < n) : ∃ b, a = some ⟨b, 0, none⟩ := by
  obtain ⟨b, cp, cur, hv, _⟩ := hm.openRow hn
  injection hv with h1 _ _
  exact ⟨b, h1⟩
theorem Mem.rowLen {e : TypeId} {sz n : Nat} {v : Value} {xs : List Value} (hm : Mem E I (.row v e sz n xs :: H) w) : xs.length = n * sz := (hm.ok _ List.mem_cons_self).1
/-- a cell of an owned row is read. -/
theorem m_loadRow [TyOne P t] {b off n cap sz : Nat} {e : TypeId} {xs : List Value} {v : Value} (hm : Mem E I (.row (.slice (some ⟨b, 0, none⟩) n cap) e sz n xs :: H) w) (hw : want ops l ⟨some d, .load t x, ty, pos, af, g⟩ = some true) (hN : Nat.blt d N = true)
    (hx : ev l x = some (.pointer (some ⟨b, off, none⟩))) (hc : xs[off]? = some v) (k : WL P N ds ops Q os ((d, v) :: l) w) :
    WL P N ds ops Q (⟨some d, .load t x, ty, pos, af, g⟩ :: os) l w := by
  have h0 := hm.rowLen
  have hlt : off < xs.length := (List.getElem?_eq_some_iff.1 hc).1
  rcases Nat.eq_zero_or_pos n with hn | hn
  · subst hn; rw [Nat.zero_mul] at h0; omega
  obtain ⟨b', cp, cur, hv, hm2, hcp, hcm, hs, ht⟩ := hm.openRow hn
  injection hv with h1 _ _
  injection h1 with h1
  injection h1 with h1
  subst h1
  refine op_load1 hw hN hx (hm2.ok _ List.mem_cons_self) ?_ k
  rw [← ht, List.getElem?_take] at hc
  split at hc
  · simpa using hc
  · cases hc
/-- a cell of an owned row is written. -/
theorem m_storeRow {by_ : Nat} [Elem P t 1 by_] {b off n cap sz : Nat} {e : TypeId} {xs : List Value} {v : Value} {dst : Option Nat} (hm : Mem E I (.row (.slice (some ⟨b, 0, none⟩) n cap) e sz n xs :: H) w) (hd : dst = none) (hw : want ops l ⟨dst, .store t x y, ty, pos, af, g⟩ = some true)
    (hx : ev l x = some (.pointer (some ⟨b, off, none⟩))) (hy : ev l y = some v) (hn1 : v.cells.toList = [v]) (h1 : v.oneCell' = true) (ho : off < xs.length)
    (k : ∀ w', Mem E I (.row (.slice (some ⟨b, 0, none⟩) n cap) e sz n (xs.set off v) :: H) w' → WL P N ds ops Q os l w') :
    WL P N ds ops Q (⟨dst, .store t x y, ty, pos, af, g⟩ :: os) l w := by
  have h0 := hm.rowLen
  rcases Nat.eq_zero_or_pos n with hn | hn
  · subst hn; rw [Nat.zero_mul] at h0; omega
  obtain ⟨b', cp, cur, hv, hm2, hcp, hcm, hs, ht⟩ := hm.openRow hn
  injection hv with e1 _ e3
  injection e1 with e1
  injection e1 with e1
  subst e1; subst e3
  obtain ⟨cL, rfl⟩ : ∃ cL : List Value, cur = cL.toArray := ⟨cur.toList, by simp⟩
  have hs' : cL.length = cap * sz := by simpa using hs
  have ht' : cL.take (n * sz) = xs := by simpa using ht
  have hle : n * sz ≤ cap * sz := Nat.mul_le_mul_right _ hcp
  refine m_store1 (i:=0) hm2 hd hw hx hy rfl hn1 (by rw [Nat.blt_eq]; omega) h1 (fun w2 hm3 => k w2 ?_)
  have hm4 : Mem E I (.obj b (.cells (cL.set off v).toArray e (0, 0)) :: H) w2 := hm3
  exact hm4.shutRow hcp hcm (by simpa using hs') (by simp only; rw [List.take_set, ht'])
end
/-! the parts of what is owned, one behind the other -/
theorem pmT1 {r : HItem} {A B C D : List HItem} : (r :: (A ++ ((B ++ C) ++ D))).Perm (B ++ (r :: (A ++ (C ++ D)))) := by
  have h1 : (A ++ ((B ++ C) ++ D)).Perm (B ++ (A ++ (C ++ D))) := by
    rw [List.append_assoc]
    exact (List.perm_append_comm_assoc A B (C ++ D))
  exact (h1.cons r).trans (List.perm_middle (l₁ := B) (a := r) (l₂ := A ++ (C ++ D))).symm
theorem pmT2 {r : HItem} {A B C D : List HItem} : (B ++ (r :: (A ++ (C ++ D)))).Perm (C ++ (r :: (A ++ (B ++ D)))) := by
  have h1 : (B ++ (r :: (A ++ (C ++ D)))).Perm (r :: (B ++ (A ++ (C ++ D)))) := List.perm_middle
  have h2 : (B ++ (A ++ (C ++ D))).Perm (C ++ (A ++ (B ++ D))) := by
    refine (List.perm_append_comm_assoc B A (C ++ D)).trans ?_
    refine ((List.perm_append_comm_assoc B C D).append_left A).trans ?_
    exact List.perm_append_comm_assoc A C (B ++ D)
  exact h1.trans ((h2.cons r).trans (List.perm_middle (l₁ := C) (a := r) (l₂ := A ++ (B ++ D))).symm)
theorem pmT3 {r : HItem} {A B C D : List HItem} : (C ++ (r :: (A ++ (B ++ D)))).Perm (r :: (A ++ ((B ++ C) ++ D))) :=
  pmT2.trans pmT1.symm
end Go.Fw
end
section
namespace Go.Fw
open Go
section
variable {P : Program} {N : Nat} {ds : List Deferred} {Q : Exit → Act → World → Prop} {K : Act → World → Prop} {KV : Act → Prop} {l l' : Log} {w w' w0 : World} {ops : Array Oper} {os : List Oper}
variable {d : Nat} {ty : TypeId} {pos : String} {af : Array Edge} {g : Option (Nat × Bool)} {t t' : TypeId} {x y z : Operand}
variable {E : Ent} {I I' : Imm} {H H' R G : List HItem}
/-- the zero of one cell. -/
class Zero1 (P : Program) (e : TypeId) (v : Value) : Prop where out : (P.info? e).bind (·.zero) = some v ∧ v.cells = #[v]
theorem Mem.rowCell {e : TypeId} {sz n cp b off : Nat} {xs : List Value} {v : Value} (ho : (HItem.row (.slice (some ⟨b, 0, none⟩) n cp) e sz n xs).ok w) (hc : xs[off]? = some v) :
    ∃ c fr, w.heap[b]? = some (.cells c e fr) ∧ c[off]? = some v := by
  rcases ho.2 with ⟨_, h0⟩ | ⟨g, cap, cur, hv, _, hg, _, _, _, ht⟩
  · have h1 := ho.1
    subst h0
    rw [Nat.zero_mul] at h1
    have : off < xs.length := (List.getElem?_eq_some_iff.1 hc).1
    omega
  · injection hv with e1 _ _
    injection e1 with e1
    injection e1 with e1
    subst e1
    refine ⟨cur, (0, 0), hg, ?_⟩
    rw [← ht, List.getElem?_take] at hc
    split at hc
    · simpa using hc
    · cases hc
theorem mq_loadRow [TyOne P t] {i b off n cp sz : Nat} {e : TypeId} {xs : List Value} {v : Value} (hm : Mem E I H w) (hw : want ops l ⟨some d, .load t x, ty, pos, af, g⟩ = some true) (hN : Nat.blt d N = true)
    (hx : ev l x = some (.pointer (some ⟨b, off, none⟩))) (hb : H[i]? = some (.row (.slice (some ⟨b, 0, none⟩) n cp) e sz n xs)) (hc : xs[off]? = some v)
    (k : WQ P N ds ops w K os ((d, v) :: l)) : WQ P N ds ops w K (⟨some d, .load t x, ty, pos, af, g⟩ :: os) l := by
  obtain ⟨c, fr, h1, h2⟩ := Mem.rowCell (hm.ok _ (List.mem_of_getElem? hb)) hc
  exact q_load1 hw hN hx h1 h2 k
theorem mi_loadRow [TyOne P t] {i b off n cp sz : Nat} {e : TypeId} {xs : List Value} {v : Value} (hm : Mem E I H w) (hw : want ops l ⟨some d, .load t x, ty, pos, af, g⟩ = some true) (hN : Nat.blt d N = true)
    (hx : ev l x = some (.pointer (some ⟨b, off, none⟩))) (hb : H[i]? = some (.row (.slice (some ⟨b, 0, none⟩) n cp) e sz n xs)) (hc : xs[off]? = some v)
    (k : WL P N ds ops Q os ((d, v) :: l) w) : WL P N ds ops Q (⟨some d, .load t x, ty, pos, af, g⟩ :: os) l w := by
  obtain ⟨c, fr, h1, h2⟩ := Mem.rowCell (hm.ok _ (List.mem_of_getElem? hb)) hc
  exact op_load1 hw hN hx h1 h2 k
/-- a cell of an owned row, wherever it stands, is written. -/
theorem mi_storeRow {by_ : Nat} [Elem P t 1 by_] {i b off n cap sz : Nat} {e : TypeId} {xs : List Value} {v : Value} {dst : Option Nat} (hm : Mem E I H w) (hd : dst = none) (hw : want ops l ⟨dst, .store t x y, ty, pos, af, g⟩ = some true)
    (hx : ev l x = some (.pointer (some ⟨b, off, none⟩))) (hy : ev l y = some v) (hi : H[i]? = some (.row (.slice (some ⟨b, 0, none⟩) n cap) e sz n xs)) (hn1 : v.cells.toList = [v]) (h1 : v.oneCell' = true) (ho : off < xs.length)
    (k : ∀ w', Mem E I (H.set i (.row (.slice (some ⟨b, 0, none⟩) n cap) e sz n (xs.set off v))) w' → WL P N ds ops Q os l w') :
    WL P N ds ops Q (⟨dst, .store t x y, ty, pos, af, g⟩ :: os) l w := by
  refine m_storeRow (hm.front i hi) hd hw hx hy hn1 h1 ho (fun w2 hm2 => k w2 (hm2.perm ?_))
  have hlt : i < H.length := (List.getElem?_eq_some_iff.1 hi).1
  have h := front_perm (H.set i (.row (.slice (some ⟨b, 0, none⟩) n cap) e sz n (xs.set off v))) i _ (List.getElem?_set_self hlt)
  rw [List.eraseIdx_set_eq] at h
  exact h.symm
end
/-! rows of rows: each with its slice. -/
abbrev Tri (α : Type) := List α × Option Addr × Nat
abbrev Tri.nil {α : Type} : Tri α := ([], none, 0)
end Go.Fw
end
section
namespace Go.Fw
open Go
section
variable {P : Program} {N : Nat} {ds : List Deferred} {Q : Exit → Act → World → Prop} {X : List Nat} {l l' : Log} {w w' w0 : World} {ops : Array Oper} {os tail : List Oper} {o : Oper}
variable {d : Nat} {ty : TypeId} {pos : String} {af : Array Edge} {g : Option (Nat × Bool)} {t t' : TypeId} {x y : Operand} {ik : IntKind}
end
end Go.Fw
end
