/- Own work: texts InfA, InfB, one behind the other. -/
import Derived.Test.YthmdffgiockcbaaDoorIf26
section
namespace Go.Fw
open Go
section
variable {P : Program} {N : Nat} {ds : List Deferred} {Q : Exit → Act → World → Prop} {l : Log} {w : World} {ops : Array Oper} {os : List Oper}
variable {d : Nat} {ty : TypeId} {pos : String} {af : Array Edge} {g : Option (Nat × Bool)} {t t' : TypeId} {x : Operand}
theorem run_eqlNil {w : World} {e : TypeId} (hT : P.underlying t = some (.pointer e)) (a : Option Addr) : (Op.equal t (.pointer a) (.pointer none)).run P w = .ok a.isNone w := by
  have h1 := run_underlying (P := P) (w := w) hT
  show (Op.equalIn (9999 + 1) t (.pointer a) (.pointer none)).run P w = _
  rw [Op.equalIn]
  cases a <;> simp [h1]
theorem op_eql_nilptr {e : TypeId} (hT : P.underlying t = some (.pointer e)) {a : Option Addr} {k0 : Value} (hw : want ops l ⟨some d, .binOp .eql t x (.const k0) t', ty, pos, af, g⟩ = some true) (hN : Nat.blt d N = true)
    (hx : ev l x = some (.pointer a)) (hk : k0 = .pointer none) (k : WL P N ds ops Q os ((d, .bool a.isNone) :: l) w) : WL P N ds ops Q (⟨some d, .binOp .eql t x (.const k0) t', ty, pos, af, g⟩ :: os) l w :=
  wl_value rfl hw hN (fun c hc => by
    subst hk
    have e2 : c.eval (.const (.pointer none)) = .pointer none := rfl
    simp [execOp, hc.ev hx, e2, eqGuard, binOp, run_eqlNil hT a]) k
theorem op_neq_nilptr {e : TypeId} (hT : P.underlying t = some (.pointer e)) {a : Option Addr} {k0 : Value} (hw : want ops l ⟨some d, .binOp .neq t x (.const k0) t', ty, pos, af, g⟩ = some true) (hN : Nat.blt d N = true)
    (hx : ev l x = some (.pointer a)) (hk : k0 = .pointer none) (k : WL P N ds ops Q os ((d, .bool a.isSome) :: l) w) : WL P N ds ops Q (⟨some d, .binOp .neq t x (.const k0) t', ty, pos, af, g⟩ :: os) l w :=
  wl_value rfl hw hN (fun c hc => by
    subst hk
    have e2 : c.eval (.const (.pointer none)) = .pointer none := rfl
    have e3 : (!a.isNone) = a.isSome := by cases a <;> rfl
    simp [execOp, hc.ev hx, e2, eqGuard, binOp, run_eqlNil hT a, e3]) k
end
end Go.Fw
namespace Go.Proofs.YthmdffgiockcbaaDoor
open Go.Fw
/-- a map of numbers, as labels by where they stand. -/
structure OpenZ (zs : EntsZ) (o : Sp.Lab) : Prop where
  nodup : (zs.map (·.1)).Nodup
  get : ∀ n : Nat, mlookZ zs (n : Int) (.int .i64 0) = nt (o n)
theorem OpenZ.nil : OpenZ [] (fun _ => 0) := ⟨List.nodup_nil, fun n => rfl⟩
theorem OpenZ.put {zs : EntsZ} {o : Sp.Lab} (h : OpenZ zs o) (f n : Nat) : OpenZ (mputZ zs (f : Int) (nt n)) (Sp.upL o f n) := by
  refine ⟨mput_nodupZ h.nodup, fun m => ?_⟩
  have hg := h.get m
  show (mgetZ (mputZ zs (f : Int) (nt n)) (m : Int)).getD _ = nt (if m = f then n else o m)
  rw [mget_mputZ _ h.nodup]
  by_cases e : m = f
  · subst e; rw [if_pos rfl, if_pos rfl]; rfl
  · rw [if_neg (fun h => e (by omega)), if_neg e]; exact hg
theorem _root_.Go.Fw.pmIn {x y z : HItem} : [x, y, z].Perm [y, z, x] := List.perm_append_comm (l₁ := [x]) (l₂ := [y, z])
abbrev Loc := Sp.Li × Value
abbrev encLi (o : Sp.Lab) (p : Loc) : List Value := [str p.1.name, nt (p.1.val o), p.2]
theorem encLi_at {o : Sp.Lab} : ∀ {sc : List Loc} {i : Nat} {p : Loc}, sc[i]? = some p → (sc.flatMap (encLi o))[i * 3]? = some (str p.1.name) ∧ (sc.flatMap (encLi o))[i * 3 + 1]? = some (nt (p.1.val o)) ∧ (sc.flatMap (encLi o))[i * 3 + 2]? = some p.2
  | [], i, p, h => by simp at h
  | a :: sc, 0, p, h => by
    simp only [List.getElem?_cons_zero, Option.some.injEq] at h
    subst h
    exact ⟨rfl, rfl, rfl⟩
  | a :: sc, i + 1, p, h => by
    rw [List.getElem?_cons_succ] at h
    obtain ⟨h1, h2, h3⟩ := encLi_at (o := o) h
    rw [show (i + 1) * 3 = i * 3 + 3 by omega]
    exact ⟨h1, h2, h3⟩
theorem joinA (I : Imm) (a b : Nat) (ha : a < 256) (hb : b < 256) : CalR Tryd.prog 22 #[nt a, nt b] I [] (nt (a ||| b)) :=
  ⟨fun w _ _ => (c_join a b ha hb w).mono (fun v w' ⟨h1, h2⟩ => ⟨h1, by rw [h2]; exact Kept.refl _ _⟩)⟩
theorem zero_nt (w : World) : (zeroValue 3).run Tryd.prog w = .ok (.int .i64 0) w := by kernel_rfl
/-- who finds: the file, locals, labels of open lets. -/
abbrev InSt (bd bf : Nat) (sc : List Loc) (o : Sp.Lab) (more : Bool) (sa : Option Addr) (sp bo : Nat) (zs : EntsZ) : List HItem :=
  [.cell bd [ptr bf, .slice sa sc.length sp, .map (some bo), .bool more] 53, .row (.slice sa sc.length sp) 58 3 sc.length (sc.flatMap (encLi o)), .mz bo zs]
/-- where a local's let stands. -/
def AtOk (J : Imm) (v : Value) (op : Option Nat) : Prop := (v = .pointer none ∧ op = none) ∨
  ∃ (b off tc ec : Nat) (y : Sp.Stm) (ea : Option Addr) (v1 v2 : Value), v = .pointer (some ⟨b, off, none⟩) ∧ PtrI J b off tc (stCells y.kind y.name y.at_ y.label y.opn y.e ea ec v1 v2 y.fr y.to) ∧ op = Sp.opOf y.opn y.fr
theorem AtOk.le {J J' : Imm} {v : Value} {op : Option Nat} (h : AtOk J v op) (m : Le J J') : AtOk J' v op := by
  rcases h with h | ⟨b, off, tc, ec, y, ea, v1, v2, h1, h2, h3⟩
  · exact .inl h
  · exact .inr ⟨b, off, tc, ec, y, ea, v1, v2, h1, h2.le m, h3⟩
section
variable {bd bf sp bo : Nat} {sc : List Loc} {o : Sp.Lab} {more : Bool} {sa : Option Addr} {zs : EntsZ}
set_option maxHeartbeats 8000000 in
theorem i_get (nm : List UInt8) (I : Imm) (hl : sc.length ≤ 1000000000) :
    CalM Tryd.prog 25 #[ptr bd, str nm] I (InSt bd bf sc o more sa sp bo zs) (fun v _ H' =>
      (∃ i p b, sc[i]? = some p ∧ Sp.findLi (sc.map (·.1)) nm = some p.1 ∧ sa = some ⟨b, 0, none⟩ ∧ v = .pointer (some ⟨b, i * 3, none⟩) ∧ H' = InSt bd bf sc o more sa sp bo zs) ∨
      (Sp.findLi (sc.map (·.1)) nm = none ∧ ∃ bl, v = ptr bl ∧ H' = .cell bl [str [], nt 0, .pointer none] 58 :: InSt bd bf sc o more sa sp bo zs)) := by
  refine CalM.of fun w E hm => enter (N := 34) Tryd.func25 rfl [(0, ptr bd), (1, str nm)] args2 rfl ?_
  repeat' (first
  | refine m_load1 hm (k:=?_)
  | refine op_move (k:=?_)
  | refine op_assign (k:=?_)
  | refine op_len_slice (k:=?_)
  | refine op_nilCheck (k:=?_)
  | refine op_sub (k:=?_)
  | refine op_fieldAddr (k:=?_)
  | refine wl_nil ?_
  | refine at_then_normal ?_
  | refine wc_seq ?_
  | refine wc_region ?_
  | refine wc_block ?_)
  refine wc_loop (fun x : Nat => [(0, ptr bd), (1, str nm), (5, .int .i64 ((x : Int) - 1))])
    (fun x w' => Mem E I (InSt bd bf sc o more sa sp bo zs) w' ∧ x ≤ sc.length ∧ ∀ m y, x ≤ m → sc[m]? = some y → y.1.name ≠ nm) (fun x => x) sc.length (by exact ⟨rfl, rfl, rfl, trivial⟩)
    ⟨hm, Nat.le_refl _, fun m y hm hy => by rw [List.getElem?_eq_none hm] at hy; cases hy⟩ ?_
  clear hm
  rintro x w1 ⟨hm, hx, hno⟩
  try dsimp only at hm hx hno ⊢
  cases x with
  | zero =>
    repeat' (first
    | (refine m_box (d:=33) hm (k:=?_); clear hm; intro b33 _ hm)
    | refine op_move (k:=?_)
    | refine op_assign (k:=?_)
    | refine op_geq (k:=?_)
    | refine op_struct (k:=?_)
    | refine wl_nil ?_
    | refine at_then_normal ?_
    | refine at_then_exit ?_
    | refine at_block_exit ?_
    | refine wc_seq ?_
    | refine wc_region ?_
    | refine wc_exit ?_
    | refine wc_ret ?_
    | refine at_ret1 (h:=?_)
    | refine wc_cond_false (hf:=?_))
    all_goals try (exfalso; omega)
    refine ⟨I, _, .inr ⟨Sp.findLi_none fun j y hy => ?_, b33, rfl, rfl⟩, hm⟩
    rw [List.getElem?_map] at hy
    cases hs : sc[j]? with
    | none => rw [hs] at hy; cases hy
    | some p =>
      rw [hs] at hy
      obtain rfl := Option.some.inj hy
      exact hno j p (Nat.zero_le _) hs
  | succ i =>
    have hg : sc[i]? = some sc[i] := List.getElem?_eq_getElem hx
    generalize sc[i] = p at hg
    rw [show ((i + 1 : Nat) : Int) - 1 = (i : Int) by omega]
    obtain ⟨b, rfl⟩ := (hm.front 1 gt1).rowAddr (by omega)
    obtain ⟨q1, q2, q3⟩ := encLi_at (o := o) hg
    by_cases hn : p.1.name = nm
    · skip
      repeat' (first
      | (refine mi_loadRow (i := 1) (d := 23) hm (by rfl) (by rfl) (by rfl) gt1 (by rw [Nat.zero_add, Nat.add_zero]; exact q1) ?_)
      | refine m_load1 hm (k:=?_)
      | refine op_move (k:=?_)
      | refine op_assign (k:=?_)
      | refine op_geq (k:=?_)
      | refine op_eql_str (k:=?_)
      | refine op_nilCheck (k:=?_)
      | refine op_fieldAddr (k:=?_)
      | refine op_indexAddr (k:=?_)
      | refine wl_nil ?_
      | refine at_then_normal ?_
      | refine at_then_ret ?_
      | refine at_block_ret ?_
      | refine wc_seq ?_
      | refine wc_region ?_
      | refine wc_block ?_
      | refine wc_skip ?_
      | refine wc_ret ?_
      | refine at_ret1 (h:=?_)
      | refine wc_cond_true (ht:=?_)
      | (refine wc_cond_dec (ht:=fun _ => ?_) (hf:=fun _ => ?_)<;> (try first | contradiction | (exfalso; omega))))
      all_goals try (exfalso; first | omega | contradiction)
      refine ⟨I, _, .inl ⟨i, p, b, hg, Sp.findLi_at (by rw [List.getElem?_map, hg]; rfl) hn (fun j y hj hy => ?_), rfl, by rw [Nat.zero_add, Int.toNat_natCast], rfl⟩, hm⟩
      rw [List.getElem?_map] at hy
      cases hs : sc[j]? with
      | none => rw [hs] at hy; cases hy
      | some p =>
        rw [hs] at hy
        obtain rfl := Option.some.inj hy
        exact hno j p (by omega) hs
    · skip
      repeat' (first
      | (refine mi_loadRow (i := 1) (d := 23) hm (by rfl) (by rfl) (by rfl) gt1 (by rw [Nat.zero_add, Nat.add_zero]; exact q1) ?_)
      | refine m_load1 hm (k:=?_)
      | refine op_move (k:=?_)
      | refine op_assign (k:=?_)
      | refine op_geq (k:=?_)
      | refine op_eql_str (k:=?_)
      | refine op_nilCheck (k:=?_)
      | refine op_sub (k:=?_)
      | refine op_fieldAddr (k:=?_)
      | refine op_indexAddr (k:=?_)
      | refine wl_nil ?_
      | refine at_then_normal ?_
      | refine at_block_normal ?_
      | refine wc_seq ?_
      | refine wc_region ?_
      | refine wc_block ?_
      | refine wc_skip ?_
      | refine wc_cond_true (ht:=?_)
      | (refine wc_cond_dec (ht:=fun _ => ?_) (hf:=fun _ => ?_)<;> (try first | contradiction | (exfalso; omega))))
      all_goals try (exfalso; first | omega | contradiction)
      refine at_round (i : Nat) (by exact ⟨rfl, rfl, rfl, trivial⟩) ⟨hm, by omega, fun m y hm hy => ?_⟩ (by omega)
      rcases Nat.lt_or_ge i m with h | h
      · exact hno m y h hy
      · obtain rfl : m = i := by omega
        rw [hg] at hy
        obtain rfl := Option.some.inj hy
        exact hn
set_option maxHeartbeats 16000000 in
theorem i_raise (I : Imm) (v : Value) (op : Option Nat) (o1 : Sp.Lab) (a : Nat) (ha : a < 256) (hv : AtOk I v op) (hz : OpenZ zs o1) (ho : ∀ f, o1 f < 256) :
    CalM Tryd.prog 24 #[ptr bd, v, nt a] I (InSt bd bf sc o more sa sp bo zs) (fun u _ H' => u = .tuple #[] ∧ ∃ zs', OpenZ zs' (Sp.raiseO (o1, more) op a).1 ∧ H' = InSt bd bf sc o (Sp.raiseO (o1, more) op a).2 sa sp bo zs') := by
  refine CalM.of fun w E hm => enter (N := 52) Tryd.func24 rfl [(0, ptr bd), (1, v), (2, nt a)] args3 rfl ?_
  rcases hv with ⟨rfl, rfl⟩ | ⟨b, off, tc, ec, y, ea, v1, v2, rfl, hp, rfl⟩
  · skip
    repeat' (first
    | (refine op_eql_nilptr (e := 43) (by kernel_rfl) (by rfl) (by rfl) (by rfl) (by rfl) ?_)
    | refine op_move (k:=?_)
    | refine op_pick_true (k:=?_)
    | refine wl_skip (k:=?_)
    | refine wl_nil ?_
    | refine at_then_normal ?_
    | refine at_then_ret ?_
    | refine wc_seq ?_
    | refine wc_region ?_
    | refine wc_ret ?_
    | refine at_ret0 (h:=?_)
    | refine wc_cond_true (ht:=?_))
    all_goals try (exfalso; first | omega | contradiction)
    exact ⟨I, _, ⟨rfl, zs, hz, rfl⟩, hm⟩
  · cases hop : y.opn with
    | false =>
      rw [hop] at hp
      repeat' (first
      | (refine op_eql_nilptr (e := 43) (by kernel_rfl) (by rfl) (by rfl) (by rfl) (by rfl) ?_)
      | refine i_load1 hm (k:=?_)
      | refine op_move (k:=?_)
      | refine op_pick_false (k:=?_)
      | refine op_not (k:=?_)
      | refine op_nilCheck (k:=?_)
      | refine op_fieldAddr (k:=?_)
      | refine wl_nil ?_
      | refine at_then_normal ?_
      | refine at_then_ret ?_
      | refine wc_seq ?_
      | refine wc_region ?_
      | refine wc_ret ?_
      | refine at_ret0 (h:=?_)
      | refine wc_cond_true (ht:=?_))
      all_goals try (exfalso; first | omega | contradiction)
      exact ⟨I, _, ⟨rfl, zs, hz, rfl⟩, hm⟩
    | true =>
      rw [hop] at hp
      have hlk := hz.get y.fr
      have hj := joinA I (o1 y.fr) a (ho _) ha
      have hqe : Sp.raiseO (o1, more) (Sp.opOf true y.fr) a = Sp.raiseI (o1, more) y.fr a := rfl
      rw [hqe]
      obtain ⟨n1, hn1⟩ : ∃ n1, n1 = o1 y.fr ||| a := ⟨_, rfl⟩
      rw [← hn1] at hj
      by_cases heq : n1 = o1 y.fr
      · have hr : Sp.raiseI (o1, more) y.fr a = (o1, more) := by rw [Sp.raiseI, if_pos (by rw [← hn1]; exact heq)]
        rw [hr]
        repeat' (first
        | (refine op_eql_nilptr (e := 43) (by kernel_rfl) (by rfl) (by rfl) (by rfl) (by rfl) ?_)
        | (refine wc_semi_memL (id:=1) (hm.perm pm0) [0,1,2,3,4,5,6,7,8,9] [10] 11 (h:=?_); clear hm; intro wd hR hm)
        | (refine mw_lookupZ (d := 24) hR (by rfl) (by rfl) (by rfl) (by rfl) gt2 zero_nt ?_; rw [hlk])
        | (refine mt_readR (d:=26) hR hm (hc:=hj) (k:=?_); clear hm; intro _ hm)
        | (refine wc_quiet_tail (id:=2) 10 (h:=?_))
        | (refine mq_lookupZ (d := 36) hm (by rfl) (by rfl) (by rfl) (by rfl) gt2 zero_nt ?_; rw [hlk])
        | refine mw_load1 hR (k:=?_)
        | refine iw_load1 hR (k:=?_)
        | (refine ws_nil ?_; replace hm := hR.back hm; clear hR; try simp only [setn] at hm)
        | refine i_load1 hm (k:=?_)
        | refine mq_load1 hm (k:=?_)
        | refine iq_load1 hm (k:=?_)
        | refine op_move (k:=?_)
        | refine op_assign (k:=?_)
        | refine op_pick_false (k:=?_)
        | refine op_neq (k:=?_)
        | refine op_not (k:=?_)
        | refine op_nilCheck (k:=?_)
        | refine op_fieldAddr (k:=?_)
        | refine wl_nil ?_
        | refine at_then_normal ?_
        | refine wc_seq ?_
        | refine wc_region ?_
        | refine wc_skip ?_
        | refine at_end0 (h:=?_)
        | (refine wq_nil_tail ?_; intro _ hkq; replace hm := hm.kept0 hkq; clear hkq)
        | refine wc_cond_false (hf:=?_)
        | (refine wc_cond_dec (ht:=fun _ => ?_) (hf:=fun _ => ?_)<;> (try first | contradiction | (exfalso; omega)))
        | refine q_move (k:=?_)
        | refine q_nilCheck (k:=?_)
        | refine q_fieldAddr (k:=?_)
        | refine v_move (k:=?_)
        | refine v_nilCheck (k:=?_)
        | refine v_fieldAddr (k:=?_)
        | refine wv_nil ?_)
        all_goals try (exfalso; first | omega | contradiction)
        exact ⟨I, _, ⟨rfl, zs, hz, rfl⟩, hm⟩
      · have hr : Sp.raiseI (o1, more) y.fr a = (Sp.upL o1 y.fr n1, true) := by rw [Sp.raiseI, if_neg (by rw [← hn1]; exact heq), hn1]
        rw [hr]
        repeat' (first
        | (refine op_eql_nilptr (e := 43) (by kernel_rfl) (by rfl) (by rfl) (by rfl) (by rfl) ?_)
        | (refine wc_semi_memL (id:=1) (hm.perm pm0) [0,1,2,3,4,5,6,7,8,9] [10] 11 (h:=?_); clear hm; intro wd hR hm)
        | (refine wc_fork_mem (id:=3) (hm.perm pm1_2) [0,1,2,3,4,5,6,7,8,9] 13 (h:=?_); clear hm; intro wd hR hm)
        | (refine mw_lookupZ (d := 24) hR (by rfl) (by rfl) (by rfl) (by rfl) gt2 zero_nt ?_; rw [hlk])
        | (refine mt_readR (d:=26) hR hm (hc:=hj) (k:=?_); clear hm; intro _ hm)
        | (refine wc_quiet_tail (id:=2) 10 (h:=?_))
        | (refine mq_lookupZ (d := 36) hm (by rfl) (by rfl) (by rfl) (by rfl) gt2 zero_nt ?_; rw [hlk])
        | (refine mu_mapEntryZ (d := 48) hm (by rfl) (by rfl) (by rfl) (by rfl) gt0 hz.nodup zero_nt ?_; clear hm; intro es1 j1 u1 _ hj1 hp1 hm; try simp only [setn] at hm)
        | (refine wu_extract (d := 49) hm.kept (by rfl) (by rfl) (by rfl) (by rfl) ?_)
        | (refine mu_entryStoreZ hm (by rfl) (by rfl) (by rfl) (by rfl) (by rfl) gt0 hj1 hp1 ?_; clear hm; intro _ hm; try simp only [setn] at hm)
        | (refine wa_one (i:=10) (by decide +kernel) (h:=?_))
        | (refine wa_one (i:=11) (by decide +kernel) (h:=?_))
        | (refine wa_one (i:=12) (by decide +kernel) (h:=?_))
        | (refine wa_nil (by decide +kernel) ?_; replace hm := hR.back hm; clear hR; try simp only [setn] at hm)
        | refine mw_load1 hR (k:=?_)
        | refine iw_load1 hR (k:=?_)
        | (refine ws_nil ?_; replace hm := hR.back hm; clear hR; try simp only [setn] at hm)
        | refine wv_nilA ?_
        | refine i_load1 hm (k:=?_)
        | refine mq_load1 hm (k:=?_)
        | refine iq_load1 hm (k:=?_)
        | (refine m_store1 hm (k:=?_); clear hm; intro _ hm; try simp only [setn] at hm)
        | refine op_move (k:=?_)
        | refine op_assign (k:=?_)
        | refine op_pick_false (k:=?_)
        | refine op_neq (k:=?_)
        | refine op_not (k:=?_)
        | refine op_nilCheck (k:=?_)
        | refine op_fieldAddr (k:=?_)
        | refine wl_nil ?_
        | refine at_then_normal ?_
        | refine wc_seq ?_
        | refine wc_region ?_
        | refine wc_skip ?_
        | refine at_end0 (h:=?_)
        | (refine wq_nil_tail ?_; intro _ hkq; replace hm := hm.kept0 hkq; clear hkq)
        | refine wc_cond_false (hf:=?_)
        | (refine wc_cond_dec (ht:=fun _ => ?_) (hf:=fun _ => ?_)<;> (try first | contradiction | (exfalso; omega)))
        | refine q_move (k:=?_)
        | refine q_nilCheck (k:=?_)
        | refine q_fieldAddr (k:=?_)
        | refine v_move (k:=?_)
        | refine v_nilCheck (k:=?_)
        | refine v_fieldAddr (k:=?_)
        | refine wv_nil ?_)
        all_goals try (exfalso; first | omega | contradiction)
        exact ⟨I, _, ⟨rfl, _, hz.put y.fr n1, rfl⟩, hm.perm pmIn⟩
end
end Go.Proofs.YthmdffgiockcbaaDoor
end
section
namespace Go.Sp
theorem getF_of (o : Lab) (sc : List Li) (n : List UInt8) : getF (lcOf o sc) n = (match findLi sc n with | some l => l.val o | none => 0) := by
  rw [getF, findLc_of]
  cases findLi sc n <;> rfl
theorem plainI_eq (its : List Itm) (sc : List Lc) (e : Ex) : plainF its sc e = if e.kind = 2 then getF sc e.name else if e.kind = 3 then plainsF its sc e.args 0 else if e.kind = 4 then callLab its e.name else 0 := by
  cases e; rw [plainF]; rfl
end Go.Sp
namespace Go.Proofs.YthmdffgiockcbaaDoor
open Go.Fw
structure InE where
  k : Nat
  I : Imm
section
variable {bd bf sp bo : Nat} {sc : List Loc} {o : Sp.Lab} {more : Bool} {sa : Option Addr} {zs : EntsZ} {its : List Sp.Itm} {a : Option Addr} {cp : Nat} {xs : List Value}
set_option maxHeartbeats 16000000 in
theorem i_expr (hlab : Sp.itLab its) (hsl : Sp.scLab (Sp.lcOf o (sc.map (·.1)))) (hl : sc.length ≤ 1000000000) : ∀ (n : Nat) (e : Sp.Ex), SizeOf.sizeOf e ≤ n → e.small → ∀ (I : Imm) (b off tc : Nat) (ea : Option Addr) (ec : Nat) (ys : List Value),
    FE I its a cp xs → PtrI I bf 0 25 [.slice a its.length cp] → PtrI I b off tc (exCells e ea ec) → RowI I 41 6 (.slice ea e.args.length ec) e.args.length ys → ExsAt I e.args ys →
    CalM Tryd.prog 23 #[ptr bd, .pointer (some ⟨b, off, none⟩)] I (InSt bd bf sc o more sa sp bo zs) (fun v _ H' => v = nt (Sp.plainF its (Sp.lcOf o (sc.map (·.1))) e) ∧ H' = InSt bd bf sc o more sa sp bo zs) := by
  intro n
  induction n with
  | zero => intro e h; cases e; simp at h
  | succ n ih =>
  intro e hsz hsm I b off tc ea ec ys hfe hpf hp hr hx
  obtain ⟨hal, hasm⟩ := Sp.small_args hsm
  have hfew := hfe.few
  refine CalM.of fun w E hm => enter (N := 71) Tryd.func23 rfl [(0, ptr bd), (1, .pointer (some ⟨b, off, none⟩))] args2 rfl ?_
  rw [Sp.plainI_eq]
  by_cases k2 : e.kind = 2
  · rw [if_pos k2, Sp.getF_of]
    have hG := i_get (bd := bd) (bf := bf) (sc := sc) (o := o) (more := more) (sa := sa) (sp := sp) (bo := bo) (zs := zs) e.name I hl
    repeat' (first
    | (refine m_call (d:=19) hm (hp:=pm3_0) (hc:=hG) (k:=?_); clear hm; rintro _ I2 _ w9 (⟨i, p, b2, hgi, hfl, rfl, rfl, rfl⟩ | ⟨hfl, bl, rfl, rfl⟩) hleI2 hm)
    | (refine mi_loadRow (i := 1) (d := 22) hm (by rfl) (by rfl) (by rfl) gt1 (by exact (encLi_at (o := o) hgi).2.1) ?_)
    | refine m_load1 hm (k:=?_)
    | refine i_load1 hm (k:=?_)
    | refine op_move (k:=?_)
    | refine op_assign (k:=?_)
    | refine op_eql (k:=?_)
    | refine op_nilCheck (k:=?_)
    | refine op_fieldAddr (k:=?_)
    | refine wl_nil ?_
    | refine at_then_normal ?_
    | refine at_block_normal ?_
    | refine wc_seq ?_
    | refine wc_region ?_
    | refine wc_block ?_
    | refine wc_ret ?_
    | refine at_ret1 (h:=?_)
    | (refine wc_cond_dec (ht:=fun _ => ?_) (hf:=fun _ => ?_)<;> (try first | contradiction | (exfalso; omega))))
    all_goals try (exfalso; omega)
    all_goals rw [hfl]
    · exact ⟨I2, _, ⟨rfl, rfl⟩, hm⟩
    · exact ⟨I2, _, ⟨rfl, rfl⟩, Mem.tl hm⟩
  rw [if_neg k2]
  by_cases k3 : e.kind = 3
  · rw [if_pos k3]
    repeat' (first
    | refine i_load1 hm (k:=?_)
    | refine op_move (k:=?_)
    | refine op_assign (k:=?_)
    | refine op_eql (k:=?_)
    | refine op_len_slice (k:=?_)
    | refine op_nilCheck (k:=?_)
    | refine op_fieldAddr (k:=?_)
    | refine wl_nil ?_
    | refine at_then_normal ?_
    | refine wc_seq ?_
    | refine wc_region ?_
    | refine wc_block ?_
    | (refine wc_cond_dec (ht:=fun _ => ?_) (hf:=fun _ => ?_)<;> (try first | contradiction | (exfalso; omega))))
    all_goals try (exfalso; omega)
    refine wc_loop (fun x : InE => [(0, ptr bd), (1, .pointer (some ⟨b, off, none⟩)), (5, nt (Sp.plainsF its (Sp.lcOf o (sc.map (·.1))) (e.args.take x.k) 0)), (29, nt e.args.length), (30, nt x.k)])
      (fun x w' => Mem E x.I (InSt bd bf sc o more sa sp bo zs) w' ∧ Le I x.I ∧ x.k ≤ e.args.length) (fun x => e.args.length - x.k) ⟨0, I⟩
      (by dsimp only; rw [List.take_zero, Sp.plainsF]; exact ⟨rfl, rfl, rfl, rfl, rfl, trivial⟩) ⟨hm, Le.refl _, Nat.zero_le _⟩ ?_
    clear hm
    rintro ⟨k, I2⟩ w2 ⟨hm, hle2, hk⟩
    dsimp only at hm hle2 hk ⊢
    have hp2 := hp.le hle2
    have hrow := hr.le hle2
    have hlt1 := Sp.plainsF_lt hlab hsl (e.args.take k) 0 (by omega)
    by_cases hlt : k < e.args.length
    · have hg : e.args[k]? = some e.args[k] := List.getElem?_eq_getElem hlt
      have hsz2 := Sp.size_args (List.getElem_mem hlt)
      have hsm2 := Sp.exsSmall_get hasm hg
      obtain ⟨ea2, ec2, ys2, hc2, hr2, hx2⟩ := (hx.get hg).out
      have hst := Sp.plainsF_step its (Sp.lcOf o (sc.map (·.1))) hg 0
      generalize e.args[k] = y at hg hsz2 hsm2 hc2 hr2 hx2 hst
      have hlt2 := Sp.plainF_lt hlab hsl y
      have hc := fun (b3 o3 : Nat) (hp3 : PtrI I2 b3 o3 41 (exCells y ea2 ec2)) => ih y (by omega) hsm2 I2 b3 o3 41 ea2 ec2 ys2 (hfe.le hle2) (hpf.le hle2) hp3 (hr2.le hle2) (ExsAt.le hle2 _ _ hx2)
      generalize Sp.plainF its (Sp.lcOf o (sc.map (·.1))) y = ny at hc hst hlt2
      generalize Sp.plainsF its (Sp.lcOf o (sc.map (·.1))) (e.args.take k) 0 = nk at hst hlt1 ⊢
      have hJ := fun (J : Imm) => joinA J nk ny hlt1 hlt2
      repeat' (first
      | (refine i_indexAddr (d:=40) (hr:=hrow) (k:=?_); intro bt ot hpt; rw [show ((k : Int).toNat * 6) = k * 6 from rfl, hc2] at hpt)
      | (refine m_call (d:=41) hm (hp:=pm3_0) (hc:=hc bt ot hpt) (k:=?_); clear hm; rintro _ I3 _ _ ⟨rfl, rfl⟩ hleI3 hm; try simp only [setn] at hm)
      | (refine m_readC (d:=42) hm (hc:=hJ _) (k:=?_); clear hm; intro _ hm)
      | refine i_load1 hm (k:=?_)
      | refine op_move (k:=?_)
      | refine op_assign (k:=?_)
      | refine op_lss (k:=?_)
      | refine op_nilCheck (k:=?_)
      | refine op_add (k:=?_)
      | refine op_fieldAddr (k:=?_)
      | refine wl_nil ?_
      | refine at_then_normal ?_
      | refine at_block_normal ?_
      | refine wc_seq ?_
      | refine wc_region ?_
      | refine wc_block ?_
      | refine wc_skip ?_
      | (refine wc_cond_dec (ht:=fun _ => ?_) (hf:=fun _ => ?_)<;> (try first | contradiction | (exfalso; omega))))
      all_goals try (exfalso; omega)
      rw [← hst]
      exact at_round (⟨k + 1, I3⟩ : InE) (by exact ⟨rfl, rfl, rfl, rfl, rfl, trivial⟩) ⟨hm, hle2.trans hleI3, by dsimp only; omega⟩ (by dsimp only; omega)
    · obtain rfl : k = e.args.length := by omega
      rw [List.take_length]
      repeat' (first
      | refine op_move (k:=?_)
      | refine op_assign (k:=?_)
      | refine op_lss (k:=?_)
      | refine wl_nil ?_
      | refine at_then_normal ?_
      | refine at_then_exit ?_
      | refine at_block_normal ?_
      | refine at_block_exit ?_
      | refine wc_seq ?_
      | refine wc_region ?_
      | refine wc_exit ?_
      | refine wc_ret ?_
      | refine at_ret1 (h:=?_)
      | (refine wc_cond_dec (ht:=fun _ => ?_) (hf:=fun _ => ?_)<;> (try first | contradiction | (exfalso; omega))))
      all_goals try (exfalso; omega)
      exact ⟨I2, _, ⟨rfl, rfl⟩, hm⟩
  rw [if_neg k3]
  by_cases k4 : e.kind = 4
  · rw [if_pos k4, Sp.callLab]
    have hF := n_find 2 e.name its I a cp xs hfe
    have hri := hfe.row
    cases hf : Sp.findIt its 2 e.name with
    | some j =>
      rw [show Sp.findV its 2 e.name = (j : Int) by rw [Sp.findV, hf]] at hF
      obtain ⟨hjl, _⟩ := Sp.findIt_lt hf
      have hg : its[j]? = some its[j] := List.getElem?_eq_getElem hjl
      have hno : Sp.itNo its j = its[j] := by rw [Sp.itNo, List.getD_eq_getElem?_getD, hg]; rfl
      obtain ⟨cs, hcs, hat, hl10⟩ := hfe.get hg
      dsimp only
      rw [hno]
      generalize its[j] = it at hg hat
      obtain ⟨ap, cp', as_, cs', ab, cb', ad, cd, xb, rfl, _⟩ := hat
      repeat' (first
      | (refine wc_semi_memL (id:=12) (hm.perm pm0) [0,1,2,3,4,5,6,7,8,9] [10] 11 (h:=?_); clear hm; intro wd hR hm)
      | (refine iw_loadN (d:=51) hR (hp:=hpf) (k:=?_))
      | (refine mt_call (d:=56) hm (hc:=hF) (k:=?_); clear hm; rintro _ I2 _ _ ⟨rfl, rfl⟩ hle hm; have hleI2 := hle; try simp only [setn] at hm)
      | (refine i_indexAddr (d:=67) (hr:=hri.le hleI2) (k:=?_); intro bt ot hpt; rw [show ((j : Int).toNat * 10) = j * 10 from rfl, hcs] at hpt)
      | (refine i_load1z (d:=65) hm (hp:=hpf.le hleI2) (k:=?_))
      | refine mw_load1 hR (k:=?_)
      | refine iw_load1 hR (k:=?_)
      | (refine ws_nil ?_; replace hm := hR.back hm; clear hR; try simp only [setn] at hm)
      | refine m_load1 hm (k:=?_)
      | refine i_load1 hm (k:=?_)
      | refine op_move (k:=?_)
      | refine op_assign (k:=?_)
      | refine op_geq (k:=?_)
      | refine op_eql (k:=?_)
      | refine op_nilCheck (k:=?_)
      | refine op_fieldAddr (k:=?_)
      | refine wl_nil ?_
      | refine at_then_normal ?_
      | refine at_block_normal ?_
      | refine wc_seq ?_
      | refine wc_region ?_
      | refine wc_block ?_
      | refine wc_ret ?_
      | refine at_ret1 (h:=?_)
      | refine wc_cond_true (ht:=?_)
      | (refine wc_cond_dec (ht:=fun _ => ?_) (hf:=fun _ => ?_)<;> (try first | contradiction | (exfalso; omega)))
      | refine v_move (k:=?_)
      | refine v_nilCheck (k:=?_)
      | refine v_fieldAddr (k:=?_)
      | refine wv_nil ?_)
      all_goals try (exfalso; first | omega | contradiction)
      exact ⟨I2, _, ⟨rfl, rfl⟩, hm⟩
    | none =>
      rw [show Sp.findV its 2 e.name = -1 by rw [Sp.findV, hf]] at hF
      repeat' (first
      | (refine wc_semi_memL (id:=12) (hm.perm pm0) [0,1,2,3,4,5,6,7,8,9] [10] 11 (h:=?_); clear hm; intro wd hR hm)
      | (refine iw_loadN (d:=51) hR (hp:=hpf) (k:=?_))
      | (refine mt_call (d:=56) hm (hc:=hF) (k:=?_); clear hm; rintro _ I2 _ _ ⟨rfl, rfl⟩ hle hm; have hleI2 := hle; try simp only [setn] at hm)
      | refine mw_load1 hR (k:=?_)
      | refine iw_load1 hR (k:=?_)
      | (refine ws_nil ?_; replace hm := hR.back hm; clear hR; try simp only [setn] at hm)
      | refine i_load1 hm (k:=?_)
      | refine op_move (k:=?_)
      | refine op_assign (k:=?_)
      | refine op_geq (k:=?_)
      | refine op_eql (k:=?_)
      | refine op_nilCheck (k:=?_)
      | refine op_fieldAddr (k:=?_)
      | refine wl_nil ?_
      | refine at_then_normal ?_
      | refine at_block_normal ?_
      | refine wc_seq ?_
      | refine wc_region ?_
      | refine wc_block ?_
      | refine wc_skip ?_
      | refine wc_ret ?_
      | refine at_ret1 (h:=?_)
      | refine wc_cond_false (hf:=?_)
      | (refine wc_cond_dec (ht:=fun _ => ?_) (hf:=fun _ => ?_)<;> (try first | contradiction | (exfalso; omega)))
      | refine v_move (k:=?_)
      | refine v_nilCheck (k:=?_)
      | refine v_fieldAddr (k:=?_)
      | refine wv_nil ?_)
      all_goals try (exfalso; first | omega | contradiction)
      exact ⟨I2, _, ⟨rfl, rfl⟩, hm⟩
  · rw [if_neg k4]
    repeat' (first
    | refine i_load1 hm (k:=?_)
    | refine op_move (k:=?_)
    | refine op_assign (k:=?_)
    | refine op_eql (k:=?_)
    | refine op_nilCheck (k:=?_)
    | refine op_fieldAddr (k:=?_)
    | refine wl_nil ?_
    | refine at_then_normal ?_
    | refine at_block_normal ?_
    | refine wc_seq ?_
    | refine wc_region ?_
    | refine wc_block ?_
    | refine wc_skip ?_
    | refine wc_ret ?_
    | refine at_ret1 (h:=?_)
    | (refine wc_cond_dec (ht:=fun _ => ?_) (hf:=fun _ => ?_)<;> (try first | contradiction | (exfalso; omega))))
    all_goals try (exfalso; omega)
    exact ⟨I, _, ⟨rfl, rfl⟩, hm⟩
end
end Go.Proofs.YthmdffgiockcbaaDoor
end
