/- Own work: texts RFind, InfF, one behind the other. -/
import Derived.Test.YtjfkjpbkmpofkaaIt18
section
namespace Go.Proofs.Ytjfkjpbkmpofkaa
open Go.Fw
theorem zero_num (w : World) : (zeroValue 3).run Try.prog w = .ok (.int .i64 0) w := by kernel_rfl
set_option maxHeartbeats 4000000 in
theorem r_find (k : Int) (n : List UInt8) (its : List Sp.Itm) (I : Imm) (a : Option Addr) (cp : Nat) (xs : List Value) (h : FE I its a cp xs) :
    CalM Try.prog 30 #[.agg [.slice a its.length cp].toArray, .int .i64 k, str n] I [] (fun v _ H' => v = .int .i64 (Sp.findV its k n) ∧ H' = []) := by
  refine CalM.of fun w E hm => enter (N := 33) Try.func30 rfl [(0, .agg [.slice a its.length cp].toArray), (1, .int .i64 k), (2, str n)] args3 rfl ?_
  have hfew := h.few
  repeat' (first
  | (refine m_box (d:=3) hm (k:=?_); clear hm; intro b3 _ hm)
  | refine m_load1 hm (k:=?_)
  | refine op_move (k:=?_)
  | refine op_assign (k:=?_)
  | refine op_len_slice (k:=?_)
  | refine op_fieldAddr (k:=?_)
  | refine wl_nil ?_
  | refine at_then_normal ?_
  | refine wc_seq ?_
  | refine wc_region ?_
  | refine wc_block ?_)
  refine wc_loop (fun x : Nat => [(1, .int .i64 k), (2, str n), (10, .slice a its.length cp), (11, nt its.length), (12, nt x)])
    (fun x w' => Mem E I [] w' ∧ x ≤ its.length ∧ ∀ j it', j < x → its[j]? = some it' → Sp.itIs k n it' = false) (fun x => its.length - x) 0 (by exact ⟨rfl, rfl, rfl, rfl, rfl, trivial⟩) ⟨hm.tl, Nat.zero_le _, fun j _ hj => absurd hj (Nat.not_lt_zero j)⟩ ?_
  clear hm
  rintro x w1 ⟨hm, hk, hno⟩
  try dsimp only at hm hk hno ⊢
  by_cases hlt : x < its.length
  · have hg : its[x]? = some its[x] := List.getElem?_eq_getElem hlt
    obtain ⟨cs, hcs, hat, hl10⟩ := h.get hg
    have hri := h.row
    generalize its[x] = it at hg hat
    obtain ⟨pa, pc, sa9, sc9, ba, bc9, da9, dc9, xb, rfl, _⟩ := hat
    cases hb : Sp.itIs k n it with
    | true =>
      have hb2 := hb
      simp only [Sp.itIs, Bool.and_eq_true, decide_eq_true_eq] at hb2
      obtain ⟨e1, e2, e3⟩ := hb2
      repeat' (first
      | (refine i_indexAddr (d:=15) (hr:=hri) (k:=?_); intro bt ot hpt; rw [show ((x : Int).toNat * 10) = x * 10 from rfl, hcs] at hpt)
      | (refine i_loadN (d:=16) hm (hp:=hpt) (k:=?_))
      | (refine m_allocS (d:=8) hm (k:=?_); clear hm; intro b8 _ hm)
      | refine m_load1 hm (k:=?_)
      | (refine m_storeAll hm (k:=?_); clear hm; intro _ hm; try simp only [setn] at hm)
      | refine op_move (k:=?_)
      | refine op_assign (k:=?_)
      | refine op_pick_true (k:=?_)
      | refine op_lss (k:=?_)
      | refine op_eql (k:=?_)
      | refine op_eql_str (k:=?_)
      | refine op_neq_str (k:=?_)
      | refine op_fieldAddr (k:=?_)
      | (refine wl_split_dec (h1:=fun _ => ?_) (h0:=fun _ => ?_)<;> (try first | contradiction | (exfalso; omega)))
      | refine wl_nil ?_
      | refine at_then_normal ?_
      | refine at_then_ret ?_
      | refine at_block_ret ?_
      | refine wc_seq ?_
      | refine wc_region ?_
      | refine wc_block ?_
      | refine wc_skip ?_
      | refine wc_ret ?_
      | refine at_ret1 (h:=?_)
      | (refine wc_cond_dec (ht:=fun _ => ?_) (hf:=fun _ => ?_)<;> (try first | contradiction | (exfalso; omega))))
      all_goals try (exfalso; first | omega | contradiction)
      exact ⟨I, [], ⟨by rw [show Sp.findV its k n = Sp.idxV (Sp.itIs k n) its from rfl, Sp.idxV_at hg hb hno], rfl⟩, hm.left (H := [])⟩
    | false =>
      have hne : n ≠ [] → (it.kind : Int) = k → it.name ≠ n := fun e3 e1 e2 => by
        rw [Sp.itIs, decide_eq_true e1, decide_eq_true e2, decide_eq_true e3] at hb
        cases hb
      repeat' (first
      | (refine i_indexAddr (d:=15) (hr:=hri) (k:=?_); intro bt ot hpt; rw [show ((x : Int).toNat * 10) = x * 10 from rfl, hcs] at hpt)
      | (refine i_loadN (d:=16) hm (hp:=hpt) (k:=?_))
      | (refine m_allocS (d:=8) hm (k:=?_); clear hm; intro b8 _ hm)
      | refine m_load1 hm (k:=?_)
      | (refine m_storeAll hm (k:=?_); clear hm; intro _ hm; try simp only [setn] at hm)
      | refine op_move (k:=?_)
      | refine op_assign (k:=?_)
      | refine op_pick_true (k:=?_)
      | refine op_pick_false (k:=?_)
      | refine op_lss (k:=?_)
      | refine op_eql (k:=?_)
      | refine op_eql_str (k:=?_)
      | refine op_neq_str (k:=?_)
      | refine op_add (k:=?_)
      | refine op_fieldAddr (k:=?_)
      | refine wl_skip (k:=?_)
      | (refine wl_split_dec (h1:=fun _ => ?_) (h0:=fun _ => ?_)<;> (try first | contradiction | (exfalso; omega)))
      | refine wl_nil ?_
      | refine at_then_normal ?_
      | refine at_then_ret ?_
      | refine at_block_normal ?_
      | refine at_block_ret ?_
      | refine wc_seq ?_
      | refine wc_region ?_
      | refine wc_block ?_
      | refine wc_skip ?_
      | refine wc_ret ?_
      | refine at_ret1 (h:=?_)
      | refine wc_cond_false (hf:=?_)
      | (refine wc_cond_dec (ht:=fun _ => ?_) (hf:=fun _ => ?_)<;> (try first | contradiction | (exfalso; omega))))
      all_goals try (exfalso; first | omega | contradiction | exact hne (by assumption) (by assumption) (by assumption))
      all_goals refine at_round (x + 1 : Nat) (by exact ⟨rfl, rfl, rfl, rfl, rfl, trivial⟩) ⟨hm.right (H := [_]), by omega, fun j it' hj hg' => ?_⟩ (by omega)
      all_goals
        rcases Nat.lt_or_ge j x with hjk | hjk
        · exact hno j it' hjk hg'
        · obtain rfl : j = x := by omega
          rw [hg] at hg'
          obtain rfl := Option.some.inj hg'
          exact hb
  · obtain rfl : x = its.length := by omega
    repeat' (first
    | refine op_assign (k:=?_)
    | refine op_lss (k:=?_)
    | refine wl_nil ?_
    | refine at_then_normal ?_
    | refine at_then_exit ?_
    | refine at_block_exit ?_
    | refine wc_seq ?_
    | refine wc_region ?_
    | refine wc_exit ?_
    | refine wc_ret ?_
    | refine at_ret1 (h:=?_)
    | (refine wc_cond_dec (ht:=fun _ => ?_) (hf:=fun _ => ?_)<;> (try first | contradiction | (exfalso; omega))))
    all_goals try (exfalso; omega)
    exact ⟨I, [], ⟨by rw [show Sp.findV its k n = Sp.idxV (Sp.itIs k n) its from rfl, Sp.idxV_none hno], rfl⟩, hm.left (H := [])⟩
end Go.Proofs.Ytjfkjpbkmpofkaa
end
section
namespace Go.Sp
def Li.pos (l : Li) : Int := match l.op with
  | none => -1
  | some f => f
def Li.pre (l : Li) : Nat := match l.op with
  | none => l.lab
  | some _ => 0
end Go.Sp
namespace Go.Proofs.Ytjfkjpbkmpofkaa
open Go.Fw
theorem bothI (I : Imm) (a b : Nat) (ha : a < 256) (hb : b < 256) : CalR Try.prog 50 #[nt a, nt b, .bool false] I [] (nt (a ||| b)) :=
  ⟨fun w _ _ => by have h := c_both a b false ha hb w; rw [both_or a b ha hb] at h; exact h⟩
abbrev encEv (l : Sp.Li) : Value := .agg [.int .i64 l.pos, nt l.pre].toArray
/-- locals in a map: where their lets stand, or their labels. -/
def EvAt (sc : List Sp.Li) (es : Ents) : Prop := ∀ n, mget es n = (Sp.findLi sc n).map encEv
abbrev ev0 : Value := .agg [.int .i64 0, .int .i64 0].toArray
theorem zero_arr (w : World) : (zeroValue 68).run Try.prog w = .ok ev0 w := by kernel_rfl
theorem EvAt.look {sc : List Sp.Li} {es : Ents} (h : EvAt sc es) (n : List UInt8) : mlook es n ev0 = (match Sp.findLi sc n with | some l => encEv l | none => ev0) := by
  show (mget es n).getD _ = _
  rw [h]
  cases Sp.findLi sc n <;> rfl
theorem EvAt.put {sc : List Sp.Li} {es : Ents} (h : EvAt sc es) (hn : (es.map (·.1)).Nodup) (l : Sp.Li) {nm : List UInt8} (hl : l.name = nm) : EvAt (sc ++ [l]) (mput es nm (encEv l)) := fun m => by
  rw [mget_mput m hn, Sp.findLi_snoc, h]
  by_cases e : m = nm
  · subst e; rw [if_pos rfl, if_pos hl]; rfl
  · rw [if_neg e, if_neg (fun h => e (by rw [← hl]; exact h.symm))]
/-- labels of lets, none of them ahead of the text. -/
structure OpenN (zs : EntsZ) (o : Sp.Lab) : Prop extends OpenZ zs o where
  neg : mlookZ zs (-1) (.int .i64 0) = nt 0
theorem OpenN.nil : OpenN [] (fun _ => 0) := ⟨OpenZ.nil, rfl⟩
theorem OpenN.put {zs : EntsZ} {o : Sp.Lab} (h : OpenN zs o) (f n : Nat) : OpenN (mputZ zs (f : Int) (nt n)) (Sp.upL o f n) := by
  refine ⟨h.toOpenZ.put f n, ?_⟩
  have hg := h.neg
  show (mgetZ (mputZ zs (f : Int) (nt n)) (-1)).getD _ = _
  rw [mget_mputZ _ h.nodup, if_neg (by omega)]
  exact hg
/-- who tries labels: the file, labels of open lets. -/
abbrev TgSt (bt : Nat) (a : Option Addr) (n cp : Nat) (more : Bool) (bo : Nat) (zs : EntsZ) : List HItem := [.cell bt [.slice a n cp, .map (some bo), .bool more] 66, .mz bo zs]
section
variable {bt bo : Nat} {its : List Sp.Itm} {a : Option Addr} {cp : Nat} {xs : List Value}
set_option maxHeartbeats 16000000 in
theorem g_raise (op : Option Nat) (n : Nat) (hn : n < 256) (p : Sp.LP) (zs : EntsZ) (hz : OpenN zs p.1) (hp : Sp.okL p) (I : Imm) :
    CalM Try.prog 52 #[ptr bt, .int .i64 (match op with | none => -1 | some f => (f : Int)), nt n] I (TgSt bt a its.length cp p.2 bo zs) (fun v _ H' => v = .tuple #[] ∧ ∃ zs', OpenN zs' (Sp.raiseO p op n).1 ∧ H' = TgSt bt a its.length cp (Sp.raiseO p op n).2 bo zs') := by
  cases op with
  | none =>
    refine CalM.of fun w E hm => enter (N := 36) Try.func52 rfl [(0, ptr bt), (1, .int .i64 (-1)), (2, nt n)] args3 rfl ?_
    have hj := bothI I 0 n (by omega) hn
    have hlk := hz.neg
    repeat' (first
    | (refine m_lookupZ (d := 12) hm (by rfl) (by rfl) (by rfl) (by rfl) gt1 hz.nodup zero_num ?_; rw [hlk])
    | (refine m_readC (d:=14) hm (hc:=hj) (k:=?_); clear hm; intro _ hm)
    | refine m_load1 hm (k:=?_)
    | refine op_move (k:=?_)
    | refine op_assign (k:=?_)
    | refine op_pick_false (k:=?_)
    | refine op_geq (k:=?_)
    | refine op_nilCheck (k:=?_)
    | refine op_fieldAddr (k:=?_)
    | refine wl_skip (k:=?_)
    | refine wl_nil ?_
    | refine at_then_normal ?_
    | refine wc_seq ?_
    | refine wc_region ?_
    | refine wc_skip ?_
    | refine at_end0 (h:=?_)
    | refine wc_cond_false (hf:=?_))
    all_goals try (exfalso; omega)
    exact ⟨I, _, ⟨rfl, zs, hz, rfl⟩, hm⟩
  | some f =>
    refine CalM.of fun w E hm => enter (N := 36) Try.func52 rfl [(0, ptr bt), (1, nt f), (2, nt n)] args3 rfl ?_
    have hlk := hz.get f
    have hj := bothI I (p.1 f) n (hp f) hn
    show WC _ _ _ _ _ _ _
    obtain ⟨n1, hn1⟩ : ∃ n1, n1 = p.1 f ||| n := ⟨_, rfl⟩
    rw [← hn1] at hj
    by_cases heq : n1 = p.1 f
    · have hr : Sp.raiseO p (some f) n = p := by
        show Sp.raiseI p f n = p
        rw [Sp.raiseI, if_pos (by rw [← hn1]; exact heq)]
      rw [hr]
      repeat' (first
      | (refine m_lookupZ (d := 12) hm (by rfl) (by rfl) (by rfl) (by rfl) gt1 hz.nodup zero_num ?_; rw [hlk])
      | (refine m_lookupZ (d := 24) hm (by rfl) (by rfl) (by rfl) (by rfl) gt1 hz.nodup zero_num ?_; rw [hlk])
      | (refine m_readC (d:=14) hm (hc:=hj) (k:=?_); clear hm; intro _ hm)
      | refine m_load1 hm (k:=?_)
      | refine op_move (k:=?_)
      | refine op_assign (k:=?_)
      | refine op_pick_true (k:=?_)
      | refine op_geq (k:=?_)
      | refine op_neq (k:=?_)
      | refine op_nilCheck (k:=?_)
      | refine op_fieldAddr (k:=?_)
      | refine wl_nil ?_
      | refine at_then_normal ?_
      | refine wc_seq ?_
      | refine wc_region ?_
      | refine wc_skip ?_
      | refine at_end0 (h:=?_)
      | (refine wc_cond_dec (ht:=fun _ => ?_) (hf:=fun _ => ?_)<;> (try first | contradiction | (exfalso; omega))))
      all_goals try (exfalso; first | omega | contradiction)
      exact ⟨I, _, ⟨rfl, zs, hz, rfl⟩, hm⟩
    · have hr : Sp.raiseO p (some f) n = (Sp.upL p.1 f n1, true) := by
        show Sp.raiseI p f n = _
        rw [Sp.raiseI, if_neg (by rw [← hn1]; exact heq), hn1]
      rw [hr]
      repeat' (first
      | (refine m_lookupZ (d := 12) hm (by rfl) (by rfl) (by rfl) (by rfl) gt1 hz.nodup zero_num ?_; rw [hlk])
      | (refine m_lookupZ (d := 24) hm (by rfl) (by rfl) (by rfl) (by rfl) gt1 hz.nodup zero_num ?_; rw [hlk])
      | (refine m_readC (d:=14) hm (hc:=hj) (k:=?_); clear hm; intro _ hm)
      | (refine wl_mapUpdate ?_; refine m_putZ hm (by rfl) (by rfl) (by rfl) (by rfl) (by rfl) gt1 hz.nodup ?_; clear hm; intro _ hm; try simp only [setn] at hm)
      | refine m_load1 hm (k:=?_)
      | (refine m_store1 hm (k:=?_); clear hm; intro _ hm; try simp only [setn] at hm)
      | refine op_move (k:=?_)
      | refine op_assign (k:=?_)
      | refine op_pick_true (k:=?_)
      | refine op_geq (k:=?_)
      | refine op_neq (k:=?_)
      | refine op_nilCheck (k:=?_)
      | refine op_fieldAddr (k:=?_)
      | refine wl_nil ?_
      | refine at_then_normal ?_
      | refine wc_seq ?_
      | refine wc_region ?_
      | refine at_end0 (h:=?_)
      | (refine wc_cond_dec (ht:=fun _ => ?_) (hf:=fun _ => ?_)<;> (try first | contradiction | (exfalso; omega))))
      all_goals try (exfalso; first | omega | contradiction)
      exact ⟨I, _, ⟨rfl, _, hz.put f n1, rfl⟩, hm⟩
set_option maxHeartbeats 32000000 in
theorem g_of (hlab : Sp.itLab its) {sc : List Sp.Li} {o : Sp.Lab} (hsl : Sp.scLab (Sp.lcOf o sc)) (h0 : o 0 = 0) {zs : EntsZ} (hz : OpenN zs o) {more : Bool} {es : Ents} {be : Nat} (hes : EvAt sc es) : ∀ (n : Nat) (e : Sp.Ex), SizeOf.sizeOf e ≤ n → e.small → e.all Sp.twoP → ∀ (I : Imm) (ea : Option Addr) (ec : Nat) (ys : List Value),
    FE I its a cp xs → MapI I be es → RowI I 111 6 (.slice ea e.args.length ec) e.args.length ys → ExsAt I e.args ys →
    CalM Try.prog 51 #[ptr bt, .map (some be), .agg (exCells e ea ec).toArray] I (TgSt bt a its.length cp more bo zs) (fun v _ H' => v = nt (Sp.plainF its (Sp.lcOf o sc) e) ∧ H' = TgSt bt a its.length cp more bo zs) := by
  intro n
  induction n with
  | zero => intro e h; cases e; simp at h
  | succ n ih =>
  intro e hsz hsm hall I ea ec ys hfe hme hr hx
  obtain ⟨hal, hasm⟩ := Sp.small_args hsm
  obtain ⟨hnode, hargs⟩ := Sp.Ex.all_node hall
  have hfew := hfe.few
  refine CalM.of fun w E hm => enter (N := 68) Try.func51 rfl [(0, ptr bt), (1, .map (some be)), (2, .agg (exCells e ea ec).toArray)] args3 rfl ?_
  rw [Sp.plainF_eq]
  by_cases k2 : e.kind = 2
  · rw [if_pos k2, Sp.getF_of]
    have hlk := hes.look e.name
    cases hf : Sp.findLi sc e.name with
    | none =>
      rw [hf] at hlk
      have hl0 := hz.get 0
      rw [h0] at hl0
      repeat' (first
      | (refine op_lookup (d := 17) (by rfl) (by rfl) (by rfl) (by rfl) (hm.mapI hme) zero_arr ?_; rw [hlk])
      | (refine wc_quiet_tail (id:=7) 7 (h:=?_))
      | (refine mq_lookupZ (d := 29) hm (by rfl) (by rfl) (by rfl) (by rfl) gt3 zero_num ?_; erw [hl0])
      | (refine m_box (d:=5) hm (k:=?_); clear hm; intro b5 _ hm)
      | (refine m_varS (d:=8) hm (k:=?_); clear hm; intro b8 _ hm)
      | refine m_load1 hm (k:=?_)
      | refine mq_load1 hm (k:=?_)
      | refine op_move (k:=?_)
      | refine op_assign (k:=?_)
      | refine op_geq (k:=?_)
      | refine op_eql (k:=?_)
      | refine op_indexAddr_arr (k:=?_)
      | refine op_fieldAddr (k:=?_)
      | refine wl_nil ?_
      | refine at_then_normal ?_
      | refine at_block_normal ?_
      | refine wc_seq ?_
      | refine wc_region ?_
      | refine wc_block ?_
      | refine wc_ret ?_
      | refine at_ret1 (h:=?_)
      | (refine wq_nil_tail ?_; intro _ hkq; replace hm := hm.kept0 hkq; clear hkq)
      | refine wc_cond_true (ht:=?_)
      | (refine wc_cond_dec (ht:=fun _ => ?_) (hf:=fun _ => ?_)<;> (try first | contradiction | (exfalso; omega)))
      | refine q_move (k:=?_)
      | refine q_nilCheck (k:=?_)
      | refine q_indexAddr_arr (k:=?_)
      | refine q_fieldAddr (k:=?_))
      all_goals try (exfalso; first | omega | contradiction)
      exact ⟨I, _, ⟨rfl, rfl⟩, hm.tl.tl⟩
    | some l =>
      rw [hf] at hlk
      cases hop : l.op with
      | none =>
        have e1 : encEv l = .agg [.int .i64 (-1), nt l.lab].toArray := by simp only [encEv, Sp.Li.pos, Sp.Li.pre, hop]
        have e2 : l.val o = l.lab := by rw [Sp.Li.val, hop]
        dsimp only at hlk ⊢
        rw [e1] at hlk
        rw [e2]
        repeat' (first
        | (refine op_lookup (d := 17) (by rfl) (by rfl) (by rfl) (by rfl) (hm.mapI hme) zero_arr ?_; rw [hlk])
        | (refine m_box (d:=5) hm (k:=?_); clear hm; intro b5 _ hm)
        | (refine m_varS (d:=8) hm (k:=?_); clear hm; intro b8 _ hm)
        | refine m_load1 hm (k:=?_)
        | refine op_move (k:=?_)
        | refine op_assign (k:=?_)
        | refine op_geq (k:=?_)
        | refine op_eql (k:=?_)
        | refine op_indexAddr_arr (k:=?_)
        | refine op_fieldAddr (k:=?_)
        | refine wl_nil ?_
        | refine at_then_normal ?_
        | refine at_block_normal ?_
        | refine wc_seq ?_
        | refine wc_region ?_
        | refine wc_block ?_
        | refine wc_skip ?_
        | refine wc_ret ?_
        | refine at_ret1 (h:=?_)
        | refine wc_cond_false (hf:=?_)
        | (refine wc_cond_dec (ht:=fun _ => ?_) (hf:=fun _ => ?_)<;> (try first | contradiction | (exfalso; omega))))
        all_goals try (exfalso; first | omega | contradiction)
        exact ⟨I, _, ⟨rfl, rfl⟩, hm.tl.tl⟩
      | some f =>
        have e1 : encEv l = .agg [nt f, nt 0].toArray := by simp only [encEv, Sp.Li.pos, Sp.Li.pre, hop]
        have e2 : l.val o = o f := by rw [Sp.Li.val, hop]
        have hlf := hz.get f
        dsimp only at hlk ⊢
        rw [e1] at hlk
        rw [e2]
        repeat' (first
        | (refine op_lookup (d := 17) (by rfl) (by rfl) (by rfl) (by rfl) (hm.mapI hme) zero_arr ?_; rw [hlk])
        | (refine wc_quiet_tail (id:=7) 7 (h:=?_))
        | (refine mq_lookupZ (d := 29) hm (by rfl) (by rfl) (by rfl) (by rfl) gt3 zero_num ?_; rw [hlf])
        | (refine m_box (d:=5) hm (k:=?_); clear hm; intro b5 _ hm)
        | (refine m_varS (d:=8) hm (k:=?_); clear hm; intro b8 _ hm)
        | refine m_load1 hm (k:=?_)
        | refine mq_load1 hm (k:=?_)
        | refine op_move (k:=?_)
        | refine op_assign (k:=?_)
        | refine op_geq (k:=?_)
        | refine op_eql (k:=?_)
        | refine op_indexAddr_arr (k:=?_)
        | refine op_fieldAddr (k:=?_)
        | refine wl_nil ?_
        | refine at_then_normal ?_
        | refine at_block_normal ?_
        | refine wc_seq ?_
        | refine wc_region ?_
        | refine wc_block ?_
        | refine wc_ret ?_
        | refine at_ret1 (h:=?_)
        | (refine wq_nil_tail ?_; intro _ hkq; replace hm := hm.kept0 hkq; clear hkq)
        | refine wc_cond_true (ht:=?_)
        | (refine wc_cond_dec (ht:=fun _ => ?_) (hf:=fun _ => ?_)<;> (try first | contradiction | (exfalso; omega)))
        | refine q_move (k:=?_)
        | refine q_nilCheck (k:=?_)
        | refine q_indexAddr_arr (k:=?_)
        | refine q_fieldAddr (k:=?_))
        all_goals try (exfalso; first | omega | contradiction)
        exact ⟨I, _, ⟨rfl, rfl⟩, hm.tl.tl⟩
  rw [if_neg k2]
  by_cases k3 : e.kind = 3
  · rw [if_pos k3]
    have h2 := hnode k3
    obtain ⟨x, y, hxy⟩ : ∃ x y, e.args = [x, y] := by
      match hh : e.args, h2 with
      | [x, y], _ => exact ⟨x, y, rfl⟩
    have hg0 : e.args[0]? = some x := by rw [hxy]; rfl
    have hg1 : e.args[1]? = some y := by rw [hxy]; rfl
    have hsz0 := Sp.size_args (List.mem_of_getElem? hg0)
    have hsz1 := Sp.size_args (List.mem_of_getElem? hg1)
    obtain ⟨ea0, ec0, ys0, hc0, hr0, hx0⟩ := (hx.get hg0).out
    obtain ⟨ea1, ec1, ys1, hc1, hr1, hx1⟩ := (hx.get hg1).out
    have hC0 := ih x (by omega) (Sp.exsSmall_get hasm hg0) (Sp.exsAll_get hargs hg0) I ea0 ec0 ys0 hfe hme hr0 hx0
    have hC1 := fun (J : Imm) (m : Le I J) => ih y (by omega) (Sp.exsSmall_get hasm hg1) (Sp.exsAll_get hargs hg1) J ea1 ec1 ys1 (hfe.le m) (hme.le m) (hr1.le m) (ExsAt.le m _ _ hx1)
    have hl0 := Sp.plainF_lt hlab hsl x
    have hl1 := Sp.plainF_lt hlab hsl y
    have hpl : Sp.plainsF its (Sp.lcOf o sc) e.args 0 = Sp.plainF its (Sp.lcOf o sc) x ||| Sp.plainF its (Sp.lcOf o sc) y := by
      rw [hxy, Sp.plainsF, Sp.plainsF, Sp.plainsF, Nat.zero_or]
    rw [hpl]
    generalize Sp.plainF its (Sp.lcOf o sc) x = n0 at hC0 hl0 ⊢
    generalize Sp.plainF its (Sp.lcOf o sc) y = n1 at hC1 hl1 ⊢
    have hJ := fun (J : Imm) => bothI J n0 n1 hl0 hl1
    rw [show (0 * 6 : Nat) = ((0 : Int).toNat * 6) from rfl] at hc0
    rw [show (1 * 6 : Nat) = ((1 : Int).toNat * 6) from rfl] at hc1
    repeat' (first
    | (refine wc_semi_memL (id:=9) (hm.perm pm2_1) [0,1,2,3,4,5,7,8,9,10,11,12] [6,13,14] 15 (h:=?_); clear hm; intro wd hR hm)
    | (refine iw_indexAddr (d:=36) (hr:=hr) (k:=?_); intro bu ou hpu; rw [hc0] at hpu)
    | (refine iw_indexAddr (d:=43) (hr:=hr) (k:=?_); intro bv ov hpv; rw [hc1] at hpv)
    | (refine iw_loadN (d:=37) hR (hp:=hpu) (k:=?_))
    | (refine iw_loadN (d:=44) hR (hp:=hpv) (k:=?_))
    | (refine mt_call (d:=38) hm (hp:=pm2_0) (hc:=hC0) (k:=?_); clear hm; rintro _ I2 _ _ ⟨rfl, rfl⟩ hleI2 hm; try simp only [setn] at hm)
    | (refine mt_call (d:=45) hm (hp:=pm2_0) (hc:=hC1 I2 hleI2) (k:=?_); clear hm; rintro _ I3 _ _ ⟨rfl, rfl⟩ hleI3 hm; try simp only [setn] at hm)
    | (refine mt_readC (d := 46) hm (by rfl) (by rfl) (by rfl) sub_nil (hJ _) ?_; clear hm; intro _ hm)
    | refine mw_load1 hR (k:=?_)
    | (refine ws_nil ?_; replace hm := hR.back hm; clear hR; try simp only [setn] at hm)
    | (refine m_box (d:=5) hm (k:=?_); clear hm; intro b5 _ hm)
    | refine m_load1 hm (k:=?_)
    | refine op_move (k:=?_)
    | refine op_assign (k:=?_)
    | refine op_eql (k:=?_)
    | refine op_fieldAddr (k:=?_)
    | refine wl_nil ?_
    | refine at_then_normal ?_
    | refine at_block_normal ?_
    | refine wc_seq ?_
    | refine wc_region ?_
    | refine wc_block ?_
    | refine wc_ret ?_
    | refine at_ret1 (h:=?_)
    | (refine wc_cond_dec (ht:=fun _ => ?_) (hf:=fun _ => ?_)<;> (try first | contradiction | (exfalso; omega)))
    | refine v_move (k:=?_)
    | refine v_fieldAddr (k:=?_)
    | refine wv_nil ?_)
    all_goals try (exfalso; first | omega | contradiction)
    exact ⟨I3, _, ⟨rfl, rfl⟩, hm.left (H := [_, _])⟩
  rw [if_neg k3]
  by_cases k4 : e.kind = 4
  · rw [if_pos k4, Sp.callLab]
    have hF := r_find 2 e.name its I a cp xs hfe
    have hri := hfe.row
    cases hf : Sp.findIt its 2 e.name with
    | some j =>
      rw [show Sp.findV its 2 e.name = (j : Int) by rw [Sp.findV, hf]] at hF
      obtain ⟨hjl, _⟩ := Sp.findIt_lt hf
      have hg : its[j]? = some its[j] := List.getElem?_eq_getElem hjl
      have hno : Sp.itNo its j = its[j] := by rw [Sp.itNo, List.getD_eq_getElem?_getD, hg]; rfl
      obtain ⟨cs, hcs, hat, hl10⟩ := hfe.get hg
      dsimp only
      rw [hno]
      generalize its[j] = it at hg hat
      obtain ⟨ap, cp', as_, cs', ab, cb', ad, cd, xb, rfl, _⟩ := hat
      repeat' (first
      | (refine wc_semi_memL (id:=11) (hm.perm pm0) [0,1,2,3,4,5] [6] 7 (h:=?_); clear hm; intro wd hR hm)
      | (refine mw_loadN (n:=1) (d:=52) (vs:=[.slice a its.length cp]) hR (k:=?_))
      | (refine mt_call (d:=55) hm (hc:=hF) (k:=?_); clear hm; rintro _ I2 _ _ ⟨rfl, rfl⟩ hle hm; have hleI2 := hle; try simp only [setn] at hm)
      | (refine i_indexAddr (d:=64) (hr:=hri.le hleI2) (k:=?_); intro bu ou hpu; rw [show ((j : Int).toNat * 10) = j * 10 from rfl, hcs] at hpu)
      | refine mw_load1 hR (k:=?_)
      | (refine ws_nil ?_; replace hm := hR.back hm; clear hR; try simp only [setn] at hm)
      | (refine m_box (d:=5) hm (k:=?_); clear hm; intro b5 _ hm)
      | refine m_load1 hm (k:=?_)
      | refine i_load1 hm (k:=?_)
      | refine op_move (k:=?_)
      | refine op_assign (k:=?_)
      | refine op_geq (k:=?_)
      | refine op_eql (k:=?_)
      | refine op_nilCheck (k:=?_)
      | refine op_fieldAddr (k:=?_)
      | refine wl_nil ?_
      | refine at_then_normal ?_
      | refine at_block_normal ?_
      | refine wc_seq ?_
      | refine wc_region ?_
      | refine wc_block ?_
      | refine wc_ret ?_
      | refine at_ret1 (h:=?_)
      | refine wc_cond_true (ht:=?_)
      | (refine wc_cond_dec (ht:=fun _ => ?_) (hf:=fun _ => ?_)<;> (try first | contradiction | (exfalso; omega)))
      | refine v_move (k:=?_)
      | refine v_nilCheck (k:=?_)
      | refine v_fieldAddr (k:=?_)
      | refine wv_nil ?_)
      all_goals try (exfalso; first | omega | contradiction)
      exact ⟨I2, _, ⟨rfl, rfl⟩, hm.tl⟩
    | none =>
      rw [show Sp.findV its 2 e.name = -1 by rw [Sp.findV, hf]] at hF
      repeat' (first
      | (refine wc_semi_memL (id:=11) (hm.perm pm0) [0,1,2,3,4,5] [6] 7 (h:=?_); clear hm; intro wd hR hm)
      | (refine mw_loadN (n:=1) (d:=52) (vs:=[.slice a its.length cp]) hR (k:=?_))
      | (refine mt_call (d:=55) hm (hc:=hF) (k:=?_); clear hm; rintro _ I2 _ _ ⟨rfl, rfl⟩ hle hm; have hleI2 := hle; try simp only [setn] at hm)
      | refine mw_load1 hR (k:=?_)
      | (refine ws_nil ?_; replace hm := hR.back hm; clear hR; try simp only [setn] at hm)
      | (refine m_box (d:=5) hm (k:=?_); clear hm; intro b5 _ hm)
      | refine m_load1 hm (k:=?_)
      | refine op_move (k:=?_)
      | refine op_assign (k:=?_)
      | refine op_geq (k:=?_)
      | refine op_eql (k:=?_)
      | refine op_fieldAddr (k:=?_)
      | refine wl_nil ?_
      | refine at_then_normal ?_
      | refine at_block_normal ?_
      | refine wc_seq ?_
      | refine wc_region ?_
      | refine wc_block ?_
      | refine wc_skip ?_
      | refine wc_ret ?_
      | refine at_ret1 (h:=?_)
      | refine wc_cond_false (hf:=?_)
      | (refine wc_cond_dec (ht:=fun _ => ?_) (hf:=fun _ => ?_)<;> (try first | contradiction | (exfalso; omega)))
      | refine v_move (k:=?_)
      | refine v_nilCheck (k:=?_)
      | refine v_fieldAddr (k:=?_)
      | refine wv_nil ?_)
      all_goals try (exfalso; first | omega | contradiction)
      exact ⟨I2, _, ⟨rfl, rfl⟩, hm.tl⟩
  · rw [if_neg k4]
    repeat' (first
    | (refine m_box (d:=5) hm (k:=?_); clear hm; intro b5 _ hm)
    | refine m_load1 hm (k:=?_)
    | refine op_move (k:=?_)
    | refine op_assign (k:=?_)
    | refine op_eql (k:=?_)
    | refine op_fieldAddr (k:=?_)
    | refine wl_nil ?_
    | refine at_then_normal ?_
    | refine at_block_normal ?_
    | refine wc_seq ?_
    | refine wc_region ?_
    | refine wc_block ?_
    | refine wc_skip ?_
    | refine wc_ret ?_
    | refine at_ret1 (h:=?_)
    | (refine wc_cond_dec (ht:=fun _ => ?_) (hf:=fun _ => ?_)<;> (try first | contradiction | (exfalso; omega))))
    all_goals try (exfalso; omega)
    exact ⟨I, _, ⟨rfl, rfl⟩, hm.tl⟩
end
end Go.Proofs.Ytjfkjpbkmpofkaa
end
