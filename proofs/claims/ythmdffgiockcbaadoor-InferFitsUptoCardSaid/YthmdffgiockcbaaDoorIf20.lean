/- Own work: texts NmZ, NmA, Label, SpecFlow, SpecFlow2, one behind the other. -/
import Derived.Test.YthmdffgiockcbaaDoorIf19
section
namespace Go.Sp
def idxV (F : Itm → Bool) (its : List Itm) : Int := match its.findIdx? F with
  | some j => (j : Int)
  | none => -1
def findV (its : List Itm) (k : Int) (n : List UInt8) : Int := match findIt its k n with
  | some j => (j : Int)
  | none => -1
theorem idxV_at {F : Itm → Bool} {its : List Itm} {k : Nat} {it : Itm} (h : its[k]? = some it) (hF : F it = true) (hb : ∀ j it', j < k → its[j]? = some it' → F it' = false) : idxV F its = k := by
  have : its.findIdx? F = some k := by
    rw [List.findIdx?_eq_some_iff_getElem]
    obtain ⟨hk, e⟩ := List.getElem?_eq_some_iff.1 h
    refine ⟨hk, by rw [e]; exact hF, fun j hj => ?_⟩
    have := hb j its[j] hj (List.getElem?_eq_getElem (by omega))
    rw [this]; simp
  rw [idxV, this]
theorem idxV_none {F : Itm → Bool} {its : List Itm} (hb : ∀ j it', j < its.length → its[j]? = some it' → F it' = false) : idxV F its = -1 := by
  have : its.findIdx? F = none := by
    rw [List.findIdx?_eq_none_iff]
    intro x hx
    obtain ⟨j, hj, rfl⟩ := List.getElem_of_mem hx
    exact hb j _ hj (List.getElem?_eq_getElem hj)
  rw [idxV, this]
end Go.Sp
namespace Go.Fw
open Go
section
variable {P : Program} {N : Nat} {ds : List Deferred} {Q : Exit → Act → World → Prop} {l : Log} {w : World} {ops : Array Oper} {os : List Oper}
variable {d : Nat} {ty : TypeId} {pos : String} {af : Array Edge} {g : Option (Nat × Bool)} {t : TypeId} {x y : Operand} {E : Ent} {I : Imm} {H R G : List HItem}
/-- a call of what is a value. -/
theorem m_callv {c : Operand} {f : FuncId} [Own P f] {xs : List Operand} {tys : Array TypeId} {vs ca : List Value} {Post : Value → Imm → List HItem → Prop} (hm : Mem E I G w)
    (hw : want ops l ⟨some d, .call ⟨.value c, xs.toArray, tys⟩, ty, pos, af, g⟩ = some true := by rfl) (hN : Nat.blt d N = true := by rfl)
    (hf : ev l c = some (.func (.func f) #[] ca.toArray) := by rfl) (hx : evs l xs = some vs := by rfl) (hp : G.Perm (H ++ R)) (hc : CalM P f (vs ++ ca).toArray I H Post)
    (k : ∀ v I' H' w', Post v I' H' → Le I I' → Mem E I' (H' ++ R) w' → WL P N ds ops Q os ((d, v) :: l) w') :
    WL P N ds ops Q (⟨some d, .call ⟨.value c, xs.toArray, tys⟩, ty, pos, af, g⟩ :: os) l w :=
  op_callv hw hN hf hx (hc.run w (hm.perm hp).sub) (fun v w' ⟨I', H', h1, h2⟩ => k v I' H' w' h1 h2.le ((hm.perm hp).back h2))
/-- a part of what does not turn. -/
theorem PtrI.sub {b off ty : Nat} {cs cs' : List Value} (h : PtrI I b off ty cs) (k : Nat) (hs : ∀ j u, cs'[j]? = some u → cs[k + j]? = some u) : PtrI I b (off + k) ty cs' := by
  obtain ⟨c, fr, h1, h2⟩ := h
  exact ⟨c, fr, h1, fun j u hj => by rw [Nat.add_assoc]; exact h2 _ _ (hs j u hj)⟩
theorem CalM.read {f : FuncId} {args : Array Value} {v : Value} (h : CalM P f args I [] (fun u _ H' => u = v ∧ H' = [])) : CalR P f args I [] v :=
  ⟨fun w hI _ => (h.run w (Mem.start hI)).mono (fun _ _ ⟨_, _, ⟨h1, _⟩, h2⟩ => ⟨h1, h2.kept⟩)⟩
end
end Go.Fw
namespace Go.Proofs.YthmdffgiockcbaaDoor
open Go.Fw
structure NI where
  k : Nat
  I : Imm
/-- a file's items. -/
structure FE (I : Imm) (its : List Sp.Itm) (a : Option Addr) (cp : Nat) (xs : List Value) : Prop where
  row : RowI I 34 10 (.slice a its.length cp) its.length xs
  ats : ItsAt I its xs
  few : its.length ≤ 64
theorem fe_of {I : Imm} {its : List Sp.Itm} {a : Option Addr} {cp : Nat} {xs : List Value} (h1 : RowI I 34 10 (.slice a its.length cp) its.length xs) (h2 : ItsAt I its xs) (h3 : its.length ≤ 30) : FE I its a cp xs := ⟨h1, h2, by omega⟩
theorem FE.le {I I' : Imm} {its : List Sp.Itm} {a : Option Addr} {cp : Nat} {xs : List Value} (h : FE I its a cp xs) (m : Le I I') : FE I' its a cp xs := ⟨h.row.le m, h.ats.le m, h.few⟩
theorem FE.get {I : Imm} {its : List Sp.Itm} {a : Option Addr} {cp : Nat} {xs : List Value} (h : FE I its a cp xs) {k : Nat} {it : Sp.Itm} (hg : its[k]? = some it) : ∃ cs, (xs.drop (k * 10)).take 10 = cs ∧ ItAt I it cs ∧ cs.length = 10 :=
  ⟨_, rfl, h.ats.get hg, (h.ats.get hg).len⟩
theorem n_findC (I : Imm) (k : Int) (n : List UInt8) (bk bn : Nat) (hk : PtrI I bk 0 3 [.int .i64 k]) (hn : PtrI I bn 0 9 [str n]) (it : Sp.Itm) (cs : List Value) (hi : ItAt I it cs) :
    CalM Tryd.prog 45 #[.agg cs.toArray, ptr bk, ptr bn] I [] (fun v _ H' => v = .bool (Sp.itIs k n it) ∧ H' = []) := by
  obtain ⟨ap, cp, as_, cs', ab, cb, ad, cd, xb, rfl, r1, r2, r3, r4, r5⟩ := hi
  refine CalM.of fun w E hm => enter (N := 19) Tryd.func45 rfl [(0, .agg (itCells it.kind it.name it.label (.slice ap it.params.length cp) (.slice as_ it.sends.length cs') (.slice ab it.body.length cb) it.at_ it.size it.mark (.slice ad it.diags.length cd)).toArray), (1, ptr bk), (2, ptr bn)] args3 rfl ?_
  repeat' (first
  | (refine m_box (d:=3) hm (k:=?_); clear hm; intro b3 _ hm)
  | refine m_load1 hm (k:=?_)
  | refine i_load1z hm (k:=?_)
  | refine op_move (k:=?_)
  | refine op_assign (k:=?_)
  | refine op_pick_true (k:=?_)
  | refine op_pick_false (k:=?_)
  | refine op_eql (k:=?_)
  | refine op_eql_str (k:=?_)
  | refine op_neq_str (k:=?_)
  | refine op_fieldAddr (k:=?_)
  | refine wl_skip (k:=?_)
  | (refine wl_split_dec (h1:=fun _ => ?_) (h0:=fun _ => ?_)<;> (try first | contradiction | (exfalso; omega)))
  | refine wl_nil ?_
  | refine at_then_normal ?_
  | refine wc_seq ?_
  | refine wc_region ?_
  | refine wc_ret ?_
  | refine at_ret1 (h:=?_))
  all_goals (refine ⟨I, [], ⟨congrArg Value.bool ?_, rfl⟩, hm.left (H := [])⟩; simp_all [Sp.itIs])
set_option maxHeartbeats 4000000 in
theorem n_index (fi : FuncId) [Own Tryd.prog fi] (ca : List Value) (F : Sp.Itm → Bool) (its : List Sp.Itm) (I : Imm) (a : Option Addr) (cp : Nat) (xs : List Value) (h : FE I its a cp xs)
    (hF : ∀ I', Le I I' → ∀ it cs, ItAt I' it cs → CalM Tryd.prog fi (.agg cs.toArray :: ca).toArray I' [] (fun v _ H' => v = .bool (F it) ∧ H' = [])) :
    CalM Tryd.prog 44 #[.slice a its.length cp, .func (.func fi) #[] ca.toArray] I [] (fun v _ H' => v = .int .i64 (Sp.idxV F its) ∧ H' = []) := by
  refine CalM.of fun w E hm => enter (N := 19) Tryd.func44 rfl [(0, .slice a its.length cp), (1, .func (.func fi) #[] ca.toArray)] args2 rfl ?_
  have hfew := h.few
  repeat' (first
  | refine op_move (k:=?_)
  | refine op_assign (k:=?_)
  | refine op_len_slice (k:=?_)
  | refine wl_nil ?_
  | refine at_then_normal ?_
  | refine wc_seq ?_
  | refine wc_region ?_
  | refine wc_block ?_)
  refine wc_loop (fun x : NI => [(0, .slice a its.length cp), (1, .func (.func fi) #[] ca.toArray), (7, nt its.length), (8, nt x.k)])
    (fun x w' => Mem E x.I [] w' ∧ Le I x.I ∧ x.k ≤ its.length ∧ ∀ j it', j < x.k → its[j]? = some it' → F it' = false) (fun x => its.length - x.k) ⟨0, I⟩ (by exact ⟨rfl, rfl, rfl, rfl, trivial⟩) ⟨hm, Le.refl _, Nat.zero_le _, fun j _ hj => absurd hj (Nat.not_lt_zero j)⟩ ?_
  clear hm
  rintro ⟨k, I1⟩ w1 ⟨hm, hle1, hk, hno⟩
  dsimp only at hm hle1 hk hno ⊢
  by_cases hlt : k < its.length
  · have hg : its[k]? = some its[k] := List.getElem?_eq_getElem hlt
    obtain ⟨cs, hcs, hat, hl10⟩ := (h.le hle1).get hg
    have hri := (h.le hle1).row
    have hc := hF I1 hle1 _ cs hat
    generalize its[k] = it at hg hat hc
    cases hb : F it with
    | true =>
      rw [hb] at hc
      repeat' (first
      | (refine i_indexAddr (d:=14) (hr:=hri) (k:=?_); intro bt ot hpt; rw [show ((k : Int).toNat * 10) = k * 10 from rfl, hcs] at hpt)
      | (refine i_loadN (d:=15) hm (hp:=hpt) (hc:=by exact hl10) (k:=?_))
      | (refine m_callv (d:=16) hm (hp:=pm0) (hc:=by exact hc) (k:=?_); clear hm; rintro _ I2 _ _ ⟨rfl, rfl⟩ hle hm)
      | refine op_move (k:=?_)
      | refine op_assign (k:=?_)
      | refine op_lss (k:=?_)
      | refine wl_nil ?_
      | refine at_then_normal ?_
      | refine at_then_ret ?_
      | refine at_block_ret ?_
      | refine wc_seq ?_
      | refine wc_region ?_
      | refine wc_block ?_
      | refine wc_skip ?_
      | refine wc_ret ?_
      | refine at_ret1 (h:=?_)
      | refine wc_cond_true (ht:=?_)
      | (refine wc_cond_dec (ht:=fun _ => ?_) (hf:=fun _ => ?_)<;> (try first | contradiction | (exfalso; omega))))
      all_goals try (exfalso; omega)
      exact ⟨I2, [], ⟨by rw [Sp.idxV_at hg hb hno], rfl⟩, hm.left (H := [])⟩
    | false =>
      rw [hb] at hc
      repeat' (first
      | (refine i_indexAddr (d:=14) (hr:=hri) (k:=?_); intro bt ot hpt; rw [show ((k : Int).toNat * 10) = k * 10 from rfl, hcs] at hpt)
      | (refine i_loadN (d:=15) hm (hp:=hpt) (hc:=by exact hl10) (k:=?_))
      | (refine m_callv (d:=16) hm (hp:=pm0) (hc:=by exact hc) (k:=?_); clear hm; rintro _ I2 _ _ ⟨rfl, rfl⟩ hle hm)
      | refine op_move (k:=?_)
      | refine op_assign (k:=?_)
      | refine op_lss (k:=?_)
      | refine op_add (k:=?_)
      | refine wl_nil ?_
      | refine at_then_normal ?_
      | refine at_block_normal ?_
      | refine wc_seq ?_
      | refine wc_region ?_
      | refine wc_block ?_
      | refine wc_skip ?_
      | refine wc_cond_false (hf:=?_)
      | (refine wc_cond_dec (ht:=fun _ => ?_) (hf:=fun _ => ?_)<;> (try first | contradiction | (exfalso; omega))))
      all_goals try (exfalso; omega)
      refine at_round (⟨k + 1, I2⟩ : NI) (by exact ⟨rfl, rfl, rfl, rfl, trivial⟩) ⟨hm.left (H := []), hle1.trans hle, by dsimp only; omega, fun j it' hj hg' => ?_⟩ (by dsimp only; omega)
      rcases Nat.lt_or_ge j k with hjk | hjk
      · exact hno j it' hjk hg'
      · obtain rfl : j = k := by dsimp only at hj; omega
        rw [hg] at hg'
        obtain rfl := Option.some.inj hg'
        exact hb
  · obtain rfl : k = its.length := by omega
    repeat' (first
    | refine op_assign (k:=?_)
    | refine op_lss (k:=?_)
    | refine wl_nil ?_
    | refine at_then_normal ?_
    | refine at_then_exit ?_
    | refine at_block_exit ?_
    | refine wc_seq ?_
    | refine wc_region ?_
    | refine wc_exit ?_
    | refine wc_ret ?_
    | refine at_ret1 (h:=?_)
    | (refine wc_cond_dec (ht:=fun _ => ?_) (hf:=fun _ => ?_)<;> (try first | contradiction | (exfalso; omega))))
    all_goals try (exfalso; omega)
    exact ⟨I1, [], ⟨by rw [Sp.idxV_none hno], rfl⟩, hm.left (H := [])⟩
theorem n_find (k : Int) (n : List UInt8) (its : List Sp.Itm) (I : Imm) (a : Option Addr) (cp : Nat) (xs : List Value) (h : FE I its a cp xs) :
    CalM Tryd.prog 36 #[.agg [.slice a its.length cp].toArray, .int .i64 k, str n] I [] (fun v _ H' => v = .int .i64 (Sp.findV its k n) ∧ H' = []) := by
  refine CalM.of fun w E hm => enter (N := 11) Tryd.func36 rfl [(0, .agg [.slice a its.length cp].toArray), (1, .int .i64 k), (2, str n)] args3 rfl ?_
  repeat' (first
  | (refine m_box (d:=3) hm (k:=?_); clear hm; intro b3 _ hm)
  | (refine m_box (d:=4) hm (k:=?_); clear hm; intro b4 _ hm)
  | (refine m_box (d:=5) hm (k:=?_); clear hm; intro b5 _ hm)
  | refine m_load1 hm (k:=?_)
  | refine op_assign (k:=?_)
  | refine op_makeFunc (k:=?_)
  | refine op_fieldAddr (k:=?_)
  | refine wl_nil ?_
  | refine at_then_normal ?_
  | refine wc_seq ?_
  | refine wc_region ?_)
  obtain ⟨I2, hle2, hm2, hpn⟩ := hm.freezeO
  obtain ⟨I3, hle3, hm3, hpk⟩ := hm2.freezeO
  clear hm hm2
  have hm := hm3
  clear hm3
  have hc := n_index 45 [ptr b4, ptr b5] (Sp.itIs k n) its I3 a cp xs ((h.le hle2).le hle3) (fun I' m it cs hi => n_findC I' k n b4 b5 (hpk.le m) ((hpn.le hle3).le m) it cs hi)
  repeat' (first
  | (refine m_call (d:=10) hm (hc:=hc) (k:=?_); clear hm; rintro _ I4 _ _ ⟨rfl, rfl⟩ hle hm; have hleI4 := hle; try simp only [setn] at hm)
  | refine op_assign (k:=?_)
  | refine wl_nil ?_
  | refine at_then_normal ?_
  | refine wc_ret ?_
  | refine at_ret1 (h:=?_))
  exact ⟨I4, [], ⟨rfl, rfl⟩, hm.left (H := [])⟩
end Go.Proofs.YthmdffgiockcbaaDoor
end
section

end
section
namespace Go.Proofs.YthmdffgiockcbaaDoor
open Go.Fw

theorem c_flows (a b : Nat) (ha : a < 256) (hb : b < 256) (w : World) : Cal Tryd.prog 66 #[.int .i64 a, .int .i64 b] w fun v w' => v = .bool (Sp.flows a b) ∧ w' = w := by
  refine enter (N := 9) Tryd.func66 rfl [(0, .int .i64 a), (1, .int .i64 b)] args2 rfl ?_
  repeat' (first
  | refine op_move (k:=?_)
  | refine op_assign (k:=?_)
  | refine op_eql (k:=?_)
  | refine op_eql_str (k:=?_)
  | refine op_eql_bool (k:=?_)
  | refine op_eql_flat (k:=?_)
  | refine op_andNot (k:=?_)
  | refine wl_nil ?_
  | refine at_then_normal ?_
  | refine at_then_ret ?_
  | refine wc_seq ?_
  | refine wc_region ?_
  | refine wc_skip ?_
  | refine wc_ret ?_
  | refine at_ret1 (h:=?_))
  refine ⟨congrArg Value.bool ?_, rfl⟩
  rw [Bool.eq_iff_iff, decide_eq_true_eq, Int.toNat_natCast, Int.toNat_natCast, ← Sp.andNot_zero ha hb]
  omega
theorem c_join (a b : Nat) (ha : a < 256) (hb : b < 256) (w : World) : Cal Tryd.prog 22 #[.int .i64 a, .int .i64 b] w fun v w' => v = .int .i64 ((a ||| b : Nat) : Int) ∧ w' = w := by
  refine enter (N := 8) Tryd.func22 rfl [(0, .int .i64 a), (1, .int .i64 b)] args2 rfl ?_
  repeat' (first
  | refine op_move (k:=?_)
  | refine op_assign (k:=?_)
  | refine op_or (k:=?_)
  | refine wl_nil ?_
  | refine at_then_normal ?_
  | refine at_then_ret ?_
  | refine wc_seq ?_
  | refine wc_region ?_
  | refine wc_skip ?_
  | refine wc_ret ?_
  | refine at_ret1 (h:=?_))
  exact ⟨rfl, rfl⟩
theorem c_meet (a b : Nat) (ha : a < 256) (hb : b < 256) (w : World) : Cal Tryd.prog 46 #[.int .i64 a, .int .i64 b] w fun v w' => v = .int .i64 ((a &&& b : Nat) : Int) ∧ w' = w := by
  refine enter (N := 8) Tryd.func46 rfl [(0, .int .i64 a), (1, .int .i64 b)] args2 rfl ?_
  repeat' (first
  | refine op_move (k:=?_)
  | refine op_assign (k:=?_)
  | refine op_and (k:=?_)
  | refine wl_nil ?_
  | refine at_then_normal ?_
  | refine at_then_ret ?_
  | refine wc_seq ?_
  | refine wc_region ?_
  | refine wc_skip ?_
  | refine wc_ret ?_
  | refine at_ret1 (h:=?_))
  exact ⟨rfl, rfl⟩
end Go.Proofs.YthmdffgiockcbaaDoor
end
section
namespace Go.Sp
/-- a local's label; of none it is the least one. -/
def getF (sc : List Lc) (n : List UInt8) : Nat := match findLc sc n with
  | some l => l.at_
  | none => 0
def meetStep (its : List Itm) (n : Nat) (x : Rf) : Nat := match findIt its 1 x.name with
  | some j => n &&& (itNo its j).label
  | none => n
def meetF (its : List Itm) (l : List Rf) : Nat := l.foldl (meetStep its) 255
def floorsF (its : List Itm) : List Nat := its.map (fun it => meetF its it.sends)
structure FW where
  ds : List Dg
  hv : Option Nat
def FW.tell (s : FW) (f t : Nat) (n : List UInt8) : FW := { s with ds := s.ds ++ [⟨f, t, 9, n⟩] }
def FW.hit (s : FW) (at_ : Int) (f t n : Nat) : FW := if s.hv = none ∧ (f : Int) ≤ at_ ∧ at_ < t then { s with hv := some n } else s
/-- asks that what has a label may go where another one is. -/
def FW.ask (s : FW) (a b f t : Nat) (n : List UInt8) : FW := if flows a b = true then s else s.tell f t n
def callLab (its : List Itm) (n : List UInt8) : Nat := match findIt its 2 n with
  | some j => (itNo its j).label
  | none => 0
def askFloor (its : List Itm) (un : Nat) (n : List UInt8) (f t : Nat) (s : FW) : FW := match findIt its 2 n with
  | some j => s.ask un (meetF its (itNo its j).sends) f t n
  | none => s
/-- an argument is handed on. -/
def askArg (its : List Itm) (n : List UInt8) (i a f t : Nat) (s : FW) : FW := match findIt its 2 n with
  | some j => match (itNo its j).params[i]? with
    | some p => s.ask a p.label f t p.name
    | none => s
  | none => s
mutual
def exF (its : List Itm) (at_ : Int) (sc : List Lc) (un : Nat) : Ex → FW → Nat × FW
  | .mk k nm _ args f t, s =>
    if k = 2 then (getF sc nm, s.hit at_ f t (getF sc nm ||| un)) else
    if k = 3 then ((opsF its at_ sc un args 0 s).1, (opsF its at_ sc un args 0 s).2.hit at_ f t ((opsF its at_ sc un args 0 s).1 ||| un)) else
    if k = 4 then (callLab its nm, (askFloor its un nm f t (argsF its at_ sc un nm args 0 s)).hit at_ f t (callLab its nm ||| un)) else
    (0, s.hit at_ f t (0 ||| un))
def opsF (its : List Itm) (at_ : Int) (sc : List Lc) (un : Nat) : List Ex → Nat → FW → Nat × FW
  | [], n, s => (n, s)
  | e :: es, n, s => opsF its at_ sc un es (n ||| (exF its at_ sc un e s).1) (exF its at_ sc un e s).2
def argsF (its : List Itm) (at_ : Int) (sc : List Lc) (un : Nat) (nm : List UInt8) : List Ex → Nat → FW → FW
  | [], _, s => s
  | e :: es, i, s => argsF its at_ sc un nm es (i + 1) (askArg its nm i ((exF its at_ sc un e s).1 ||| un) e.fr e.to (exF its at_ sc un e s).2)
 end
mutual
/-- a label, of which nothing is asked. -/
def plainF (its : List Itm) (sc : List Lc) : Ex → Nat
  | .mk k nm _ args _ _ => if k = 2 then getF sc nm else if k = 3 then plainsF its sc args 0 else if k = 4 then callLab its nm else 0
def plainsF (its : List Itm) (sc : List Lc) : List Ex → Nat → Nat
  | [], n => n
  | e :: es, n => plainsF its sc es (n ||| plainF its sc e)
 end
/-- a statement's label, under what is known. -/
def unF (its : List Itm) (sc : List Lc) (k un : Nat) (e : Ex) : Nat := if k = 4 then plainF its sc e ||| un else un
def askCh (its : List Itm) (a : Nat) (n : List UInt8) (f t : Nat) (s : FW) : FW := match findIt its 1 n with
  | some j => s.ask a (itNo its j).label f t n
  | none => s
mutual
def stmF (its : List Itm) (own : Nat) (at_ : Int) : Stm → List Lc → Nat → FW → List Lc × FW
  | .mk k nm _ lb o e thn els f t, sc, un, s =>
    let un1 := unF its sc k un e
    let r := exF its at_ sc un1 e s
    let a := r.1 ||| un1
    if k = 1 then (sc ++ [⟨nm, if o = true then a else lb⟩], r.2.ask a (if o = true then a else lb) f t nm) else
    if k = 2 then (sc, r.2.ask a (getF sc nm) f t nm) else
    if k = 5 then (sc, askCh its a nm f t r.2) else
    if k = 6 then (sc, r.2.ask a own f t nm) else
    if k = 3 ∨ k = 4 then (sc, (stmsF its own at_ els sc a (stmsF its own at_ thn sc a r.2).2).2) else (sc, r.2)
def stmsF (its : List Itm) (own : Nat) (at_ : Int) : List Stm → List Lc → Nat → FW → List Lc × FW
  | [], sc, _, s => (sc, s)
  | x :: xs, sc, un, s => stmsF its own at_ xs (stmF its own at_ x sc un s).1 un (stmF its own at_ x sc un s).2
 end
def FW0 : FW := ⟨[], none⟩
def parsF (l : List Par) : List Lc := l.map (fun p => ⟨p.name, p.label⟩)
def checkF (its : List Itm) (i : Nat) (at_ : Int) : FW :=
  if (itNo its i).kind = 2 then (stmsF its (itNo its i).label at_ (itNo its i).body (parsF (itNo its i).params) 0 FW0).2 else FW0
def soundF (its : List Itm) : Prop := ∀ i, i < its.length → (checkF its i (-1)).ds = []
theorem opsF_app (its : List Itm) (at_ : Int) (sc : List Lc) (un : Nat) : ∀ (l r : List Ex) (n : Nat) (s : FW), opsF its at_ sc un (l ++ r) n s = opsF its at_ sc un r (opsF its at_ sc un l n s).1 (opsF its at_ sc un l n s).2
  | [], r, n, s => by rw [List.nil_append, opsF]
  | e :: l, r, n, s => by rw [List.cons_append, opsF, opsF, opsF_app its at_ sc un l r]
theorem opsF_step (its : List Itm) (at_ : Int) (sc : List Lc) (un : Nat) {l : List Ex} {k : Nat} {e : Ex} (h : l[k]? = some e) (n : Nat) (s : FW) :
    opsF its at_ sc un (l.take (k + 1)) n s = ((opsF its at_ sc un (l.take k) n s).1 ||| (exF its at_ sc un e (opsF its at_ sc un (l.take k) n s).2).1, (exF its at_ sc un e (opsF its at_ sc un (l.take k) n s).2).2) := by
  rw [take_succ_get h, opsF_app, opsF, opsF]
theorem argsF_app (its : List Itm) (at_ : Int) (sc : List Lc) (un : Nat) (nm : List UInt8) : ∀ (l r : List Ex) (i : Nat) (s : FW), argsF its at_ sc un nm (l ++ r) i s = argsF its at_ sc un nm r (i + l.length) (argsF its at_ sc un nm l i s)
  | [], r, i, s => by rw [List.nil_append, argsF]; rfl
  | e :: l, r, i, s => by rw [List.cons_append, argsF, argsF, argsF_app its at_ sc un nm l r, List.length_cons, show i + 1 + l.length = i + (l.length + 1) by omega]
theorem argsF_step (its : List Itm) (at_ : Int) (sc : List Lc) (un : Nat) (nm : List UInt8) {l : List Ex} {k : Nat} {e : Ex} (h : l[k]? = some e) (s : FW) :
    argsF its at_ sc un nm (l.take (k + 1)) 0 s = askArg its nm k ((exF its at_ sc un e (argsF its at_ sc un nm (l.take k) 0 s)).1 ||| un) e.fr e.to (exF its at_ sc un e (argsF its at_ sc un nm (l.take k) 0 s)).2 := by
  have hk := (List.getElem?_eq_some_iff.1 h).1
  rw [take_succ_get h, argsF_app, argsF, argsF, List.length_take, Nat.min_eq_left (by omega), Nat.zero_add]
theorem plainsF_app (its : List Itm) (sc : List Lc) : ∀ (l r : List Ex) (n : Nat), plainsF its sc (l ++ r) n = plainsF its sc r (plainsF its sc l n)
  | [], r, n => by rw [List.nil_append, plainsF]
  | e :: l, r, n => by rw [List.cons_append, plainsF, plainsF, plainsF_app its sc l r]
theorem plainsF_step (its : List Itm) (sc : List Lc) {l : List Ex} {k : Nat} {e : Ex} (h : l[k]? = some e) (n : Nat) : plainsF its sc (l.take (k + 1)) n = plainsF its sc (l.take k) n ||| plainF its sc e := by
  rw [take_succ_get h, plainsF_app, plainsF, plainsF]
theorem stmsF_app (its : List Itm) (own : Nat) (at_ : Int) : ∀ (l r : List Stm) (sc : List Lc) (un : Nat) (s : FW), stmsF its own at_ (l ++ r) sc un s = stmsF its own at_ r (stmsF its own at_ l sc un s).1 un (stmsF its own at_ l sc un s).2
  | [], r, sc, un, s => by rw [List.nil_append, stmsF]
  | e :: l, r, sc, un, s => by rw [List.cons_append, stmsF, stmsF, stmsF_app its own at_ l r]
theorem stmsF_step (its : List Itm) (own : Nat) (at_ : Int) {l : List Stm} {k : Nat} {x : Stm} (h : l[k]? = some x) (sc : List Lc) (un : Nat) (s : FW) :
    stmsF its own at_ (l.take (k + 1)) sc un s = stmF its own at_ x (stmsF its own at_ (l.take k) sc un s).1 un (stmsF its own at_ (l.take k) sc un s).2 := by
  rw [take_succ_get h, stmsF_app, stmsF, stmsF]
/-! how much is told -/
theorem hit_ds (s : FW) (at_ : Int) (f t n : Nat) : (s.hit at_ f t n).ds = s.ds := by rw [FW.hit]; split <;> rfl
theorem ask_n (s : FW) (a b f t : Nat) (n : List UInt8) : s.ds.length ≤ (s.ask a b f t n).ds.length ∧ (s.ask a b f t n).ds.length ≤ s.ds.length + 1 := by
  rw [FW.ask]
  split
  · omega
  · simp [FW.tell]
theorem askFloor_n (its : List Itm) (un : Nat) (n : List UInt8) (f t : Nat) (s : FW) : s.ds.length ≤ (askFloor its un n f t s).ds.length ∧ (askFloor its un n f t s).ds.length ≤ s.ds.length + 1 := by
  rw [askFloor]
  split
  · exact ask_n _ _ _ _ _ _
  · omega
theorem askCh_n (its : List Itm) (a : Nat) (n : List UInt8) (f t : Nat) (s : FW) : s.ds.length ≤ (askCh its a n f t s).ds.length ∧ (askCh its a n f t s).ds.length ≤ s.ds.length + 1 := by
  rw [askCh]
  split
  · exact ask_n _ _ _ _ _ _
  · omega
theorem askArg_n (its : List Itm) (n : List UInt8) (i a f t : Nat) (s : FW) : s.ds.length ≤ (askArg its n i a f t s).ds.length ∧ (askArg its n i a f t s).ds.length ≤ s.ds.length + 1 := by
  rw [askArg]
  split
  · split
    · exact ask_n _ _ _ _ _ _
    · omega
  · omega
mutual
theorem exF_n (its : List Itm) (at_ : Int) (sc : List Lc) (un : Nat) : ∀ (e : Ex) (s : FW), s.ds.length ≤ (exF its at_ sc un e s).2.ds.length ∧ (exF its at_ sc un e s).2.ds.length + 1 ≤ s.ds.length + 2 * e.cnt
  | .mk k nm n args f t, s => by
    rw [exF, Ex.cnt]
    have h1 := opsF_n its at_ sc un args 0 s
    have h2 := argsF_n its at_ sc un nm args 0 s
    have h3 := askFloor_n its un nm f t (argsF its at_ sc un nm args 0 s)
    split
    · dsimp only; rw [hit_ds]; omega
    · split
      · dsimp only; rw [hit_ds]; omega
      · split
        · dsimp only; rw [hit_ds]; omega
        · dsimp only; rw [hit_ds]; omega
theorem opsF_n (its : List Itm) (at_ : Int) (sc : List Lc) (un : Nat) : ∀ (l : List Ex) (n : Nat) (s : FW), s.ds.length ≤ (opsF its at_ sc un l n s).2.ds.length ∧ (opsF its at_ sc un l n s).2.ds.length ≤ s.ds.length + 2 * exsCnt l
  | [], n, s => by rw [opsF, exsCnt]; exact ⟨by dsimp only; omega, by dsimp only; omega⟩
  | e :: l, n, s => by
    rw [opsF, exsCnt]
    have h1 := exF_n its at_ sc un e s
    have h2 := opsF_n its at_ sc un l (n ||| (exF its at_ sc un e s).1) (exF its at_ sc un e s).2
    omega
theorem argsF_n (its : List Itm) (at_ : Int) (sc : List Lc) (un : Nat) (nm : List UInt8) : ∀ (l : List Ex) (i : Nat) (s : FW), s.ds.length ≤ (argsF its at_ sc un nm l i s).ds.length ∧ (argsF its at_ sc un nm l i s).ds.length ≤ s.ds.length + 2 * exsCnt l
  | [], i, s => by rw [argsF, exsCnt]; omega
  | e :: l, i, s => by
    rw [argsF, exsCnt]
    have h1 := exF_n its at_ sc un e s
    have h3 := askArg_n its nm i ((exF its at_ sc un e s).1 ||| un) e.fr e.to (exF its at_ sc un e s).2
    have h2 := argsF_n its at_ sc un nm l (i + 1) (askArg its nm i ((exF its at_ sc un e s).1 ||| un) e.fr e.to (exF its at_ sc un e s).2)
    omega
 end
mutual
theorem stmF_n (its : List Itm) (own : Nat) (at_ : Int) : ∀ (x : Stm) (sc : List Lc) (un : Nat) (s : FW), s.ds.length ≤ (stmF its own at_ x sc un s).2.ds.length ∧ (stmF its own at_ x sc un s).2.ds.length ≤ s.ds.length + 2 * x.cnt ∧
      sc.length ≤ (stmF its own at_ x sc un s).1.length ∧ (stmF its own at_ x sc un s).1.length ≤ sc.length + 1
  | .mk k nm a lb o e thn els f t, sc, un, s => by
    rw [stmF, Stm.cnt]
    try dsimp only
    generalize unF its sc k un e = un1
    have h1 := exF_n its at_ sc un1 e s
    generalize exF its at_ sc un1 e s = r at h1 ⊢
    have h2 := ask_n r.2 (r.1 ||| un1) (if o = true then r.1 ||| un1 else lb) f t nm
    have h3 := ask_n r.2 (r.1 ||| un1) (getF sc nm) f t nm
    have h4 := ask_n r.2 (r.1 ||| un1) own f t nm
    have h5 := askCh_n its (r.1 ||| un1) nm f t r.2
    have h6 := stmsF_n its own at_ thn sc (r.1 ||| un1) r.2
    have h7 := stmsF_n its own at_ els sc (r.1 ||| un1) (stmsF its own at_ thn sc (r.1 ||| un1) r.2).2
    split
    · dsimp only; rw [List.length_append, List.length_singleton]; omega
    · split
      · dsimp only; omega
      · split
        · dsimp only; omega
        · split
          · dsimp only; omega
          · split
            · dsimp only; omega
            · dsimp only; omega
theorem stmsF_n (its : List Itm) (own : Nat) (at_ : Int) : ∀ (l : List Stm) (sc : List Lc) (un : Nat) (s : FW), s.ds.length ≤ (stmsF its own at_ l sc un s).2.ds.length ∧ (stmsF its own at_ l sc un s).2.ds.length ≤ s.ds.length + 2 * stmsCnt l ∧
      sc.length ≤ (stmsF its own at_ l sc un s).1.length ∧ (stmsF its own at_ l sc un s).1.length ≤ sc.length + l.length
  | [], sc, un, s => by rw [stmsF, stmsCnt]; exact ⟨by dsimp only; omega, by dsimp only; omega, by dsimp only; omega, by dsimp only; simp⟩
  | x :: l, sc, un, s => by
    rw [stmsF, stmsCnt, List.length_cons]
    have h1 := stmF_n its own at_ x sc un s
    have h2 := stmsF_n its own at_ l (stmF its own at_ x sc un s).1 un (stmF its own at_ x sc un s).2
    omega
 end
theorem stmF_pre (its : List Itm) (own : Nat) (at_ : Int) (x : Stm) (sc : List Lc) (un : Nat) (s : FW) : sc <+: (stmF its own at_ x sc un s).1 := by
  cases x with
  | mk k nm a lb o e thn els f t =>
  rw [stmF]
  try dsimp only
  split
  · exact List.prefix_append _ _
  · split
    · exact List.prefix_refl _
    · split
      · exact List.prefix_refl _
      · split
        · exact List.prefix_refl _
        · split <;> exact List.prefix_refl _
theorem stmsF_pre (its : List Itm) (own : Nat) (at_ : Int) : ∀ (l : List Stm) (sc : List Lc) (un : Nat) (s : FW), sc <+: (stmsF its own at_ l sc un s).1
  | [], sc, un, s => by rw [stmsF]; exact List.prefix_refl _
  | x :: l, sc, un, s => by rw [stmsF]; exact (stmF_pre its own at_ x sc un s).trans (stmsF_pre its own at_ l _ _ _)
theorem stmsF_back (its : List Itm) (own : Nat) (at_ : Int) (l : List Stm) (sc : List Lc) (un : Nat) (s : FW) : (stmsF its own at_ l sc un s).1.take sc.length = sc :=
  (List.prefix_iff_eq_take.1 (stmsF_pre its own at_ l sc un s)).symm
/-! labels are labels -/
def scLab (sc : List Lc) : Prop := ∀ l ∈ sc, l.at_ < 256
def itLab (its : List Itm) : Prop := ∀ it ∈ its, it.label < 256 ∧ ∀ p ∈ it.params, p.label < 256
theorem getF_lt {sc : List Lc} (h : scLab sc) (n : List UInt8) : getF sc n < 256 := by
  rw [getF]
  split
  · rename_i l hl
    exact h l (findLc_mem hl).1
  · omega
theorem findIt_lt {its : List Itm} {k : Int} {n : List UInt8} {j : Nat} (h : findIt its k n = some j) : j < its.length ∧ ((itNo its j).kind : Int) = k ∧ (itNo its j).name = n ∧ n ≠ [] ∧ itNo its j ∈ its := by
  obtain ⟨h1, h2, _⟩ := List.findIdx?_eq_some_iff_getElem.1 h
  have e : itNo its j = its[j] := by rw [itNo, List.getD_eq_getElem?_getD, List.getElem?_eq_getElem h1]; rfl
  rw [e]
  simp only [itIs, Bool.and_eq_true, decide_eq_true_eq] at h2
  exact ⟨h1, h2.1, h2.2.1, h2.2.2, List.getElem_mem h1⟩
theorem callLab_lt {its : List Itm} (h : itLab its) (n : List UInt8) : callLab its n < 256 := by
  rw [callLab]
  split
  · rename_i j hj
    exact (h _ (findIt_lt hj).2.2.2.2).1
  · omega
mutual
theorem exF_lt {its : List Itm} (h : itLab its) (at_ : Int) {sc : List Lc} (hs : scLab sc) (un : Nat) : ∀ (e : Ex) (s : FW), (exF its at_ sc un e s).1 < 256
  | .mk k nm n args f t, s => by
    rw [exF]
    split
    · exact getF_lt hs _
    · split
      · exact opsF_lt h at_ hs un args 0 s (by omega)
      · split
        · exact callLab_lt h _
        · dsimp only; omega
theorem opsF_lt {its : List Itm} (h : itLab its) (at_ : Int) {sc : List Lc} (hs : scLab sc) (un : Nat) : ∀ (l : List Ex) (n : Nat) (s : FW), n < 256 → (opsF its at_ sc un l n s).1 < 256
  | [], n, s, hn => by rw [opsF]; exact hn
  | e :: l, n, s, hn => by rw [opsF]; exact opsF_lt h at_ hs un l _ _ (or_lt hn (exF_lt h at_ hs un e s))
 end
mutual
theorem plainF_lt {its : List Itm} (h : itLab its) {sc : List Lc} (hs : scLab sc) : ∀ (e : Ex), plainF its sc e < 256
  | .mk k nm n args f t => by
    rw [plainF]
    split
    · exact getF_lt hs _
    · split
      · exact plainsF_lt h hs args 0 (by omega)
      · split
        · exact callLab_lt h _
        · omega
theorem plainsF_lt {its : List Itm} (h : itLab its) {sc : List Lc} (hs : scLab sc) : ∀ (l : List Ex) (n : Nat), n < 256 → plainsF its sc l n < 256
  | [], n, hn => by rw [plainsF]; exact hn
  | e :: l, n, hn => by rw [plainsF]; exact plainsF_lt h hs l _ (or_lt hn (plainF_lt h hs e))
 end
theorem meetF_lt (its : List Itm) (l : List Rf) : meetF its l < 256 := by
  have key : ∀ (l : List Rf) (n : Nat), n < 256 → l.foldl (meetStep its) n < 256 := by
    intro l
    induction l with
    | nil => intro n h; exact h
    | cons x l ih =>
      intro n h
      rw [List.foldl_cons]
      refine ih _ ?_
      rw [meetStep]
      split
      · exact and_lt h
      · exact h
  exact key l 255 (by omega)
theorem unF_lt {its : List Itm} (h : itLab its) {sc : List Lc} (hs : scLab sc) (k : Nat) {un : Nat} (hu : un < 256) (e : Ex) : unF its sc k un e < 256 := by
  rw [unF]
  split
  · exact or_lt (plainF_lt h hs e) hu
  · exact hu
theorem scLab_snoc {sc : List Lc} (h : scLab sc) {n : List UInt8} {a : Nat} (ha : a < 256) : scLab (sc ++ [⟨n, a⟩]) := fun l hl => by
  rcases List.mem_append.1 hl with hl | hl
  · exact h l hl
  · obtain rfl := List.mem_singleton.1 hl
    exact ha
theorem stmF_lab {its : List Itm} (h : itLab its) (own : Nat) (at_ : Int) (x : Stm) {sc : List Lc} (hs : scLab sc) {un : Nat} (hu : un < 256) (hx : x.label < 256) (s : FW) : scLab (stmF its own at_ x sc un s).1 := by
  cases x with
  | mk k nm a lb o e thn els f t =>
  rw [stmF]
  try dsimp only
  have h1 := unF_lt h hs k hu e
  generalize unF its sc k un e = un1 at h1 ⊢
  have h2 := exF_lt h at_ hs un1 e s
  split
  · refine scLab_snoc hs ?_
    split
    · exact or_lt h2 h1
    · exact hx
  · split
    · exact hs
    · split
      · exact hs
      · split
        · exact hs
        · split <;> exact hs
theorem parsF_lab {its : List Itm} (h : itLab its) {it : Itm} (hi : it ∈ its) : scLab (parsF it.params) := fun l hl => by
  obtain ⟨p, hp, rfl⟩ := List.mem_map.1 hl
  exact (h it hi).2 p hp
end Go.Sp
end
section
namespace Go.Sp
def anyE : PE := fun _ _ _ _ _ _ => True
theorem itNo_mem {its : List Itm} {i : Nat} (h : i < its.length) : itNo its i ∈ its := by
  rw [itNo, List.getD_eq_getElem?_getD, List.getElem?_eq_getElem h]; exact List.getElem_mem h
theorem itNo_get {its : List Itm} {i : Nat} (h : i < its.length) : its[i]? = some (itNo its i) := by
  rw [itNo, List.getD_eq_getElem?_getD, List.getElem?_eq_getElem h]; rfl
/-- the second has channels' labels that are as great at least. -/
structure Up (its its' : List Itm) : Prop where
  len : its'.length = its.length
  kind : ∀ j, (itNo its' j).kind = (itNo its j).kind
  name : ∀ j, (itNo its' j).name = (itNo its j).name
  params : ∀ j, (itNo its' j).params = (itNo its j).params
  sends : ∀ j, (itNo its' j).sends = (itNo its j).sends
  body : ∀ j, (itNo its' j).body = (itNo its j).body
  own : ∀ j, (itNo its j).kind ≠ 1 → (itNo its' j).label = (itNo its j).label
  up : ∀ j a, flows a (itNo its j).label = true → flows a (itNo its' j).label = true
theorem Up.find {its its' : List Itm} (h : Up its its') (k : Int) (n : List UInt8) : findIt its' k n = findIt its k n := by
  have e : ∀ j (h1 : j < its'.length) (h2 : j < its.length), itIs k n its'[j] = itIs k n its[j] := fun j h1 h2 => by
    have a1 := h.kind j
    have a2 := h.name j
    have e1 : itNo its' j = its'[j] := by have := itNo_get h1; rw [List.getElem?_eq_getElem h1] at this; exact (Option.some.inj this).symm
    have e2 : itNo its j = its[j] := by have := itNo_get h2; rw [List.getElem?_eq_getElem h2] at this; exact (Option.some.inj this).symm
    rw [e1, e2] at a1 a2
    rw [itIs, itIs, a1, a2]
  have hl := h.len
  rw [findIt, findIt]
  cases hf : its.findIdx? (itIs k n) with
  | none =>
    rw [List.findIdx?_eq_none_iff] at hf ⊢
    intro x hx
    obtain ⟨j, hj, rfl⟩ := List.getElem_of_mem hx
    rw [e j hj (by omega)]
    exact hf _ (List.getElem_mem _)
  | some j =>
    rw [List.findIdx?_eq_some_iff_getElem] at hf ⊢
    obtain ⟨h1, h2, h3⟩ := hf
    exact ⟨by omega, by rw [e j (by omega) h1]; exact h2, fun i hi => by rw [e i (by omega) (by omega)]; exact h3 i hi⟩
theorem Up.callLab {its its' : List Itm} (h : Up its its') (n : List UInt8) : callLab its' n = callLab its n := by
  rw [Sp.callLab, Sp.callLab, h.find]
  split
  · rename_i j hj
    exact h.own j (by have := (findIt_lt hj).2.1; omega)
  · rfl
theorem Up.meet {its its' : List Itm} (h : Up its its') (l : List Rf) (a : Nat) (hf : flows a (meetF its l) = true) : flows a (meetF its' l) = true := by
  have key : ∀ (l : List Rf) (n n' : Nat), (flows a n = true → flows a n' = true) → flows a (l.foldl (meetStep its) n) = true → flows a (l.foldl (meetStep its') n') = true := by
    intro l
    induction l with
    | nil => intro n n' h1 h2; exact h1 h2
    | cons x l ih =>
      intro n n' h1 h2
      rw [List.foldl_cons] at h2 ⊢
      refine ih _ _ (fun h3 => ?_) h2
      rw [meetStep] at h3 ⊢
      rw [h.find]
      cases hx : findIt its 1 x.name with
      | none => rw [hx] at h3; exact h1 h3
      | some j =>
        rw [hx] at h3
        dsimp only at h3 ⊢
        rw [flows_and, Bool.and_eq_true] at h3 ⊢
        exact ⟨h1 h3.1, h.up j a h3.2⟩
  exact key l 255 255 id hf
theorem ask_up {s : FW} {a b b' f t : Nat} {n : List UInt8} (h : flows a b = true → flows a b' = true) (h0 : (s.ask a b f t n).ds = []) : s.ask a b' f t n = s.ask a b f t n := by
  rw [FW.ask] at h0 ⊢
  rw [FW.ask]
  split at h0
  · rename_i hf; rw [if_pos (h hf), if_pos hf]
  · simp [FW.tell] at h0
theorem nil_of {α : Type} {l r : List α} (h : l.length ≤ r.length) (h0 : r = []) : l = [] := by
  rw [h0] at h; exact List.length_eq_zero_iff.1 (by simpa using h)
theorem Up.askFloor {its its' : List Itm} (h : Up its its') (un : Nat) (n : List UInt8) (f t : Nat) (s : FW) (h0 : (askFloor its un n f t s).ds = []) : askFloor its' un n f t s = askFloor its un n f t s := by
  rw [Sp.askFloor] at h0 ⊢
  rw [Sp.askFloor, h.find]
  split
  · rename_i j hj
    rw [hj] at h0
    rw [h.sends]
    exact ask_up (h.meet _ _) h0
  · rfl
theorem Up.askArg {its its' : List Itm} (h : Up its its') (n : List UInt8) (i a f t : Nat) (s : FW) : askArg its' n i a f t s = askArg its n i a f t s := by
  rw [Sp.askArg, Sp.askArg, h.find]
  split
  · rw [h.params]
  · rfl
theorem Up.askCh {its its' : List Itm} (h : Up its its') (a : Nat) (n : List UInt8) (f t : Nat) (s : FW) (h0 : (askCh its a n f t s).ds = []) : askCh its' a n f t s = askCh its a n f t s := by
  rw [Sp.askCh] at h0 ⊢
  rw [Sp.askCh, h.find]
  split
  · rename_i j hj
    rw [hj] at h0
    exact ask_up (h.up j a) h0
  · rfl
mutual
theorem Up.exF {its its' : List Itm} (h : Up its its') (at_ : Int) (sc : List Lc) (un : Nat) : ∀ (e : Ex) (s : FW), (Sp.exF its at_ sc un e s).2.ds = [] → Sp.exF its' at_ sc un e s = Sp.exF its at_ sc un e s
  | .mk k nm n args f t, s, h0 => by
    rw [Sp.exF] at h0 ⊢
    rw [Sp.exF, h.callLab]
    split
    · rfl
    · rename_i hk
      rw [if_neg hk] at h0
      split
      · rename_i hk3
        rw [if_pos hk3] at h0
        dsimp only at h0
        rw [hit_ds] at h0
        rw [Up.opsF h at_ sc un args 0 s h0]
      · rename_i hk3
        rw [if_neg hk3] at h0
        split
        · rename_i hk4
          rw [if_pos hk4] at h0
          dsimp only at h0
          rw [hit_ds] at h0
          have h1 := nil_of (askFloor_n its un nm f t (Sp.argsF its at_ sc un nm args 0 s)).1 h0
          rw [Up.argsF h at_ sc un nm args 0 s h1, h.askFloor un nm f t _ h0]
        · rfl
theorem Up.opsF {its its' : List Itm} (h : Up its its') (at_ : Int) (sc : List Lc) (un : Nat) : ∀ (l : List Ex) (n : Nat) (s : FW), (Sp.opsF its at_ sc un l n s).2.ds = [] → Sp.opsF its' at_ sc un l n s = Sp.opsF its at_ sc un l n s
  | [], n, s, h0 => by rw [Sp.opsF, Sp.opsF]
  | e :: l, n, s, h0 => by
    rw [Sp.opsF] at h0 ⊢
    rw [Sp.opsF]
    have h1 := nil_of (opsF_n its at_ sc un l (n ||| (Sp.exF its at_ sc un e s).1) (Sp.exF its at_ sc un e s).2).1 h0
    rw [Up.exF h at_ sc un e s h1]
    exact Up.opsF h at_ sc un l _ _ h0
theorem Up.argsF {its its' : List Itm} (h : Up its its') (at_ : Int) (sc : List Lc) (un : Nat) (nm : List UInt8) : ∀ (l : List Ex) (i : Nat) (s : FW), (Sp.argsF its at_ sc un nm l i s).ds = [] → Sp.argsF its' at_ sc un nm l i s = Sp.argsF its at_ sc un nm l i s
  | [], i, s, h0 => by rw [Sp.argsF, Sp.argsF]
  | e :: l, i, s, h0 => by
    rw [Sp.argsF] at h0 ⊢
    rw [Sp.argsF]
    have h1 := nil_of (argsF_n its at_ sc un nm l (i + 1) _).1 h0
    have h2 := nil_of (askArg_n its nm i ((Sp.exF its at_ sc un e s).1 ||| un) e.fr e.to (Sp.exF its at_ sc un e s).2).1 h1
    rw [Up.exF h at_ sc un e s h2, h.askArg]
    exact Up.argsF h at_ sc un nm l _ _ h0
 end
mutual
theorem Up.plainF {its its' : List Itm} (h : Up its its') (sc : List Lc) : ∀ (e : Ex), Sp.plainF its' sc e = Sp.plainF its sc e
  | .mk k nm n args f t => by rw [Sp.plainF, Sp.plainF, h.callLab, Up.plainsF h sc args 0]
theorem Up.plainsF {its its' : List Itm} (h : Up its its') (sc : List Lc) : ∀ (l : List Ex) (n : Nat), Sp.plainsF its' sc l n = Sp.plainsF its sc l n
  | [], n => by rw [Sp.plainsF, Sp.plainsF]
  | e :: l, n => by rw [Sp.plainsF, Sp.plainsF, Up.plainF h sc e, Up.plainsF h sc l]
 end
mutual
theorem Up.stmF {its its' : List Itm} (h : Up its its') (own : Nat) (at_ : Int) : ∀ (x : Stm) (sc : List Lc) (un : Nat) (s : FW), (Sp.stmF its own at_ x sc un s).2.ds = [] → Sp.stmF its' own at_ x sc un s = Sp.stmF its own at_ x sc un s
  | .mk k nm a lb o e thn els f t, sc, un, s, h0 => by
    have hu : unF its' sc k un e = unF its sc k un e := by rw [unF, unF, h.plainF]
    rw [Sp.stmF] at h0 ⊢
    rw [Sp.stmF, hu]
    try dsimp only at h0 ⊢
    generalize unF its sc k un e = un1 at h0 ⊢
    have he := Up.exF h at_ sc un1 e s
    have hn := exF_n its at_ sc un1 e s
    split
    · rename_i k1
      rw [if_pos k1] at h0
      dsimp only at h0
      rw [he (nil_of (ask_n _ _ _ _ _ _).1 h0)]
    · rename_i k1
      rw [if_neg k1] at h0
      split
      · rename_i k2
        rw [if_pos k2] at h0
        dsimp only at h0
        rw [he (nil_of (ask_n _ _ _ _ _ _).1 h0)]
      · rename_i k2
        rw [if_neg k2] at h0
        split
        · rename_i k5
          rw [if_pos k5] at h0
          dsimp only at h0
          rw [he (nil_of (askCh_n _ _ _ _ _ _).1 h0), h.askCh _ _ _ _ _ h0]
        · rename_i k5
          rw [if_neg k5] at h0
          split
          · rename_i k6
            rw [if_pos k6] at h0
            dsimp only at h0
            rw [he (nil_of (ask_n _ _ _ _ _ _).1 h0)]
          · rename_i k6
            rw [if_neg k6] at h0
            split
            · rename_i k3
              rw [if_pos k3] at h0
              dsimp only at h0
              have h1 := nil_of (stmsF_n its own at_ els sc _ _).1 h0
              have h2 := nil_of (stmsF_n its own at_ thn sc _ _).1 h1
              rw [he h2, Up.stmsF h own at_ thn sc _ _ h1, Up.stmsF h own at_ els sc _ _ h0]
            · rename_i k3
              rw [if_neg k3] at h0
              dsimp only at h0
              rw [he h0]
theorem Up.stmsF {its its' : List Itm} (h : Up its its') (own : Nat) (at_ : Int) : ∀ (l : List Stm) (sc : List Lc) (un : Nat) (s : FW), (Sp.stmsF its own at_ l sc un s).2.ds = [] → Sp.stmsF its' own at_ l sc un s = Sp.stmsF its own at_ l sc un s
  | [], sc, un, s, h0 => by rw [Sp.stmsF, Sp.stmsF]
  | x :: l, sc, un, s, h0 => by
    rw [Sp.stmsF] at h0 ⊢
    rw [Sp.stmsF]
    have h1 := nil_of (stmsF_n its own at_ l (Sp.stmF its own at_ x sc un s).1 un (Sp.stmF its own at_ x sc un s).2).1 h0
    rw [Up.stmF h own at_ x sc un s h1]
    exact Up.stmsF h own at_ l _ _ _ h0
 end
end Go.Sp
end
