/- Own work: texts FwRow3, FwT, Label, FwTyM, SpecFlow, SpecInf, SpecInf2, one behind the other. -/
import Derived.Test.YtjfkjpbkmpofkaaIt13
import Derived.Laws.OwnMore
section
namespace Go.Fw
open Go
section
variable {P : Program} {N : Nat} {ds : List Deferred} {Q : Exit → Act → World → Prop} {K : Act → World → Prop} {KV : Act → Prop} {l l' : Log} {w w' w0 : World} {ops : Array Oper} {os : List Oper}
variable {d : Nat} {ty : TypeId} {pos : String} {af : Array Edge} {g : Option (Nat × Bool)} {t t' : TypeId} {x y z : Operand}
variable {E : Ent} {I I' : Imm} {H H' R G : List HItem}
/-- the zero of one cell. -/
class Zero1 (P : Program) (e : TypeId) (v : Value) : Prop where out : (P.info? e).bind (·.zero) = some v ∧ v.cells = #[v]
theorem Mem.rowCell {e : TypeId} {sz n cp b off : Nat} {xs : List Value} {v : Value} (ho : (HItem.row (.slice (some ⟨b, 0, none⟩) n cp) e sz n xs).ok w) (hc : xs[off]? = some v) :
    ∃ c fr, w.heap[b]? = some (.cells c e fr) ∧ c[off]? = some v := by
  rcases ho.2 with ⟨_, h0⟩ | ⟨g, cap, cur, hv, _, hg, _, _, _, ht⟩
  · have h1 := ho.1
    subst h0
    rw [Nat.zero_mul] at h1
    have : off < xs.length := (List.getElem?_eq_some_iff.1 hc).1
    omega
  · injection hv with e1 _ _
    injection e1 with e1
    injection e1 with e1
    subst e1
    refine ⟨cur, (0, 0), hg, ?_⟩
    rw [← ht, List.getElem?_take] at hc
    split at hc
    · simpa using hc
    · cases hc
theorem mq_loadRow [TyOne P t] {i b off n cp sz : Nat} {e : TypeId} {xs : List Value} {v : Value} (hm : Mem E I H w) (hw : want ops l ⟨some d, .load t x, ty, pos, af, g⟩ = some true) (hN : Nat.blt d N = true)
    (hx : ev l x = some (.pointer (some ⟨b, off, none⟩))) (hb : H[i]? = some (.row (.slice (some ⟨b, 0, none⟩) n cp) e sz n xs)) (hc : xs[off]? = some v)
    (k : WQ P N ds ops w K os ((d, v) :: l)) : WQ P N ds ops w K (⟨some d, .load t x, ty, pos, af, g⟩ :: os) l := by
  obtain ⟨c, fr, h1, h2⟩ := Mem.rowCell (hm.ok _ (List.mem_of_getElem? hb)) hc
  exact q_load1 hw hN hx h1 h2 k
theorem mi_loadRow [TyOne P t] {i b off n cp sz : Nat} {e : TypeId} {xs : List Value} {v : Value} (hm : Mem E I H w) (hw : want ops l ⟨some d, .load t x, ty, pos, af, g⟩ = some true) (hN : Nat.blt d N = true)
    (hx : ev l x = some (.pointer (some ⟨b, off, none⟩))) (hb : H[i]? = some (.row (.slice (some ⟨b, 0, none⟩) n cp) e sz n xs)) (hc : xs[off]? = some v)
    (k : WL P N ds ops Q os ((d, v) :: l) w) : WL P N ds ops Q (⟨some d, .load t x, ty, pos, af, g⟩ :: os) l w := by
  obtain ⟨c, fr, h1, h2⟩ := Mem.rowCell (hm.ok _ (List.mem_of_getElem? hb)) hc
  exact op_load1 hw hN hx h1 h2 k
/-- a cell of an owned row, wherever it stands, is written. -/
theorem mi_storeRow {by_ : Nat} [Elem P t 1 by_] {i b off n cap sz : Nat} {e : TypeId} {xs : List Value} {v : Value} {dst : Option Nat} (hm : Mem E I H w) (hd : dst = none) (hw : want ops l ⟨dst, .store t x y, ty, pos, af, g⟩ = some true)
    (hx : ev l x = some (.pointer (some ⟨b, off, none⟩))) (hy : ev l y = some v) (hi : H[i]? = some (.row (.slice (some ⟨b, 0, none⟩) n cap) e sz n xs)) (hn1 : v.cells.toList = [v]) (h1 : v.oneCell' = true) (ho : off < xs.length)
    (k : ∀ w', Mem E I (H.set i (.row (.slice (some ⟨b, 0, none⟩) n cap) e sz n (xs.set off v))) w' → WL P N ds ops Q os l w') :
    WL P N ds ops Q (⟨dst, .store t x y, ty, pos, af, g⟩ :: os) l w := by
  refine m_storeRow (hm.front i hi) hd hw hx hy hn1 h1 ho (fun w2 hm2 => k w2 (hm2.perm ?_))
  have hlt : i < H.length := (List.getElem?_eq_some_iff.1 hi).1
  have h := front_perm (H.set i (.row (.slice (some ⟨b, 0, none⟩) n cap) e sz n (xs.set off v))) i _ (List.getElem?_set_self hlt)
  rw [List.eraseIdx_set_eq] at h
  exact h.symm
end
/-! rows of rows: each with its slice. -/
abbrev Tri (α : Type) := List α × Option Addr × Nat
abbrev Tri.nil {α : Type} : Tri α := ([], none, 0)
end Go.Fw
end
section
namespace Go.Fw
open Go
section
variable {P : Program} {N : Nat} {ds : List Deferred} {Q : Exit → Act → World → Prop} {X : List Nat} {l l' : Log} {w w' w0 : World} {ops : Array Oper} {os tail : List Oper} {o : Oper}
variable {d : Nat} {ty : TypeId} {pos : String} {af : Array Edge} {g : Option (Nat × Bool)} {t t' : TypeId} {x y : Operand} {ik : IntKind}
theorem ws_split {j : Nat} {b : Bool} {c : Bool} {t : Nat} (_hg : o.guard = some (j, c)) (_ht : (ops[j]?).bind (·.dst) = some t) (hb : lk l t = some (.bool b))
    (h1 : b = true → WS P N ds ops Q X w0 (o :: os) tail ((t, .bool true) :: l) w) (h0 : b = false → WS P N ds ops Q X w0 (o :: os) tail ((t, .bool false) :: l) w) :
    WS P N ds ops Q X w0 (o :: os) tail l w := by
  have key : ∀ c, b = c → WS P N ds ops Q X w0 (o :: os) tail ((t, .bool c) :: l) w → WS P N ds ops Q X w0 (o :: os) tail l w := fun c e h => ⟨fun a ha => by
    subst e
    refine h.run a ⟨ha.size, ha.defs, fun s v hv => ?_⟩
    simp only [lk] at hv
    cases hs : Nat.beq s t with
    | true => rw [hs] at hv; have := Nat.eq_of_beq_eq_true hs; subst this; simp at hv; subst hv; exact ha.vals _ _ hb
    | false => rw [hs] at hv; exact ha.vals _ _ (by simpa using hv)⟩
  cases hb' : b with
  | true => exact key true hb' (h1 hb')
  | false => exact key false hb' (h0 hb')
theorem ws_split_dec {j : Nat} {p : Prop} [Decidable p] {c : Bool} {t : Nat} (hg : o.guard = some (j, c)) (ht : (ops[j]?).bind (·.dst) = some t) (hb : lk l t = some (.bool (decide p)))
    (h1 : p → WS P N ds ops Q X w0 (o :: os) tail ((t, .bool true) :: l) w) (h0 : ¬ p → WS P N ds ops Q X w0 (o :: os) tail ((t, .bool false) :: l) w) :
    WS P N ds ops Q X w0 (o :: os) tail l w :=
  ws_split hg ht hb (fun h => h1 (of_decide_eq_true h)) (fun h => h0 (of_decide_eq_false h))
theorem ws_skipC {d : Nat} (hC : Kept X w0 w) (hd : o.dst = some d) (hw : want ops l o = some false) (hN : Nat.blt d N = true)
    (k : WS P N ds ops Q X w0 os tail ((d, undef) :: l) w) : WS P N ds ops Q X w0 (o :: os) tail l w := ws_skip hd hw hN hC k
theorem s_move {x : Operand} {v : Value} (hC : Kept X w0 w) (hw : want ops l ⟨some d, .move x, ty, pos, af, g⟩ = some true) (hN : Nat.blt d N = true) (hx : ev l x = some v)
    (k : WS P N ds ops Q X w0 os tail ((d, v) :: l) w) : WS P N ds ops Q X w0 (⟨some d, .move x, ty, pos, af, g⟩ :: os) tail l w :=
  ws_value rfl hw hN (fun a ha => by simp [execOp, ha.ev hx]) hC k
theorem s_assign {x : Operand} {v : Value} (hC : Kept X w0 w) (hw : want ops l ⟨some d, .assign x, ty, pos, af, g⟩ = some true) (hN : Nat.blt d N = true) (hx : ev l x = some v)
    (k : WS P N ds ops Q X w0 os tail ((d, v) :: l) w) : WS P N ds ops Q X w0 (⟨some d, .assign x, ty, pos, af, g⟩ :: os) tail l w :=
  ws_value rfl hw hN (fun a ha => by simp [execOp, ha.ev hx]) hC k
theorem s_pick_true {c x y : Operand} {v : Value} (hC : Kept X w0 w) (hw : want ops l ⟨some d, .pick c x y, ty, pos, af, g⟩ = some true) (hN : Nat.blt d N = true)
    (hc : ev l c = some (.bool true)) (hx : ev l x = some v) (k : WS P N ds ops Q X w0 os tail ((d, v) :: l) w) : WS P N ds ops Q X w0 (⟨some d, .pick c x y, ty, pos, af, g⟩ :: os) tail l w :=
  ws_value rfl hw hN (fun a ha => by simp [execOp, ha.ev hc, ha.ev hx, asBool]) hC k
theorem s_pick_false {c x y : Operand} {v : Value} (hC : Kept X w0 w) (hw : want ops l ⟨some d, .pick c x y, ty, pos, af, g⟩ = some true) (hN : Nat.blt d N = true)
    (hc : ev l c = some (.bool false)) (hy : ev l y = some v) (k : WS P N ds ops Q X w0 os tail ((d, v) :: l) w) : WS P N ds ops Q X w0 (⟨some d, .pick c x y, ty, pos, af, g⟩ :: os) tail l w :=
  ws_value rfl hw hN (fun a ha => by simp [execOp, ha.ev hc, ha.ev hy, asBool]) hC k
theorem s_neq {a b : Int} (hC : Kept X w0 w) (hw : want ops l ⟨some d, .binOp .neq t x y t', ty, pos, af, g⟩ = some true) (hN : Nat.blt d N = true) (hx : ev l x = some (.int ik a)) (hy : ev l y = some (.int ik b))
    (k : WS P N ds ops Q X w0 os tail ((d, .bool (decide (a ≠ b))) :: l) w) : WS P N ds ops Q X w0 (⟨some d, .binOp .neq t x y t', ty, pos, af, g⟩ :: os) tail l w :=
  ws_value rfl hw hN (fun c hc => by simp [execOp, hc.ev hx, hc.ev hy, eqGuard, binOp, Op.intCmp, beq_dec, bne]) hC k
theorem s_neq_str {s u : List UInt8} (hC : Kept X w0 w) (hw : want ops l ⟨some d, .binOp .neq t x y t', ty, pos, af, g⟩ = some true) (hN : Nat.blt d N = true)
    (hx : ev l x = some (str s)) (hy : ev l y = some (str u)) (k : WS P N ds ops Q X w0 os tail ((d, .bool (decide (s ≠ u))) :: l) w) :
    WS P N ds ops Q X w0 (⟨some d, .binOp .neq t x y t', ty, pos, af, g⟩ :: os) tail l w :=
  ws_value rfl hw hN (fun c hc => by simp [execOp, hc.ev hx, hc.ev hy, eqGuard, binOp, Op.stringOp]; exact beq_dec s u) hC k
theorem s_extract {n : Nat} {vs : List Value} {v : Value} (hC : Kept X w0 w) (hw : want ops l ⟨some d, .extract x n, ty, pos, af, g⟩ = some true) (hN : Nat.blt d N = true)
    (hx : ev l x = some (.tuple vs.toArray)) (hv : vs[n]? = some v) (k : WS P N ds ops Q X w0 os tail ((d, v) :: l) w) : WS P N ds ops Q X w0 (⟨some d, .extract x n, ty, pos, af, g⟩ :: os) tail l w :=
  ws_value rfl hw hN (fun c hc => by simp [execOp, hc.ev hx, Instr.extract, hv]) hC k
theorem s_load1 [TyOne P t] {b off : Nat} {c : Array Value} {e : TypeId} {fr : Nat × Nat} {v : Value} (hC : Kept X w0 w) (hw : want ops l ⟨some d, .load t x, ty, pos, af, g⟩ = some true) (hN : Nat.blt d N = true)
    (hx : ev l x = some (.pointer (some ⟨b, off, none⟩))) (hb : w.heap[b]? = some (.cells c e fr)) (hc : c[off]? = some v)
    (k : WS P N ds ops Q X w0 os tail ((d, v) :: l) w) : WS P N ds ops Q X w0 (⟨some d, .load t x, ty, pos, af, g⟩ :: os) tail l w :=
  ws_value rfl hw hN (fun a ha => by
    obtain ⟨dd, h1, h2⟩ := TyOne.out (P := P) (t := t)
    have h4 := cell_of hb hc
    simp [execOp, Instr.loadAt, Instr.sureAddr, loadVar, run_isAgg h1, h2, ha.ev hx, load, Sem.run, h4]) hC k
theorem s_loadN {n : Nat} [TyAgg P t n] {b off : Nat} {c : Array Value} {e : TypeId} {fr : Nat × Nat} {vs : List Value} (hC : Kept X w0 w) (hw : want ops l ⟨some d, .load t x, ty, pos, af, g⟩ = some true) (hN : Nat.blt d N = true)
    (hx : ev l x = some (.pointer (some ⟨b, off, none⟩))) (hb : w.heap[b]? = some (.cells c e fr)) (hl : vs.length = n) (hc : ∀ j v, vs[j]? = some v → c[off + j]? = some v)
    (k : WS P N ds ops Q X w0 os tail ((d, .agg vs.toArray) :: l) w) : WS P N ds ops Q X w0 (⟨some d, .load t x, ty, pos, af, g⟩ :: os) tail l w :=
  ws_value rfl hw hN (fun a ha => by
    obtain ⟨dd, i, h1, h2, h3, h4⟩ := TyAgg.out (P := P) (t := t)
    have h5 := run_loadCells_list (P := P) w ⟨b, off, none⟩ vs (fun j v hv => by rw [Addr.add_lit]; exact cell_of hb (hc j v hv))
    rw [hl] at h5
    simp [execOp, Instr.loadAt, Instr.sureAddr, loadVar, run_isAgg h1, h2, ha.ev hx, sizeOf, typeInfo, h3, h4, h5]) hC k
theorem s_neq_bool [TyBool P t] {a b : Bool} (hC : Kept X w0 w) (hw : want ops l ⟨some d, .binOp .neq t x y t', ty, pos, af, g⟩ = some true) (hN : Nat.blt d N = true)
    (hx : ev l x = some (.bool a)) (hy : ev l y = some (.bool b)) (k : WS P N ds ops Q X w0 os tail ((d, .bool (decide (a ≠ b))) :: l) w) :
    WS P N ds ops Q X w0 (⟨some d, .binOp .neq t x y t', ty, pos, af, g⟩ :: os) tail l w :=
  ws_value rfl hw hN (fun c hc => by
    have h1 := run_equalIn_bool' (P := P) w 9999 t a b (TyBool.out (P := P) (t := t))
    simp only [execOp, hc.ev hx, hc.ev hy, eqGuard, binOp, Op.equal, Op.maxDepth]
    simp [h1, beq_dec]) hC k
theorem s_neq_flat {ks : List FK} [FlatT P t ks] {xs ys : List Value} (hC : Kept X w0 w) (hw : want ops l ⟨some d, .binOp .neq t x y t', ty, pos, af, g⟩ = some true) (hN : Nat.blt d N = true)
    (hx : ev l x = some (.agg xs.toArray)) (hy : ev l y = some (.agg ys.toArray)) (h1 : fitCells ks xs = true) (h2 : fitCells ks ys = true)
    (k : WS P N ds ops Q X w0 os tail ((d, .bool (!(eqCells xs ys))) :: l) w) : WS P N ds ops Q X w0 (⟨some d, .binOp .neq t x y t', ty, pos, af, g⟩ :: os) tail l w :=
  ws_value rfl hw hN (fun c hc => by
    obtain ⟨fs, a1, a2, a3, a4⟩ := FlatT.out (P := P) (t := t)
    have hf : P.fieldsOf t = fs := by simp [Program.fieldsOf, a1]
    have r1 := run_eqGuard_agg (P := P) w .neq t x y xs.toArray ys.toArray a4
    have r2 := run_equalIn_agg (P := P) w 9999 t xs.toArray ys.toArray (by rw [hf]; exact a1) a3
    rw [hf, run_flat xs ys _ _ 0 _ a2 h1 h2] at r2
    simp only [execOp, hc.ev hx, hc.ev hy, Sem.run_bind, r1, Result.andThen_ok, run_neq_struct, r2, Sem.run_pure, List.drop_zero]) hC k
theorem it_loadN {n : Nat} [TyAgg P t n] {I I0 : Imm} {H : List HItem} {b off tc : Nat} {cs : List Value} (hm : Mem ⟨w0, X, I0⟩ I H w) (hw : want ops l ⟨some d, .load t x, ty, pos, af, g⟩ = some true) (hN : Nat.blt d N = true)
    (hx : ev l x = some (.pointer (some ⟨b, off, none⟩))) (hp : PtrI I b off tc cs) (hc : cs.length = n)
    (k : WS P N ds ops Q X w0 os tail ((d, .agg cs.toArray) :: l) w) : WS P N ds ops Q X w0 (⟨some d, .load t x, ty, pos, af, g⟩ :: os) tail l w := by
  obtain ⟨c, fr, h1, h2⟩ := hp
  exact s_loadN hm.kept hw hN hx (hm.inv _ _ h1) hc h2 k
theorem it_loadO [TyOne P t] {I I0 : Imm} {H : List HItem} {b off j tc : Nat} {cs : List Value} {v : Value} (hm : Mem ⟨w0, X, I0⟩ I H w) (hw : want ops l ⟨some d, .load t x, ty, pos, af, g⟩ = some true) (hN : Nat.blt d N = true)
    (hx : ev l x = some (.pointer (some ⟨b, off + j, none⟩))) (hp : PtrI I b off tc cs) (hc : cs[j]? = some v)
    (k : WS P N ds ops Q X w0 os tail ((d, v) :: l) w) : WS P N ds ops Q X w0 (⟨some d, .load t x, ty, pos, af, g⟩ :: os) tail l w := by
  obtain ⟨c, fr, h1, h2⟩ := hp
  exact s_load1 hm.kept hw hN hx (hm.inv _ _ h1) (h2 j v hc) k
end
end Go.Fw
end
section
namespace Go.Proofs.Ytjfkjpbkmpofkaa
open Go.Fw

theorem c_join (a b : Nat) (ha : a < 256) (hb : b < 256) (w : World) : Cal Try.prog 46 #[.int .i64 a, .int .i64 b] w fun v w' => v = .int .i64 ((a ||| b : Nat) : Int) ∧ w' = w := by
  refine enter (N := 8) Try.func46 rfl [(0, .int .i64 a), (1, .int .i64 b)] args2 rfl ?_
  repeat' (first
  | refine op_move (k:=?_)
  | refine op_assign (k:=?_)
  | refine op_or (k:=?_)
  | refine wl_nil ?_
  | refine at_then_normal ?_
  | refine at_then_ret ?_
  | refine wc_seq ?_
  | refine wc_region ?_
  | refine wc_skip ?_
  | refine wc_ret ?_
  | refine at_ret1 (h:=?_))
  exact ⟨rfl, rfl⟩
end Go.Proofs.Ytjfkjpbkmpofkaa
end
section
namespace Go.Proofs.Ytjfkjpbkmpofkaa
open Go Go.Fw
instance : TyMap Try.prog 53 3 3 := ⟨by kernel_rfl⟩
instance : TyMap Try.prog 67 9 68 := ⟨by kernel_rfl⟩
instance : TyMap Try.prog 77 9 4 := ⟨by kernel_rfl⟩
instance : TyMap Try.prog 80 3 4 := ⟨by kernel_rfl⟩
instance : TyMap Try.prog 147 9 3 := ⟨by kernel_rfl⟩
end Go.Proofs.Ytjfkjpbkmpofkaa
end
section
namespace Go.Sp
/-- a local's label; of none it is the least one. -/
def getF (sc : List Lc) (n : List UInt8) : Nat := match findLc sc n with
  | some l => l.at_
  | none => 0
structure FW where
  ds : List Dg
  hv : Option Nat
def FW.hit (s : FW) (at_ : Int) (f t n : Nat) : FW := if s.hv = none ∧ (f : Int) ≤ at_ ∧ at_ < t then { s with hv := some n } else s
def callLab (its : List Itm) (n : List UInt8) : Nat := match findIt its 2 n with
  | some j => (itNo its j).label
  | none => 0
mutual
/-- a label, of which nothing is asked. -/
def plainF (its : List Itm) (sc : List Lc) : Ex → Nat
  | .mk k nm _ args _ _ => if k = 2 then getF sc nm else if k = 3 then plainsF its sc args 0 else if k = 4 then callLab its nm else 0
def plainsF (its : List Itm) (sc : List Lc) : List Ex → Nat → Nat
  | [], n => n
  | e :: es, n => plainsF its sc es (n ||| plainF its sc e)
 end
theorem plainsF_app (its : List Itm) (sc : List Lc) : ∀ (l r : List Ex) (n : Nat), plainsF its sc (l ++ r) n = plainsF its sc r (plainsF its sc l n)
  | [], r, n => by rw [List.nil_append, plainsF]
  | e :: l, r, n => by rw [List.cons_append, plainsF, plainsF, plainsF_app its sc l r]
theorem plainsF_step (its : List Itm) (sc : List Lc) {l : List Ex} {k : Nat} {e : Ex} (h : l[k]? = some e) (n : Nat) : plainsF its sc (l.take (k + 1)) n = plainsF its sc (l.take k) n ||| plainF its sc e := by
  rw [take_succ_get h, plainsF_app, plainsF, plainsF]
/-! how much is told -/
/-! labels are labels -/
def scLab (sc : List Lc) : Prop := ∀ l ∈ sc, l.at_ < 256
def itLab (its : List Itm) : Prop := ∀ it ∈ its, it.label < 256 ∧ ∀ p ∈ it.params, p.label < 256
theorem getF_lt {sc : List Lc} (h : scLab sc) (n : List UInt8) : getF sc n < 256 := by
  rw [getF]
  split
  · rename_i l hl
    exact h l (findLc_mem hl).1
  · omega
theorem findIt_lt {its : List Itm} {k : Int} {n : List UInt8} {j : Nat} (h : findIt its k n = some j) : j < its.length ∧ ((itNo its j).kind : Int) = k ∧ (itNo its j).name = n ∧ n ≠ [] ∧ itNo its j ∈ its := by
  obtain ⟨h1, h2, _⟩ := List.findIdx?_eq_some_iff_getElem.1 h
  have e : itNo its j = its[j] := by rw [itNo, List.getD_eq_getElem?_getD, List.getElem?_eq_getElem h1]; rfl
  rw [e]
  simp only [itIs, Bool.and_eq_true, decide_eq_true_eq] at h2
  exact ⟨h1, h2.1, h2.2.1, h2.2.2, List.getElem_mem h1⟩
theorem callLab_lt {its : List Itm} (h : itLab its) (n : List UInt8) : callLab its n < 256 := by
  rw [callLab]
  split
  · rename_i j hj
    exact (h _ (findIt_lt hj).2.2.2.2).1
  · omega
mutual
theorem plainF_lt {its : List Itm} (h : itLab its) {sc : List Lc} (hs : scLab sc) : ∀ (e : Ex), plainF its sc e < 256
  | .mk k nm n args f t => by
    rw [plainF]
    split
    · exact getF_lt hs _
    · split
      · exact plainsF_lt h hs args 0 (by omega)
      · split
        · exact callLab_lt h _
        · omega
theorem plainsF_lt {its : List Itm} (h : itLab its) {sc : List Lc} (hs : scLab sc) : ∀ (l : List Ex) (n : Nat), n < 256 → plainsF its sc l n < 256
  | [], n, hn => by rw [plainsF]; exact hn
  | e :: l, n, hn => by rw [plainsF]; exact plainsF_lt h hs l _ (or_lt hn (plainF_lt h hs e))
 end
end Go.Sp
end
section
namespace Go.Sp
/-- labels of lets that are open, by where they stand. -/
abbrev Lab := Nat → Nat
/-- a local: what its label is, or the open let whose label it has. -/
structure Li where
  name : List UInt8
  lab : Nat
  op : Option Nat
def Li.val (o : Lab) (l : Li) : Nat := match l.op with
  | none => l.lab
  | some f => o f
def lcOf (o : Lab) (sc : List Li) : List Lc := sc.map (fun l => ⟨l.name, l.val o⟩)
def findLi : List Li → List UInt8 → Option Li
  | [], _ => none
  | l :: sc, n => match findLi sc n with
    | some x => some x
    | none => if l.name = n then some l else none
def opsL (sc : List Li) : List Nat := sc.filterMap (·.op)
def upL (o : Lab) (f n : Nat) : Lab := fun g => if g = f then n else o g
abbrev LP := Lab × Bool
def raiseI (p : LP) (f n : Nat) : LP := if p.1 f ||| n = p.1 f then p else (upL p.1 f (p.1 f ||| n), true)
def raiseO (p : LP) (op : Option Nat) (n : Nat) : LP := match op with
  | none => p
  | some f => raiseI p f n
def opOf (o : Bool) (f : Nat) : Option Nat := if o = true then some f else none
def setI (p : LP) (sc : List Li) (nm : List UInt8) (n : Nat) : LP := match findLi sc nm with
  | some l => raiseO p l.op n
  | none => p
mutual
def stmI (its : List Itm) : Stm → List Li → Nat → LP → List Li × LP
  | .mk k nm _ lb o e thn els f _, sc, un, p =>
    if k = 1 then (sc ++ [⟨nm, lb, opOf o f⟩], raiseO p (opOf o f) (plainF its (lcOf p.1 sc) e ||| un)) else
    if k = 2 then (sc, setI p sc nm (plainF its (lcOf p.1 sc) e ||| un)) else
    if k = 3 ∨ k = 4 then (sc, (stmsI its els sc (plainF its (lcOf p.1 sc) e ||| un) (stmsI its thn sc (plainF its (lcOf p.1 sc) e ||| un) p).2).2) else (sc, p)
def stmsI (its : List Itm) : List Stm → List Li → Nat → LP → List Li × LP
  | [], sc, _, p => (sc, p)
  | x :: l, sc, un, p => stmsI its l (stmI its x sc un p).1 un (stmI its x sc un p).2
 end
mutual
def Stm.lets : Stm → List Nat
  | .mk k _ _ _ _ _ thn els f _ => (if k = 1 then [f] else []) ++ (letsS thn ++ letsS els)
def letsS : List Stm → List Nat
  | [] => []
  | x :: l => x.lets ++ letsS l
 end
def parsI (l : List Par) : List Li := l.map (fun p => ⟨p.name, p.label, none⟩)
def roundI (its : List Itm) (it : Itm) (o : Lab) : LP := (stmsI its it.body (parsI it.params) 0 (o, false)).2
def iterI (its : List Itm) (it : Itm) : Nat → Lab
  | 0 => fun _ => 0
  | k + 1 => (roundI its it (iterI its it k)).1
/-- labels with which nothing is raised any more. -/
def FixI (its : List Itm) (it : Itm) (o : Lab) : Prop := (∃ k, o = iterI its it k) ∧ roundI its it o = (o, false)
mutual
def fillS (o : Lab) : Stm → Stm
  | .mk k nm a lb op e thn els f t => .mk k nm a (if k = 1 ∧ op = true then o f else lb) (if k = 1 then false else op) e (fillL o thn) (fillL o els) f t
def fillL (o : Lab) : List Stm → List Stm
  | [] => []
  | x :: l => fillS o x :: fillL o l
 end
def itI (o : Lab) (it : Itm) : Itm := { it with body := fillL o it.body }
/-- an item, and what comes of it. -/
def Labd (its : List Itm) (it r : Itm) : Prop := (it.kind = 2 → ∃ o, FixI its it o ∧ r = itI o it) ∧ (it.kind ≠ 2 → r = it)
inductive AllTwo {α β : Type} (R : α → β → Prop) : List α → List β → Prop
  | nil : AllTwo R [] []
  | cons {a : α} {b : β} {l : List α} {r : List β} (h : R a b) (t : AllTwo R l r) : AllTwo R (a :: l) (b :: r)
def LabsOf (its r : List Itm) : Prop := AllTwo (Labd its) its r

theorem fix_stay {its : List Itm} {it : Itm} {k : Nat} (h : roundI its it (iterI its it k) = (iterI its it k, false)) : ∀ j, iterI its it (k + j) = iterI its it k
  | 0 => rfl
  | j + 1 => by
    have ih := fix_stay h j
    show (roundI its it (iterI its it (k + j))).1 = _
    rw [ih, h]
theorem fix_uniq {its : List Itm} {it : Itm} {o o' : Lab} (h : FixI its it o) (h' : FixI its it o') : o = o' := by
  obtain ⟨⟨k, rfl⟩, hk⟩ := h
  obtain ⟨⟨j, rfl⟩, hj⟩ := h'
  rcases Nat.le_total k j with hle | hle
  · obtain ⟨d, rfl⟩ := Nat.le.dest hle
    rw [fix_stay hk]
  · obtain ⟨d, rfl⟩ := Nat.le.dest hle
    rw [fix_stay hj]
theorem labd_uniq {its : List Itm} {it a b : Itm} (ha : Labd its it a) (hb : Labd its it b) : a = b := by
  by_cases h : it.kind = 2
  · obtain ⟨o, h1, rfl⟩ := ha.1 h
    obtain ⟨o', h2, rfl⟩ := hb.1 h
    rw [fix_uniq h1 h2]
  · rw [ha.2 h, hb.2 h]
theorem labs_uniq {its : List Itm} : ∀ {l a b : List Itm}, AllTwo (Labd its) l a → AllTwo (Labd its) l b → a = b
  | _, _, _, .nil, .nil => rfl
  | _, _, _, .cons h1 t1, .cons h2 t2 => by rw [labd_uniq h1 h2, labs_uniq t1 t2]
/-! finding locals -/
theorem findLc_of (o : Lab) (n : List UInt8) : ∀ (sc : List Li), findLc (lcOf o sc) n = (findLi sc n).map (fun l => ⟨l.name, l.val o⟩)
  | [] => rfl
  | l :: sc => by
    have ih := findLc_of o n sc
    show findLc (⟨l.name, l.val o⟩ :: lcOf o sc) n = _
    rw [findLc, ih, findLi]
    cases findLi sc n with
    | some x => rfl
    | none =>
      simp only [Option.map_none]
      split <;> rfl
theorem findLi_snoc (n : List UInt8) (x : Li) : ∀ (l : List Li), findLi (l ++ [x]) n = if x.name = n then some x else findLi l n
  | [] => by simp [findLi]
  | a :: l => by
    rw [List.cons_append, findLi, findLi_snoc n x l, findLi]
    split <;> rename_i h
    · split at h
      · rename_i h2; rw [if_pos h2, ← h]
      · rename_i h2; rw [if_neg h2, h]
    · split at h
      · cases h
      · rename_i h2; rw [if_neg h2, h]
theorem findLi_mem {n : List UInt8} {x : Li} : ∀ {l : List Li}, findLi l n = some x → x ∈ l ∧ x.name = n
  | [], h => by cases h
  | a :: l, h => by
    rw [findLi] at h
    split at h
    · rename_i y hy
      cases h
      obtain ⟨h1, h2⟩ := findLi_mem hy
      exact ⟨List.mem_cons_of_mem _ h1, h2⟩
    · split at h
      · rename_i h2; cases h; exact ⟨List.mem_cons_self, h2⟩
      · cases h
theorem findLi_at {n : List UInt8} {x : Li} : ∀ {l : List Li} {i : Nat}, l[i]? = some x → x.name = n → (∀ j y, i < j → l[j]? = some y → y.name ≠ n) → findLi l n = some x
  | [], i, h, _, _ => by simp at h
  | a :: l, 0, h, hn, hl => by
    simp only [List.getElem?_cons_zero, Option.some.injEq] at h
    subst h
    have : findLi l n = none := by
      cases hf : findLi l n with
      | none => rfl
      | some y =>
        obtain ⟨hy, hyn⟩ := findLi_mem hf
        obtain ⟨j, hj⟩ := List.mem_iff_getElem?.1 hy
        exact absurd hyn (hl (j + 1) y (by omega) (by rw [List.getElem?_cons_succ]; exact hj))
    rw [findLi, this]
    simp [hn]
  | a :: l, i + 1, h, hn, hl => by
    rw [List.getElem?_cons_succ] at h
    rw [findLi, findLi_at h hn (fun j y hj hy => hl (j + 1) y (by omega) (by rw [List.getElem?_cons_succ]; exact hy))]
theorem findLi_none {n : List UInt8} : ∀ {l : List Li}, (∀ (j : Nat) y, l[j]? = some y → y.name ≠ n) → findLi l n = none := fun {l} h => by
  cases hf : findLi l n with
  | none => rfl
  | some y =>
    obtain ⟨hy, hyn⟩ := findLi_mem hf
    obtain ⟨j, hj⟩ := List.mem_iff_getElem?.1 hy
    exact absurd hyn (h j y hj)
/-! what stays -/
theorem stmI_eq (its : List Itm) (x : Stm) (sc : List Li) (un : Nat) (p : LP) : stmI its x sc un p =
    if x.kind = 1 then (sc ++ [⟨x.name, x.label, opOf x.opn x.fr⟩], raiseO p (opOf x.opn x.fr) (plainF its (lcOf p.1 sc) x.e ||| un)) else
    if x.kind = 2 then (sc, setI p sc x.name (plainF its (lcOf p.1 sc) x.e ||| un)) else
    if x.kind = 3 ∨ x.kind = 4 then (sc, (stmsI its x.els sc (plainF its (lcOf p.1 sc) x.e ||| un) (stmsI its x.thn sc (plainF its (lcOf p.1 sc) x.e ||| un) p).2).2) else (sc, p) := by
  cases x; rw [stmI]; rfl
theorem stmsI_app (its : List Itm) : ∀ (l r : List Stm) (sc : List Li) (un : Nat) (p : LP), stmsI its (l ++ r) sc un p = stmsI its r (stmsI its l sc un p).1 un (stmsI its l sc un p).2
  | [], r, sc, un, p => by rw [List.nil_append, stmsI]
  | e :: l, r, sc, un, p => by rw [List.cons_append, stmsI, stmsI, stmsI_app its l r]
theorem stmsI_step (its : List Itm) {l : List Stm} {k : Nat} {x : Stm} (h : l[k]? = some x) (sc : List Li) (un : Nat) (p : LP) :
    stmsI its (l.take (k + 1)) sc un p = stmI its x (stmsI its (l.take k) sc un p).1 un (stmsI its (l.take k) sc un p).2 := by
  rw [take_succ_get h, stmsI_app, stmsI, stmsI]
/-- labels are small. -/
def okL (p : LP) : Prop := ∀ f, p.1 f < 256
def okSc (sc : List Li) : Prop := ∀ l ∈ sc, l.lab < 256
theorem lcOf_lab {p : LP} {sc : List Li} (hp : okL p) (hs : okSc sc) : scLab (lcOf p.1 sc) := fun l hl => by
  obtain ⟨x, hx, rfl⟩ := List.mem_map.1 hl
  show x.val p.1 < 256
  rw [Li.val]
  split
  · exact hs x hx
  · exact hp _
theorem raiseI_ok {p : LP} (h : okL p) (f : Nat) {n : Nat} (hn : n < 256) : okL (raiseI p f n) := by
  rw [raiseI]
  split
  · exact h
  · intro g
    show upL p.1 f (p.1 f ||| n) g < 256
    rw [upL]
    split
    · exact or_lt (h f) hn
    · exact h g
theorem raiseO_ok {p : LP} (h : okL p) (f : Option Nat) {n : Nat} (hn : n < 256) : okL (raiseO p f n) := by
  cases f with
  | none => exact h
  | some f => exact raiseI_ok h f hn
theorem setI_ok {p : LP} (h : okL p) (sc : List Li) (nm : List UInt8) {n : Nat} (hn : n < 256) : okL (setI p sc nm n) := by
  rw [setI]; split
  · exact raiseO_ok h _ hn
  · exact h
mutual
theorem stmI_ok {its : List Itm} (hlab : itLab its) : ∀ (x : Stm) {sc : List Li} {un : Nat} {p : LP}, x.all anyP labS → okL p → okSc sc → un < 256 → okL (stmI its x sc un p).2 ∧ okSc (stmI its x sc un p).1
  | .mk k nm a lb o e thn els f t, sc, un, p, ha, hp, hs, hu => by
    rw [Stm.all] at ha
    obtain ⟨h1, h2, h3, h4⟩ := ha
    have hav := or_lt (plainF_lt hlab (lcOf_lab hp hs) e) hu
    rw [stmI]
    split
    · rename_i hk
      refine ⟨raiseO_ok hp _ hav, fun l hl => ?_⟩
      rcases List.mem_append.1 hl with hl | hl
      · exact hs l hl
      · obtain rfl := List.mem_singleton.1 hl
        exact h1
    · split
      · exact ⟨setI_ok hp _ _ hav, hs⟩
      · split
        · have q1 := stmsI_ok hlab thn h3 hp hs hav
          exact ⟨(stmsI_ok hlab els h4 q1.1 hs hav).1, hs⟩
        · exact ⟨hp, hs⟩
theorem stmsI_ok {its : List Itm} (hlab : itLab its) : ∀ (l : List Stm) {sc : List Li} {un : Nat} {p : LP}, stmsAll anyP labS l → okL p → okSc sc → un < 256 → okL (stmsI its l sc un p).2 ∧ okSc (stmsI its l sc un p).1
  | [], _, _, _, _, hp, hs, _ => by rw [stmsI]; exact ⟨hp, hs⟩
  | x :: l, sc, un, p, ha, hp, hs, hu => by
    rw [stmsAll] at ha
    have q1 := stmI_ok hlab x ha.1 hp hs hu
    rw [stmsI]
    exact stmsI_ok hlab l ha.2 q1.1 q1.2 hu
end
/-! how much is left -/
def potL (L : List Nat) (o : Lab) : Nat := (L.map (fun f => 256 - o f)).sum
theorem or_grow {a n : Nat} (h : a ||| n ≠ a) : a < a ||| n := by
  have h1 : a ≤ a ||| n := Nat.left_le_or
  omega
theorem upL_le {L : List Nat} {o : Lab} {f n : Nat} (h : o f ≤ n) : potL L (upL o f n) ≤ potL L o := by
  induction L with
  | nil => exact Nat.le_refl _
  | cons g L ih =>
    simp only [potL, List.map_cons, List.sum_cons] at ih ⊢
    have : 256 - upL o f n g ≤ 256 - o g := by
      rw [upL]; split
      · rename_i e; subst e; omega
      · exact Nat.le_refl _
    omega
theorem upL_lt {L : List Nat} {o : Lab} {f n : Nat} (hf : f ∈ L) (h : o f < n) (hn : o f < 256) : potL L (upL o f n) < potL L o := by
  induction L with
  | nil => cases hf
  | cons g L ih =>
    have h1 := upL_le (L := L) (o := o) (f := f) (n := n) (by omega)
    simp only [potL, List.map_cons, List.sum_cons] at ih h1 ⊢
    by_cases e : g = f
    · subst e
      have : upL o g n g = n := by rw [upL, if_pos rfl]
      rw [this]; omega
    · have h2 : upL o f n g = o g := by rw [upL, if_neg e]
      have := ih (by rcases List.mem_cons.1 hf with h | h; exact absurd h.symm e; exact h)
      rw [h2]; omega
/-- from here on: raised no lower; if at all, less is left. -/
structure Gone (L : List Nat) (p q : LP) : Prop where
  le : potL L q.1 ≤ potL L p.1
  lt : q.2 = true → p.2 = true ∨ potL L q.1 < potL L p.1
  same : q.2 = false → q = p
theorem Gone.refl (L : List Nat) (p : LP) : Gone L p p := ⟨Nat.le_refl _, .inl, fun _ => rfl⟩
theorem Gone.trans {L : List Nat} {p q r : LP} (h : Gone L p q) (g : Gone L q r) : Gone L p r :=
  ⟨Nat.le_trans g.le h.le, fun e => by
    have h1 := h.le
    have h2 := g.le
    rcases g.lt e with h3 | h3
    · rcases h.lt h3 with h4 | h4
      · exact .inl h4
      · exact .inr (by omega)
    · exact .inr (by omega), fun e => by
    have h1 := g.same e
    subst h1
    exact h.same e⟩
theorem raiseI_gone {L : List Nat} {p : LP} (hp : okL p) {f : Nat} (hf : f ∈ L) (n : Nat) : Gone L p (raiseI p f n) := by
  rw [raiseI]
  split
  · exact .refl _ _
  · rename_i h
    have h1 := or_grow h
    exact ⟨upL_le (by omega), fun _ => .inr (upL_lt hf h1 (hp f)), fun e => by cases e⟩
theorem raiseO_gone {L : List Nat} {p : LP} (hp : okL p) {f : Option Nat} (hf : ∀ g, f = some g → g ∈ L) (n : Nat) : Gone L p (raiseO p f n) := by
  cases f with
  | none => exact .refl _ _
  | some f => exact raiseI_gone hp (hf f rfl) n
def inL (L : List Nat) (sc : List Li) : Prop := ∀ f ∈ opsL sc, f ∈ L
theorem opsL_mem {sc : List Li} {l : Li} {f : Nat} (h : l ∈ sc) (e : l.op = some f) : f ∈ opsL sc := List.mem_filterMap.2 ⟨l, h, e⟩
theorem setI_gone {L : List Nat} {p : LP} (hp : okL p) {sc : List Li} (hs : inL L sc) (nm : List UInt8) (n : Nat) : Gone L p (setI p sc nm n) := by
  rw [setI]; split
  · rename_i l hl
    exact raiseO_gone hp (fun g hg => hs g (opsL_mem (findLi_mem hl).1 hg)) n
  · exact .refl _ _
theorem opsL_snoc (sc : List Li) (l : Li) : opsL (sc ++ [l]) = opsL sc ++ l.op.toList := by
  rw [opsL, List.filterMap_append, opsL]
  cases h : l.op <;> simp [h]
mutual
theorem stmI_gone {its : List Itm} (hlab : itLab its) {L : List Nat} : ∀ (x : Stm) {sc : List Li} {un : Nat} {p : LP}, x.all anyP labS → okL p → okSc sc → un < 256 → (∀ f ∈ x.lets, f ∈ L) → inL L sc → Gone L p (stmI its x sc un p).2 ∧ inL L (stmI its x sc un p).1
  | .mk k nm a lb o e thn els f t, sc, un, p, ha, hp, hs, hu, hL, hi => by
    rw [Stm.all] at ha
    obtain ⟨h1, h2, h3, h4⟩ := ha
    have hav := or_lt (plainF_lt hlab (lcOf_lab hp hs) e) hu
    rw [Stm.lets] at hL
    have hLt : ∀ f ∈ letsS thn, f ∈ L := fun g hg => hL g (List.mem_append_right _ (List.mem_append_left _ hg))
    have hLe : ∀ f ∈ letsS els, f ∈ L := fun g hg => hL g (List.mem_append_right _ (List.mem_append_right _ hg))
    rw [stmI]
    split
    · rename_i hk
      have hf : f ∈ L := hL f (by rw [if_pos hk]; exact List.mem_append_left _ List.mem_cons_self)
      have hop : ∀ g, opOf o f = some g → g ∈ L := fun g hg => by
        rw [opOf] at hg; split at hg
        · cases hg; exact hf
        · cases hg
      refine ⟨raiseO_gone hp hop _, fun g hg => ?_⟩
      rw [opsL_snoc] at hg
      rcases List.mem_append.1 hg with hg | hg
      · exact hi g hg
      · exact hop g (by simpa using hg)
    · split
      · exact ⟨setI_gone hp hi _ _, hi⟩
      · split
        · have q1 := stmsI_ok hlab thn h3 hp hs hav
          have g1 := stmsI_gone hlab thn h3 hp hs hav hLt hi
          exact ⟨g1.1.trans (stmsI_gone hlab els h4 q1.1 hs hav hLe hi).1, hi⟩
        · exact ⟨.refl _ _, hi⟩
theorem stmsI_gone {its : List Itm} (hlab : itLab its) {L : List Nat} : ∀ (l : List Stm) {sc : List Li} {un : Nat} {p : LP}, stmsAll anyP labS l → okL p → okSc sc → un < 256 → (∀ f ∈ letsS l, f ∈ L) → inL L sc → Gone L p (stmsI its l sc un p).2 ∧ inL L (stmsI its l sc un p).1
  | [], _, _, _, _, hp, hs, _, _, hi => by rw [stmsI]; exact ⟨.refl _ _, hi⟩
  | x :: l, sc, un, p, ha, hp, hs, hu, hL, hi => by
    rw [stmsAll] at ha
    rw [letsS] at hL
    have q1 := stmI_ok hlab x ha.1 hp hs hu
    have g1 := stmI_gone hlab x ha.1 hp hs hu (fun f hf => hL f (List.mem_append_left _ hf)) hi
    have g2 := stmsI_gone hlab l ha.2 q1.1 q1.2 hu (fun f hf => hL f (List.mem_append_right _ hf)) g1.2
    rw [stmsI]
    exact ⟨g1.1.trans g2.1, g2.2⟩
end
theorem parsI_ok {l : List Par} (h : ∀ p ∈ l, p.label < 256) : okSc (parsI l) := fun x hx => by
  obtain ⟨p, hp, rfl⟩ := List.mem_map.1 hx
  exact h p hp
theorem parsI_ops (l : List Par) : opsL (parsI l) = [] := by
  rw [opsL, parsI, List.filterMap_map]
  exact List.filterMap_eq_nil_iff.2 (fun _ _ => rfl)
/-- a round. -/
theorem roundI_ok {its : List Itm} {it : Itm} {o : Lab} (hlab : itLab its) (hb : stmsAll anyP labS it.body) (hp : ∀ p ∈ it.params, p.label < 256) (ho : ∀ f, o f < 256) :
    okL (roundI its it o) ∧ ((roundI its it o).2 = true → potL (letsS it.body) (roundI its it o).1 < potL (letsS it.body) o) ∧ ((roundI its it o).2 = false → (roundI its it o).1 = o) := by
  have h1 := stmsI_ok hlab it.body (sc := parsI it.params) (un := 0) (p := (o, false)) hb ho (parsI_ok hp) (by omega)
  have h2 := stmsI_gone hlab (L := letsS it.body) it.body (sc := parsI it.params) (un := 0) (p := (o, false)) hb ho (parsI_ok hp) (by omega) (fun _ h => h) (fun f hf => by rw [parsI_ops] at hf; cases hf)
  refine ⟨h1.1, fun e => ?_, fun e => ?_⟩
  · rcases h2.1.lt e with h | h
    · cases h
    · exact h
  · exact congrArg Prod.fst (h2.1.same e)
end Go.Sp
end
section
namespace Go.Sp
/-- places of tokens from 'a' on, ahead of 'b', one behind the other. -/
def InT (T : Src) (a b : Nat) (L : List Nat) : Prop := ∃ js : List Nat, js.Pairwise (· < ·) ∧ (∀ j ∈ js, a ≤ j ∧ j < b ∧ j < T.l.length) ∧ L = js.map (fun j => (T.tok j).pos)
theorem InT.nil (T : Src) (a b : Nat) : InT T a b [] := ⟨[], .nil, fun _ h => (by cases h), rfl⟩
theorem InT.one {T : Src} {a b : Nat} (h : a < b) (hl : a < T.l.length) : InT T a b [(T.tok a).pos] := ⟨[a], List.pairwise_singleton _ _, fun j hj => by obtain rfl := List.mem_singleton.1 hj; omega, rfl⟩
theorem InT.app {T : Src} {a b b' c : Nat} {L R : List Nat} (h : InT T a b L) (g : InT T b' c R) (hb : b ≤ b') (hab : a ≤ b) (hc : b' ≤ c) : InT T a c (L ++ R) := by
  obtain ⟨js, h1, h2, rfl⟩ := h
  obtain ⟨ks, g1, g2, rfl⟩ := g
  refine ⟨js ++ ks, List.pairwise_append.2 ⟨h1, g1, fun x hx y hy => ?_⟩, fun j hj => ?_, by rw [List.map_append]⟩
  · have := h2 x hx; have := g2 y hy; omega
  · rcases List.mem_append.1 hj with hj | hj
    · have := h2 j hj; omega
    · have := g2 j hj; omega
theorem InT.mono {T : Src} {a b a' b' : Nat} {L : List Nat} (h : InT T a b L) (ha : a' ≤ a) (hb : b ≤ b') : InT T a' b' L := by
  obtain ⟨js, h1, h2, rfl⟩ := h
  exact ⟨js, h1, fun j hj => (by have := h2 j hj; omega), rfl⟩
theorem letsS_app : ∀ (l r : List Stm), letsS (l ++ r) = letsS l ++ letsS r
  | [], r => by rw [List.nil_append, letsS, List.nil_append]
  | x :: l, r => by rw [List.cons_append, letsS, letsS, letsS_app l r, List.append_assoc]
theorem lets_sub {l : List Stm} {x : Stm} {f : Nat} (h : x ∈ l) (hf : f ∈ x.lets) : f ∈ letsS l := by
  obtain ⟨a, b, rfl⟩ := List.append_of_mem h
  rw [letsS_app, letsS]
  exact List.mem_append_right _ (List.mem_append_left _ hf)
theorem letsS_one (x : Stm) : letsS [x] = x.lets := by rw [letsS, letsS, List.append_nil]
theorem lets_none {k : Nat} {nm : List UInt8} {a lb : Nat} {o : Bool} {e : Ex} {f t : Nat} (hk : k ≠ 1) : (Stm.mk k nm a lb o e [] [] f t).lets = [] := by rw [Stm.lets, if_neg hk, letsS]; rfl
theorem lets_block (T : Src) : ∀ f, (∀ d s, InT T s.i (block T f d s).2.i (letsS (block T f d s).1)) ∧ (∀ d l s a, a ≤ s.i → InT T a s.i (letsS l) → InT T a (stmL T f d l s).2.i (letsS (stmL T f d l s).1)) ∧
    (∀ d s, InT T s.i (stm T f d s).2.i (stm T f d s).1.lets)
  | 0 => ⟨fun _ _ => by rw [block]; dsimp only; rw [letsS]; exact .nil _ _ _, fun _ _ _ _ _ h => by rw [stmL]; exact h,
      fun _ s => by rw [stm]; show InT T s.i s.i (Stm.mk 0 [] 0 0 false (.mk 0 [] 0 [] 0 0) [] [] 0 0).lets; rw [lets_none (by decide)]; exact .nil _ _ _⟩
  | f + 1 => by
    obtain ⟨hB, hL, hS⟩ := lets_block T f
    obtain ⟨gB, gL, gS⟩ := goes_block T f
    have gE := (goes_expr T f).2.2.1
    refine ⟨fun d s => ?_, fun d l s a ha h => ?_, fun d s => ?_⟩
    · rw [block]
      split
      · dsimp only; rw [letsS]; exact .nil _ _ _
      · split
        · dsimp only; rw [letsS]; exact .nil _ _ _
        · have h1 := hL (d + 1) [] s.next s.next.i (Nat.le_refl _) (by rw [letsS]; exact .nil _ _ _)
          have h3 := need_le T (stmL T f (d + 1) [] s.next).2 [125]
          exact h1.mono (by rw [next_i]; omega) h3
    · rw [stmL]
      split
      · exact h
      · split
        · exact h
        · have h1 := hS d s
          have h2 := (gS d s).le
          try dsimp only
          have h3 : InT T a (stm T f d s).2.i (letsS (l ++ [(stm T f d s).1])) := by
            rw [letsS_app, letsS_one]
            exact h.app h1 (Nat.le_refl _) ha h2
          split
          · rename_i he
            exact hL d _ _ a (by rw [next_i]; omega) (h3.mono (Nat.le_refl _) (by rw [next_i]; omega))
          · exact hL d _ _ a (by omega) h3
    · rw [stm]
      dsimp only
      split
      · rename_i hlet
        have hlt : s.i < T.l.length := tok_lt (by rw [hlet]; decide)
        have h1 := (goes_named T s.next).le
        rw [next_i] at h1
        generalize s.next.named T = r at h1 ⊢
        generalize hr1 : (if (!T.is r.2.i [58]) = true then (0, r.2) else lab T r.2.next) = r1
        have h2 : r.2.i ≤ r1.2.i := by
          rw [← hr1]
          split
          · exact Nat.le_refl _
          · have := (goes_lab T r.2.next).le
            rw [next_i] at this
            omega
        have h3 := need_le T r1.2 [61]
        have h5 := (gE d 1 (r1.2.need T [61]).2).le
        have h6 := need_le T (expr T f d 1 (r1.2.need T [61]).2).2 [59]
        try dsimp only
        rw [Stm.lets, letsS, if_pos rfl]
        exact InT.one (by omega) hlt
      · split
        · have h2 := (gE d 1 s.next).le
          rw [next_i] at h2
          generalize expr T f d 1 s.next = r at h2 ⊢
          have h3 := hB d r.2
          have h4 := (gB d r.2).le
          generalize block T f d r.2 = r1 at h3 h4 ⊢
          split
          · have h5 := hB d r1.2.next
            have h6 := (gB d r1.2.next).le
            rw [next_i] at h5 h6
            try dsimp only
            rw [Stm.lets, if_neg (by decide), List.nil_append]
            exact (h3.app h5 (by omega) (by omega) (by omega)).mono (by omega) (Nat.le_refl _)
          · try dsimp only
            rw [Stm.lets, letsS, if_neg (by decide), List.nil_append, List.append_nil]
            exact h3.mono (by omega) (Nat.le_refl _)
        · split
          · have h2 := (gE d 1 s.next).le
            rw [next_i] at h2
            generalize expr T f d 1 s.next = r at h2 ⊢
            have h3 := hB d r.2
            try dsimp only
            rw [Stm.lets, letsS, if_neg (by decide), List.nil_append, List.append_nil]
            exact h3.mono (by omega) (Nat.le_refl _)
          · split
            · try dsimp only
              rw [lets_none (by decide)]; exact .nil _ _ _
            · split
              · try dsimp only
                rw [lets_none (by decide)]; exact .nil _ _ _
              · split
                · split
                  · try dsimp only
                    rw [lets_none (by decide)]; exact .nil _ _ _
                  · try dsimp only
                    rw [lets_none (by decide)]; exact .nil _ _ _
                · show InT T s.i _ (Stm.mk _ _ _ _ _ _ [] [] _ _).lets
                  rw [lets_none (by decide)]; exact .nil _ _ _
theorem inT_nodup {src : List UInt8} {a b : Nat} {L : List Nat} (ha : 1 ≤ a) (h : InT ⟨tokens src, src.length⟩ a b L) : L.Nodup ∧ 0 ∉ L := by
  obtain ⟨js, h1, h2, rfl⟩ := h
  have hs := List.pairwise_iff_getElem.1 (tokens_sorted src)
  have key : ∀ i j, i < j → j < (tokens src).length → ((Src.mk (tokens src) src.length).tok i).pos < ((Src.mk (tokens src) src.length).tok j).pos := fun i j hij hj => by
    have hi : i < (tokens src).length := by omega
    have h3 := hs i j hi hj hij
    have h4 := (tokens_ok src _ (List.getElem_mem hi)).len
    rw [Src.tok, Src.tok]
    dsimp only
    rw [List.getD_eq_getElem?_getD, List.getD_eq_getElem?_getD, List.getElem?_eq_getElem hi, List.getElem?_eq_getElem hj]
    show (tokens src)[i].pos < (tokens src)[j].pos
    omega
  refine ⟨?_, fun h0 => ?_⟩
  · rw [List.Nodup, List.pairwise_map]
    refine h1.imp_of_mem (fun {x y} hx hy hxy => ?_)
    have := key x y hxy (h2 y hy).2.2
    omega
  · obtain ⟨j, hj, e⟩ := List.mem_map.1 h0
    have := h2 j hj
    have := key 0 j (by omega) this.2.2
    omega
theorem item_lets (src : List UInt8) (at_ : Int) : (letsS (item src at_).body).Nodup ∧ 0 ∉ letsS (item src at_).body := by
  have hnil : (letsS []).Nodup ∧ 0 ∉ letsS [] := by rw [letsS]; exact ⟨List.nodup_nil, fun h => (by cases h)⟩
  rw [item]
  generalize hT : (⟨tokens src, src.length⟩ : Src) = T
  dsimp only
  split
  · rename_i hfn
    have h0 := is_lt hfn
    dsimp only [fnItm]
    have h1 := goes_named T ⟨1, []⟩
    have t1 := h1.top (show 1 ≤ _ by omega)
    have l1 : 1 ≤ _ := h1.le
    generalize (⟨1, []⟩ : St).named T = r at t1 l1 ⊢
    have t2 := need_top [40] t1
    have l2 := need_le T r.2 [40]
    generalize (r.2.need T [40]).2 = s1 at t2 l2 ⊢
    have h3 := (parL_few T 6 [] s1 (by simp)).2 t2
    generalize parL T 6 [] s1 = r2 at h3 ⊢
    have t4 := need_top [41] h3.2.1
    have l4 := need_le T r2.2 [41]
    generalize (r2.2.need T [41]).2 = s3 at t4 l4 ⊢
    have t5 := need_top [58] t4
    have l5 := need_le T s3 [58]
    generalize (s3.need T [58]).2 = s4 at t5 l5 ⊢
    have g6 := goes_lab T s4
    have t6 := g6.top t5
    have l6 := g6.le
    clear g6
    generalize lab T s4 = r5 at t6 l6 ⊢
    generalize hr6 : (if T.is r5.2.i [115, 101, 110, 100, 115] = true then sndL T 6 [] r5.2.next else ([], r5.2)) = r6
    have l7 : r5.2.i ≤ r6.2.i := by
      rw [← hr6]
      split
      · rename_i hs
        have := is_lt hs
        have := ((sndL_few T 6 [] r5.2.next (by simp)).2 (by rw [next_i]; omega)).1
        rw [next_i] at this
        omega
      · exact Nat.le_refl _
    have h8 := (lets_block T (fuel T)).1 0 r6.2
    have h9 := h3.1
    subst hT
    exact inT_nodup (by omega) h8
  · split
    · exact hnil
    · exact hnil
end Go.Sp
end
