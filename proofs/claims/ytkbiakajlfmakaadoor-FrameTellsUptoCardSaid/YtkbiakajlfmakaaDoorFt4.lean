/- Own work: texts FwM2, FwM3, FwInt2, FwM4, FwMap, FwM5, FwD, FwS2, FwS3, FwMix, FwRow, one behind the other. -/
import Derived.Test.YtkbiakajlfmakaaDoorFt3
import Derived.Laws.BytesString
import Derived.Lib.ConvBytes
import Derived.Laws.AppendOwn
import Derived.MapKept
import Derived.Defers
section
namespace Go.Fw
open Go

/-- a call that reads 'H', and what does not turn; one value comes of it. -/
structure CalR (P : Program) (f : FuncId) (args : Array Value) (I : Imm) (H : List HItem) (v : Value) : Prop where
  run : ∀ w, Inv I w → (∀ h ∈ H, h.ok w) → Cal P f args w (fun u w' => u = v ∧ Kept [] w w')
/-- to show a contract: from an entry that is not looked into. -/
theorem CalM.of {P : Program} {f : FuncId} {args : Array Value} {I : Imm} {H : List HItem} {Post : Value → Imm → List HItem → Prop}
    (h : ∀ w E, Mem E I H w → Cal P f args w (fun v w' => ∃ I' H', Post v I' H' ∧ Mem E I' H' w')) : CalM P f args I H Post := ⟨fun w hm => h w _ hm⟩
/-- a world, all of which does not turn. -/
def immOf (w : World) : Imm := fun b => w.heap[b]?
theorem immOf_inv (w : World) : Inv (immOf w) w := fun _ _ h => h
theorem immOf_le {I : Imm} {w : World} (h : Inv I w) : Le I (immOf w) := fun b o hb => h b o hb
/-- to show a reader: from a world none of which turns. -/
theorem CalR.of {P : Program} {f : FuncId} {args : Array Value} {I : Imm} {H : List HItem} {v : Value}
    (h : ∀ w J, Mem ⟨w, [], J⟩ J [] w → Le I J → (∀ h ∈ H, h.ok w) → J = immOf w → Cal P f args w (fun u w' => u = v ∧ Kept [] w w')) : CalR P f args I H v :=
  ⟨fun w hI hH => h w (immOf w) (Mem.start (immOf_inv w)) (immOf_le hI) hH rfl⟩
theorem CalR.le {P : Program} {f : FuncId} {args : Array Value} {I I' : Imm} {H : List HItem} {v : Value} (h : CalR P f args I H v) (hl : Le I I') : CalR P f args I' H v :=
  ⟨fun w hI => h.run w (fun b o hb => hI b o (hl b o hb))⟩
theorem sub_nil {G : List HItem} : ∀ h ∈ ([] : List HItem), h ∈ G := fun _ h => by cases h
section
variable {P : Program} {N : Nat} {ds : List Deferred} {Q : Exit → Act → World → Prop} {K : Act → World → Prop} {KV : Act → Prop} {X : List Nat} {l l' : Log} {w w' : World} {ops : Array Oper} {os : List Oper} {o : Oper}
variable {d : Nat} {ty : TypeId} {pos : String} {af : Array Edge} {g : Option (Nat × Bool)} {t t' : TypeId} {x y : Operand}
variable {E : Ent} {I I' : Imm} {H H' G : List HItem}
theorem CalR.now {f : FuncId} {args : Array Value} {v : Value} (hc : CalR P f args I H v) (hm : Mem E I G w) (hs : ∀ h ∈ H, h ∈ G) : Cal P f args w (fun u w' => u = v ∧ Kept [] w w') :=
  hc.run w hm.inv (fun h hh => hm.ok h (hs h hh))
theorem m_readC {f : FuncId} [Own P f] {xs : List Operand} {tys : Array TypeId} {vs : List Value} {v : Value} (hm : Mem E I G w)
    (hw : want ops l ⟨some d, .call ⟨.value (.func f), xs.toArray, tys⟩, ty, pos, af, g⟩ = some true) (hN : Nat.blt d N = true)
    (hx : evs l xs = some vs) (hs : ∀ h ∈ H, h ∈ G) (hc : CalR P f vs.toArray I H v)
    (k : ∀ w', Mem E I G w' → WL P N ds ops Q os ((d, v) :: l) w') :
    WL P N ds ops Q (⟨some d, .call ⟨.value (.func f), xs.toArray, tys⟩, ty, pos, af, g⟩ :: os) l w :=
  op_call hw hN hx (hc.now hm hs) (fun u w' ⟨h1, h2⟩ => by subst h1; exact k w' (hm.kept0 h2))
theorem mq_readC {f : FuncId} [Own P f] {xs : List Operand} {tys : Array TypeId} {vs : List Value} {v : Value} (hm : Mem E I G w)
    (hw : want ops l ⟨some d, .call ⟨.value (.func f), xs.toArray, tys⟩, ty, pos, af, g⟩ = some true) (hN : Nat.blt d N = true)
    (hx : evs l xs = some vs) (hs : ∀ h ∈ H, h ∈ G) (hc : CalR P f vs.toArray I H v)
    (k : WQ P N ds ops w K os ((d, v) :: l)) :
    WQ P N ds ops w K (⟨some d, .call ⟨.value (.func f), xs.toArray, tys⟩, ty, pos, af, g⟩ :: os) l :=
  wq_enter rfl hw hN (fun w' a ha => by
    have := ha.evs hx
    simp [execOp, resolve, invoke, Act.eval, Deferred.ofValue, this, run_callFunc]) (fun w' hk => hc.now (hm.kept0 hk) hs) k

theorem mq_load1 [TyOne P t] {i b off : Nat} {c : List Value} {e : TypeId} {fr : Nat × Nat} {v : Value} (hm : Mem E I H w) (hw : want ops l ⟨some d, .load t x, ty, pos, af, g⟩ = some true) (hN : Nat.blt d N = true)
    (hx : ev l x = some (.pointer (some ⟨b, off, none⟩))) (hb : H[i]? = some (.obj b (.cells c.toArray e fr))) (hc : c[off]? = some v)
    (k : WQ P N ds ops w K os ((d, v) :: l)) : WQ P N ds ops w K (⟨some d, .load t x, ty, pos, af, g⟩ :: os) l :=
  q_load1 hw hN hx (hm.get hb) (by simpa using hc) k
theorem mq_loadN {n : Nat} [TyAgg P t n] {i b off : Nat} {c : Array Value} {e : TypeId} {fr : Nat × Nat} {vs : List Value} (hm : Mem E I H w) (hw : want ops l ⟨some d, .load t x, ty, pos, af, g⟩ = some true) (hN : Nat.blt d N = true)
    (hx : ev l x = some (.pointer (some ⟨b, off, none⟩))) (hb : H[i]? = some (.obj b (.cells c e fr))) (hc : (c.toList.drop off).take n = vs) (hl : vs.length = n)
    (k : WQ P N ds ops w K os ((d, .agg vs.toArray) :: l)) : WQ P N ds ops w K (⟨some d, .load t x, ty, pos, af, g⟩ :: os) l :=
  q_loadN hw hN hx (hm.get hb) hl (fun j v hv => by
    rw [← hc, List.getElem?_take] at hv
    split at hv
    · rw [List.getElem?_drop] at hv; simpa using hv
    · cases hv) k
theorem iq_indexFlat {α : Type} {enc : α → List Value} {e : TypeId} {sz by_ : Nat} [TySlice P t e] [Elem P e sz by_] {a : Option Addr} {n cp : Nat} {i : Int} {xs : List α} {z : α} (hw : want ops l ⟨some d, .indexAddr t x y, ty, pos, af, g⟩ = some true) (hN : Nat.blt d N = true)
    (hx : ev l x = some (.slice a n cp)) (hy : ev l y = some (.int .i64 i)) (hr : RowI I e sz (.slice a n cp) n (xs.flatMap enc)) (he : ∀ a, (enc a).length = sz) (h0 : 0 ≤ i) (h1 : i < n) (hz : xs[i.toNat]? = some z)
    (k : ∀ b off, PtrI I b off e (enc z) → WQ P N ds ops w K os ((d, .pointer (some ⟨b, off, none⟩)) :: l)) :
    WQ P N ds ops w K (⟨some d, .indexAddr t x y, ty, pos, af, g⟩ :: os) l := by
  obtain ⟨b, off, rfl, hp⟩ := hr.flat he hz (by omega)
  exact q_indexAddr hw hN hx hy h0 h1 (k b _ hp)

/-! for FwSemi's regions: what is written meanwhile are the blocks of item number 'j' -/
end
theorem sub1_0 {R : List HItem} {a : HItem} : ∀ h ∈ [a], h ∈ a :: R := by simp
theorem sub1_1 {R : List HItem} {a x : HItem} : ∀ h ∈ [a], h ∈ x :: a :: R := by simp
theorem sub1_2 {R : List HItem} {a x y : HItem} : ∀ h ∈ [a], h ∈ x :: y :: a :: R := by simp
theorem sub1_3 {R : List HItem} {a x y z : HItem} : ∀ h ∈ [a], h ∈ x :: y :: z :: a :: R := by simp
theorem sub2_0 {R : List HItem} {a b : HItem} : ∀ h ∈ [a, b], h ∈ a :: b :: R := by simp
theorem sub2_1 {R : List HItem} {a b x : HItem} : ∀ h ∈ [a, b], h ∈ x :: a :: b :: R := by simp
theorem sub2_2 {R : List HItem} {a b x y : HItem} : ∀ h ∈ [a, b], h ∈ x :: y :: a :: b :: R := by simp
theorem sub2_3 {R : List HItem} {a b x y z : HItem} : ∀ h ∈ [a, b], h ∈ x :: y :: z :: a :: b :: R := by simp
theorem sub2_4 {R : List HItem} {a b x y z u : HItem} : ∀ h ∈ [a, b], h ∈ x :: y :: z :: u :: a :: b :: R := by simp
theorem pm2_4 {R : List HItem} {a b x y z u : HItem} : (x :: y :: z :: u :: a :: b :: R).Perm ([a, b] ++ (x :: y :: z :: u :: R)) := by
  simpa using (List.perm_append_comm (l₁ := [x, y, z, u]) (l₂ := [a, b])).append_right R
theorem pm0 {H : List HItem} : H.Perm ([] ++ H) := .refl _
theorem pm1_0 {R : List HItem} {a : HItem} : (a :: R).Perm ([a] ++ R) := .refl _
theorem pm1_1 {R : List HItem} {a x : HItem} : (x :: a :: R).Perm ([a] ++ (x :: R)) := .swap _ _ _
theorem pm1_2 {R : List HItem} {a x y : HItem} : (x :: y :: a :: R).Perm ([a] ++ (x :: y :: R)) := ((List.Perm.swap a y R).cons x).trans (.swap _ _ _)
theorem pm1_3 {R : List HItem} {a x y z : HItem} : (x :: y :: z :: a :: R).Perm ([a] ++ (x :: y :: z :: R)) := (pm1_2.cons x).trans (.swap _ _ _)
theorem pm2_0 {R : List HItem} {a b : HItem} : (a :: b :: R).Perm ([a, b] ++ R) := .refl _
theorem pm2_1 {R : List HItem} {a b x : HItem} : (x :: a :: b :: R).Perm ([a, b] ++ (x :: R)) := (List.Perm.swap a x _).trans ((List.Perm.swap b x R).cons a)
theorem pm2_2 {R : List HItem} {a b x y : HItem} : (x :: y :: a :: b :: R).Perm ([a, b] ++ (x :: y :: R)) := (pm2_1.cons x).trans pm2_1
theorem pm2_3 {R : List HItem} {a b x y z : HItem} : (x :: y :: z :: a :: b :: R).Perm ([a, b] ++ (x :: y :: z :: R)) := (pm2_2.cons x).trans pm2_1
theorem pm3_0 {R : List HItem} {a b c : HItem} : (a :: b :: c :: R).Perm ([a, b, c] ++ R) := .refl _
theorem pm3_1 {R : List HItem} {a b c x : HItem} : (x :: a :: b :: c :: R).Perm ([a, b, c] ++ (x :: R)) := by
  simpa using (List.perm_append_comm (l₁ := [x]) (l₂ := [a, b, c])).append_right R
theorem pm3_2 {R : List HItem} {a b c x y : HItem} : (x :: y :: a :: b :: c :: R).Perm ([a, b, c] ++ (x :: y :: R)) := by
  simpa using (List.perm_append_comm (l₁ := [x, y]) (l₂ := [a, b, c])).append_right R
theorem gt0 {α : Type} {a : α} {l : List α} : (a :: l)[0]? = some a := rfl
theorem gt1 {α : Type} {a b : α} {l : List α} : (a :: b :: l)[1]? = some b := rfl
theorem gt2 {α : Type} {a b c : α} {l : List α} : (a :: b :: c :: l)[2]? = some c := rfl
theorem gt3 {α : Type} {a b c d : α} {l : List α} : (a :: b :: c :: d :: l)[3]? = some d := rfl
theorem gt4 {α : Type} {a b c d e : α} {l : List α} : (a :: b :: c :: d :: e :: l)[4]? = some e := rfl
end Go.Fw
end
section
namespace Go.Fw
open Go
section
variable {P : Program} {N : Nat} {ds : List Deferred} {Q : Exit → Act → World → Prop} {K : Act → World → Prop} {l l' : Log} {w w' : World} {ops : Array Oper} {os : List Oper} {o : Oper}
variable {d : Nat} {ty : TypeId} {pos : String} {af : Array Edge} {g : Option (Nat × Bool)} {t t' : TypeId} {x y z : Operand}
variable {E : Ent} {I I' : Imm} {H H' R : List HItem}

theorem splice1 {c : List Value} {off : Nat} {v : Value} (h : Nat.blt off c.length = true) : c.take off ++ ([v] ++ c.drop (off + 1)) = c.set off v := by
  have h' : off < c.length := by simpa [Nat.blt_eq] using h
  rw [List.set_eq_take_append_cons_drop, if_pos h']; rfl
/-- one cell is stored. -/
theorem m_store1 {i b off by_ : Nat} [Elem P t 1 by_] {c : List Value} {e : TypeId} {v : Value} {dst : Option Nat} (hm : Mem E I H w) (hd : dst = none) (hw : want ops l ⟨dst, .store t x y, ty, pos, af, g⟩ = some true)
    (hx : ev l x = some (.pointer (some ⟨b, off, none⟩))) (hy : ev l y = some v) (hb : H[i]? = some (.obj b (.cells c.toArray e (0, 0)))) (hn : v.cells.toList = [v]) (ho : Nat.blt off c.length = true)
    (h1 : v.oneCell' = true)
    (k : ∀ w', Mem E I (H.set i (.obj b (.cells (c.set off v).toArray e (0, 0)))) w' → WL P N ds ops Q os l w') :
    WL P N ds ops Q (⟨dst, .store t x y, ty, pos, af, g⟩ :: os) l w := by
  refine m_store (n := 1) hm hd hw hx hy hb (by rw [hn]; rfl) ?_ (by rw [hn]; simp [h1]) (fun w' hm' => ?_)
  · have : off < c.length := by simpa [Nat.blt_eq] using ho
    simp; omega
  · rw [hn, splice1 ho] at hm'
    exact k w' hm'
/-- all of a block's cells are stored. -/
theorem m_storeAll {i b n by_ : Nat} [Elem P t n by_] {c vs : List Value} {e : TypeId} {dst : Option Nat} (hm : Mem E I H w) (hd : dst = none) (hw : want ops l ⟨dst, .store t x y, ty, pos, af, g⟩ = some true)
    (hx : ev l x = some (.pointer (some ⟨b, 0, none⟩))) (hy : ev l y = some (.agg vs.toArray)) (hb : H[i]? = some (.obj b (.cells c.toArray e (0, 0)))) (hn : vs.length = n) (ho : c.length = n)
    (h1 : vs.all (·.oneCell') = true)
    (k : ∀ w', Mem E I (H.set i (.obj b (.cells vs.toArray e (0, 0)))) w' → WL P N ds ops Q os l w') :
    WL P N ds ops Q (⟨dst, .store t x y, ty, pos, af, g⟩ :: os) l w := by
  refine m_store (n := n) hm hd hw hx hy hb (by simpa [Value.cells] using hn) (by simp [ho]) (by simpa [Value.cells] using h1) (fun w' hm' => k w' ?_)
  have e1 : c.drop (0 + n) = [] := by rw [Nat.zero_add, ← ho]; simp
  rw [e1] at hm'
  simpa [Value.cells] using hm'
theorem m_loadAll {n : Nat} [TyAgg P t n] {i b : Nat} {c : List Value} {e : TypeId} {fr : Nat × Nat} (hm : Mem E I H w) (hw : want ops l ⟨some d, .load t x, ty, pos, af, g⟩ = some true) (hN : Nat.blt d N = true)
    (hx : ev l x = some (.pointer (some ⟨b, 0, none⟩))) (hb : H[i]? = some (.obj b (.cells c.toArray e fr))) (hl : c.length = n)
    (k : WL P N ds ops Q os ((d, .agg c.toArray) :: l) w) : WL P N ds ops Q (⟨some d, .load t x, ty, pos, af, g⟩ :: os) l w :=
  m_loadN (vs := c) hm hw hN hx hb (by rw [← hl]; simp) hl k
theorem mq_loadAll {n : Nat} [TyAgg P t n] {i b : Nat} {c : List Value} {e : TypeId} {fr : Nat × Nat} (hm : Mem E I H w) (hw : want ops l ⟨some d, .load t x, ty, pos, af, g⟩ = some true) (hN : Nat.blt d N = true)
    (hx : ev l x = some (.pointer (some ⟨b, 0, none⟩))) (hb : H[i]? = some (.obj b (.cells c.toArray e fr))) (hl : c.length = n)
    (k : WQ P N ds ops w K os ((d, .agg c.toArray) :: l)) : WQ P N ds ops w K (⟨some d, .load t x, ty, pos, af, g⟩ :: os) l :=
  mq_loadN (vs := c) hm hw hN hx hb (by rw [← hl]; simp) hl k
/-- a struct variable that begins with zeros. -/
theorem m_allocS {pl : List (Nat × Nat)} {z : List Value} [hS : StructT P t pl z] {n by_ : Nat} [Elem P t n by_] (hm : Mem E I H w) (hw : want ops l ⟨some d, .alloc t, ty, pos, af, g⟩ = some true) (hN : Nat.blt d N = true)
    (k : ∀ b w', Mem E I (.obj b (.cells z.toArray t (0, 0)) :: H) w' → WL P N ds ops Q os ((d, .pointer (some ⟨b, 0, none⟩)) :: l) w') :
    WL P N ds ops Q (⟨some d, .alloc t, ty, pos, af, g⟩ :: os) l w := by
  obtain ⟨_, _, _, h3⟩ := hS.out
  exact m_alloc hm hw hN h3 k
theorem m_box {v : Value} {vs : List Value} (hm : Mem E I H w) (hw : want ops l ⟨some d, .box t x, ty, pos, af, g⟩ = some true) (hN : Nat.blt d N = true) (hx : ev l x = some v) (hv : v.cells = vs.toArray)
    (k : ∀ b w', Mem E I (.obj b (.cells vs.toArray t (0, 0)) :: H) w' → WL P N ds ops Q os ((d, .pointer (some ⟨b, 0, none⟩)) :: l) w') :
    WL P N ds ops Q (⟨some d, .box t x, ty, pos, af, g⟩ :: os) l w :=
  op_box hw hN hx (fun b w' hb hh hk => k b w' (hm.add hk (by rw [← hv]; exact hh) (fun b' hb' => by simp only [HItem.blk, Option.some.injEq] at hb'; omega)))
/-- a variable of its own, that begins with a struct, or one cell. -/
theorem m_varS {n by_ : Nat} [Elem P t n by_] {vs : List Value} {ty' : TypeId} {pos' : String} {af' : Array Edge} (hm : Mem E I H w) (hN : Nat.blt d N = true)
    (hy : ev l y = some (.agg vs.toArray)) (hne : neTmp y d = true) (hn : vs.length = n) (h1 : vs.all (·.oneCell') = true)
    (k : ∀ b w', Mem E I (.obj b (.cells vs.toArray t (0, 0)) :: H) w' → WL P N ds ops Q os ((d, .pointer (some ⟨b, 0, none⟩)) :: l) w') :
    WL P N ds ops Q (⟨some d, .alloc t, ty, pos, af, none⟩ :: ⟨none, .store t (.tmp d) y, ty', pos', af', none⟩ :: os) l w :=
  m_var hm hN hy hne (by simpa [Value.cells] using hn) (by simpa [Value.cells] using h1) (fun b w' hm' => k b w' (by simpa [Value.cells] using hm'))
theorem m_var1 {by_ : Nat} [Elem P t 1 by_] {v : Value} {ty' : TypeId} {pos' : String} {af' : Array Edge} (hm : Mem E I H w) (hN : Nat.blt d N = true)
    (hy : ev l y = some v) (hne : neTmp y d = true) (hn : v.cells.toList = [v]) (h1 : v.oneCell' = true)
    (k : ∀ b w', Mem E I (.obj b (.cells [v].toArray t (0, 0)) :: H) w' → WL P N ds ops Q os ((d, .pointer (some ⟨b, 0, none⟩)) :: l) w') :
    WL P N ds ops Q (⟨some d, .alloc t, ty, pos, af, none⟩ :: ⟨none, .store t (.tmp d) y, ty', pos', af', none⟩ :: os) l w :=
  m_var hm hN hy hne (by rw [hn]; rfl) (by rw [hn]; simp [h1]) (fun b w' hm' => k b w' (by rw [hn] at hm'; exact hm'))
/-- 'append(s, u)' to an owned row: the slice that comes of it, seen. -/
theorem m_push {e : TypeId} {sz by_ : Nat} [TySlice P t e] [Elem P e sz by_] {d1 i : Nat} {s : Operand} {v u : Value} {n : Nat} {xs us : List Value}
    {ty' : TypeId} {pos' : String} {af' : Array Edge} (hm : Mem E I H w) (hN1 : Nat.blt d1 N = true) (hN : Nat.blt d N = true)
    (hs : ev l s = some v) (hne : neTmp s d1 = true) (hx : ev l x = some u) (hi : H[i]? = some (.row v e sz n xs)) (hus : u.cells.toList = us) (hu : us.length = sz) (h1 : us.all (·.oneCell') = true)
    (hsz : Nat.ble sz 1024 = true) (hlen : (n + 1) * by_ ≤ 140737488355328) (h63 : n + 1 ≤ 9223372036854775807)
    (k : ∀ a cp b1 w', Mem E I (H.set i (.row (.slice a (n + 1) cp) e sz (n + 1) (xs ++ us))) w' → WL P N ds ops Q os ((d, .slice a (n + 1) cp) :: (d1, .slice (some ⟨b1, 0, none⟩) 1 1) :: l) w') :
    WL P N ds ops Q (⟨some d1, .buildSlice t 1 #[(0, x)], ty, pos, af, none⟩ :: ⟨some d, .call ⟨.builtin .append, #[s, .tmp d1], #[t, t]⟩, ty', pos', af', none⟩ :: os) l w := by
  subst hus
  refine m_append1 hm hN1 hN hs hne hx hi hu h1 hsz hlen h63 (fun v' b1 w' hm' => ?_)
  have hlt : i < H.length := (List.getElem?_eq_some_iff.1 hi).1
  obtain ⟨a, cp, rfl⟩ := own_val (hm'.getRow (i := i) (by rw [List.getElem?_set]; simp [hlt]; exact ⟨rfl, rfl, rfl, rfl, rfl⟩))
  exact k a cp b1 w' hm'
theorem i_load1z [TyOne P t] {b off tc : Nat} {cs : List Value} {v : Value} (hm : Mem E I H w) (hw : want ops l ⟨some d, .load t x, ty, pos, af, g⟩ = some true) (hN : Nat.blt d N = true)
    (hx : ev l x = some (.pointer (some ⟨b, off, none⟩))) (hp : PtrI I b off tc cs) (hc : cs[0]? = some v)
    (k : WL P N ds ops Q os ((d, v) :: l) w) : WL P N ds ops Q (⟨some d, .load t x, ty, pos, af, g⟩ :: os) l w := by
  obtain ⟨c, fr, h1, h2⟩ := hp
  exact op_load1 hw hN hx (hm.inv _ _ h1) (h2 0 v hc) k
theorem iq_load1z [TyOne P t] {b off tc : Nat} {cs : List Value} {v : Value} (hm : Mem E I H w) (hw : want ops l ⟨some d, .load t x, ty, pos, af, g⟩ = some true) (hN : Nat.blt d N = true)
    (hx : ev l x = some (.pointer (some ⟨b, off, none⟩))) (hp : PtrI I b off tc cs) (hc : cs[0]? = some v)
    (k : WQ P N ds ops w K os ((d, v) :: l)) : WQ P N ds ops w K (⟨some d, .load t x, ty, pos, af, g⟩ :: os) l := by
  obtain ⟨c, fr, h1, h2⟩ := hp
  exact q_load1 hw hN hx (hm.inv _ _ h1) (h2 0 v hc) k
theorem gt5 {α : Type} {a b c d e f : α} {l : List α} : (a :: b :: c :: d :: e :: f :: l)[5]? = some f := rfl
theorem gt6 {α : Type} {a b c d e f g : α} {l : List α} : (a :: b :: c :: d :: e :: f :: g :: l)[6]? = some g := rfl
theorem m_ret2_agg {fn : Func} {i tr u n b : Nat} {tc : TypeId} [TyAgg P tc n] {c : List Value} {e : TypeId} {fr : Nat × Nat} {xv : Value} {Post : Value → World → Prop} (hm : Mem E I H w) (hr : fn.results = #[.cell tr tc, .tmp u])
    (hx : lk l tr = some (.pointer (some ⟨b, 0, none⟩))) (hu : lk l u = some xv) (hb : H[i]? = some (.obj b (.cells c.toArray e fr))) (hl : c.length = n)
    (h : Post (.tuple #[.agg c.toArray, xv]) w) : At N [] (bodyPost P fn (Ret Post)) .ret l w :=
  at_ret2_agg hr hx hu (hm.get hb) hl (fun j v hv => by simpa using hv) h
end
end Go.Fw
end
section
namespace Go.Fw
open Go
section
variable {P : Program} {N : Nat} {ds : List Deferred} {Q : Exit → Act → World → Prop} {l l' : Log} {w w' : World} {ops : Array Oper} {os : List Oper} {o : Oper}
variable {d : Nat} {ty : TypeId} {pos : String} {af : Array Edge} {g : Option (Nat × Bool)} {t t' : TypeId} {x y : Operand} {ik : IntKind}

theorem Kept.of_below {w w' : World} (h : RowKit.Below w.heap.size w w') : Kept [] w w' := ⟨h.os, h.tape, h.output, h.size, fun k hk _ => h.block k hk⟩
end
end Go.Fw
end
section
namespace Go.Fw
open Go
abbrev byteV (c : UInt8) : Value := .int .u8 (c.toNat : Int)
abbrev encB (c : UInt8) : List Value := [byteV c]
section
variable {P : Program} {N : Nat} {ds : List Deferred} {Q : Exit → Act → World → Prop} {K : Act → World → Prop} {l l' : Log} {w w' : World} {ops : Array Oper} {os : List Oper} {o : Oper}
variable {d : Nat} {ty : TypeId} {pos : String} {af : Array Edge} {g : Option (Nat × Bool)} {t t' : TypeId} {x y z : Operand}
variable {E : Ent} {I I' : Imm} {H H' R : List HItem}
/-- what an older contract hands back of its own turns no more. -/
theorem Mem.take {ty sz n : Nat} {v : Value} {xs : List Value} (hm : Mem E I H w) (k : Kept [] w w') (ho : w'.ownsRow w.heap.size ty sz v n xs) : ∃ I', Le I I' ∧ Mem E I' H w' ∧ RowI I' ty sz v n xs :=
  (hm.add (x := .row v ty sz n xs) k (ownsRow_base ho (Nat.zero_le _)) (fun b hb => (ho.lt b hb).1)).freeze
/-- a new block that is written no more. -/
theorem Mem.fresh (hm : Mem E I H w) (k : Kept [] w w') {b : Nat} {o : Obj} (hb : w.heap.size ≤ b) (ho : w'.heap[b]? = some o) : Le I (I.add b o) ∧ Mem E (I.add b o) H w' := by
  have hf := hm.inv.fresh hb
  refine ⟨Le.add hf, (hm.kept0 k).freezeB ho hf (.inr (Nat.le_trans hm.kept.size hb)) (fun h hh e => ?_)⟩
  have := (hm.ok h hh).lt e
  omega
theorem bytes_kept (w : World) (e : TypeId) (s : ByteArray) : Kept [] w (Lib.bytesWorld w e s) :=
  ⟨rfl, rfl, rfl, by rw [Lib.bytesWorld_size]; omega, fun k hk _ => Lib.bytesWorld_at_old w e s k hk⟩
theorem flat_sing {α : Type} (f : α → Value) (s : List α) : s.flatMap (fun c => [f c]) = s.map f := by
  induction s with
  | nil => rfl
  | cons a s ih => simp [ih]
/-- '[]byte(s)'. -/
theorem i_strBytes {e : TypeId} [TyStr P t] [TySlice P t' e] [TyInt P e .u8] {s : List UInt8} (hm : Mem E I H w) (hw : want ops l ⟨some d, .convert t t' x, ty, pos, af, g⟩ = some true) (hN : Nat.blt d N = true)
    (hx : ev l x = some (str s))
    (k : ∀ I' a cp w', Le I I' → Mem E I' H w' → RowI I' e 1 (.slice a s.length cp) s.length (s.flatMap encB) → WL P N ds ops Q os ((d, .slice a s.length cp) :: l) w') :
    WL P N ds ops Q (⟨some d, .convert t t' x, ty, pos, af, g⟩ :: os) l w := by
  have h0 := Lib.run_convert_string_bytes (P := P) w t t' e ⟨s.toArray⟩ (TyStr.out (P := P) (t := t)) (TySlice.out (P := P) (t := t')) (TyInt.out (P := P) (t := e))
  have hn := Lib.bytesWorld_at_new w e ⟨s.toArray⟩
  obtain ⟨h1, h2⟩ := hm.fresh (bytes_kept w e ⟨s.toArray⟩) (Nat.le_refl _) hn
  rw [str_size] at h0
  refine wl_value (v := .slice (some ⟨w.heap.size, 0, none⟩) s.length (grownCap w s.length 0 e)) (w' := Lib.bytesWorld w e ⟨s.toArray⟩) rfl hw hN (fun a ha => by simp only [execOp, ha.ev hx, h0, Sem.run_bind, Result.andThen_ok, Sem.run_pure]) (k _ _ _ _ h1 h2 ⟨?_, _, _, rfl, ?_, fun hpos => ⟨_, _, _, (_, _), rfl, Imm.add_self _ _ _, fun j u hj => ?_⟩⟩)
  · show (s.flatMap (fun c => [byteV c])).length = _
    rw [flat_sing]; simp
  · exact grownCap_ge _ _ _ _
  · rw [Nat.zero_add]
    show (Lib.bytesCells w e ⟨s.toArray⟩)[j]? = some u
    have hj' : (s.map byteV)[j]? = some u := by rw [← flat_sing byteV s]; exact hj
    have hlt := (List.getElem?_eq_some_iff.1 hj').1
    simp only [List.length_map] at hlt
    unfold Lib.bytesCells
    rw [Array.getElem?_append_left (by simpa using hlt)]
    simpa using hj'
end
end Go.Fw
end
section
namespace Go.Fw
open Go
/-- entries, oldest first. -/
abbrev Ents := List (List UInt8 × Value)
def entsOf (es : Ents) (n : Nat) : List MapEntry := (es.zipIdx n).map (fun p => { key := str p.1.1, val := p.1.2, born := p.2 })
class TyMap (P : Program) (t : TypeId) (k e : outParam TypeId) : Prop where out : P.underlying t = some (.map k e)
/-- the map in a block: texts' entries, none twice. -/
structure MapAt (w : World) (b : Nat) (es : Ents) : Prop where
  out : w.heap[b]? = some (.map (entsOf es 0).toArray es.length)
  nodup : (es.map (·.1)).Nodup
section
variable {P : Program} {N : Nat} {ds : List Deferred} {Q : Exit → Act → World → Prop} {l l' : Log} {w w' : World} {ops : Array Oper} {os : List Oper} {o : Oper}
variable {d : Nat} {ty : TypeId} {pos : String} {af : Array Edge} {g : Option (Nat × Bool)} {t t' : TypeId} {x y z : Operand}

end
end Go.Fw
end
section
namespace Go.Fw
open Go
section
variable {P : Program} {N : Nat} {ds : List Deferred} {Q : Exit → Act → World → Prop} {K : Act → World → Prop} {l l' : Log} {w w' : World} {ops : Array Oper} {os : List Oper} {o : Oper}
variable {d : Nat} {ty : TypeId} {pos : String} {af : Array Edge} {g : Option (Nat × Bool)} {t t' : TypeId} {x y z : Operand}
variable {E : Ent} {I I' : Imm} {H H' R : List HItem}
end
end Go.Fw
end
section
namespace Go.Fw
open Go
section
variable {P : Program} {N : Nat} {ds : List Deferred} {Q : Exit → Act → World → Prop} {K : Act → World → Prop} {l l' : Log} {w w' : World} {ops : Array Oper} {os : List Oper} {o : Oper}
variable {d : Nat} {ty : TypeId} {pos : String} {af : Array Edge} {g : Option (Nat × Bool)} {t t' : TypeId} {x y z : Operand}
variable {E : Ent} {I I' : Imm} {H H' R : List HItem}
/-- a deferred call: it returns, and 'Post' holds of the world. -/
structure CalD (P : Program) (f : FuncId) (args : Array Value) (w : World) (Post : World → Prop) : Prop where
  run : CallsD P f args .returning w (fun e u' w' => u' = .returning ∧ Ret (fun _ w' => Post w') e w')
end
end Go.Fw
end
section
namespace Go.Fw
open Go
section
variable {P : Program} {N : Nat} {ds : List Deferred} {Q : Exit → Act → World → Prop} {K : Act → World → Prop} {KV : Act → Prop} {l l' : Log} {w w' w0 wd : World} {ops : Array Oper} {os os' tail : List Oper} {o : Oper}
variable {d : Nat} {ty : TypeId} {pos : String} {af : Array Edge} {g : Option (Nat × Bool)} {t t' : TypeId} {x y z : Operand}
variable {E : Ent} {I I' I0 : Imm} {H H' R G : List HItem} {X : List Nat}
/-- such a region: what its operations in turn may write ('G') apart, the rest beside. -/
theorem wc_semi_mem [Mixed P] {id : Nat} (hm : Mem E I (G ++ R) w) (q n : Nat) (hB : semiB os.toArray q n = true)
    (h : ∀ wd, Mem E I (G ++ R) wd → Mem ⟨wd, blks G, I⟩ I G wd → WV P N ds os.toArray (blks G) wd (fun a' => seqV P os.toArray (fun w' => Kept (blks G) wd w') (fun a' w' => wpList P os.toArray Q (os.drop n) a' w') ((os.drop q).take (n - q)) a' wd) (os.take q) l) :
    WC P N ds (.region id os.toArray true) Q l w :=
  wc_semi q n (blks G) hB (fun wd hk => h wd (hm.kept0 hk) (hm.kept0 hk).sub)
theorem Mem.notG (hR : Mem E I (G ++ R) w) {i : Nat} {h : HItem} (hi : R[i]? = some h) {b : Nat} (hb : h.blk = some b) : b ∉ blks G := fun hx => by
  obtain ⟨k, hk, hkb⟩ := mem_blks hx
  exact (List.pairwise_append.1 hR.dist).2.2 k hk h (List.mem_of_getElem? hi) b hkb hb
theorem Mem.notGI (hR : Mem E I (G ++ R) w) {b : Nat} {o : Obj} (hb : I b = some o) : b ∉ blks G := fun hx => by
  obtain ⟨k, hk, hkb⟩ := mem_blks hx
  have := hR.free k (List.mem_append_left _ hk) b hkb
  rw [hb] at this; cases this
theorem mw_load1 [TyOne P t] {i b off : Nat} {c : List Value} {e : TypeId} {fr : Nat × Nat} {v : Value} (hR : Mem E I (G ++ R) w) (hw : want ops l ⟨some d, .load t x, ty, pos, af, g⟩ = some true) (hN : Nat.blt d N = true)
    (hx : ev l x = some (.pointer (some ⟨b, off, none⟩))) (hb : R[i]? = some (.obj b (.cells c.toArray e fr))) (hc : c[off]? = some v)
    (k : WV P N ds ops (blks G) w KV os ((d, v) :: l)) : WV P N ds ops (blks G) w KV (⟨some d, .load t x, ty, pos, af, g⟩ :: os) l :=
  v_load1 hw hN hx (hR.right.get hb) (hR.notG hb rfl) (by simpa using hc) k
/-- a call in turn. -/
theorem mt_call {f : FuncId} [Own P f] {xs : List Operand} {tys : Array TypeId} {vs : List Value} {Post : Value → Imm → List HItem → Prop} (hm : Mem ⟨w0, X, I0⟩ I G w)
    (hw : want ops l ⟨some d, .call ⟨.value (.func f), xs.toArray, tys⟩, ty, pos, af, g⟩ = some true) (hN : Nat.blt d N = true)
    (hx : evs l xs = some vs) (hp : G.Perm (H ++ R)) (hc : CalM P f vs.toArray I H Post)
    (k : ∀ v I' H' w', Post v I' H' → Le I I' → Mem ⟨w0, X, I0⟩ I' (H' ++ R) w' → WS P N ds ops Q X w0 os' tail ((d, v) :: l) w') :
    WS P N ds ops Q X w0 (⟨some d, .call ⟨.value (.func f), xs.toArray, tys⟩, ty, pos, af, g⟩ :: os') tail l w :=
  ws_enter rfl hw hN (fun a ha => by
    have := ha.evs hx
    simp [execOp, resolve, invoke, Act.eval, Deferred.ofValue, this, run_callFunc]) (hc.run w (hm.perm hp).sub) (fun v w' ⟨I', H', h1, h2⟩ =>
      have hm' := (hm.perm hp).back h2
      ⟨hm'.kept, k v I' H' w' h1 h2.le hm'⟩)
/-- 'append(s, u)' in turn, to an owned row. -/
theorem mt_push {e : TypeId} {sz by_ : Nat} [TySlice P t e] [Elem P e sz by_] {d1 i : Nat} {s : Operand} {v u : Value} {n : Nat} {xs us : List Value}
    {ty' : TypeId} {pos' : String} {af' : Array Edge} (hm : Mem ⟨w0, X, I0⟩ I H w) (hN1 : Nat.blt d1 N = true) (hN : Nat.blt d N = true)
    (hs : ev l s = some v) (hne : neTmp s d1 = true) (hx : ev l x = some u) (hi : H[i]? = some (.row v e sz n xs)) (hus : u.cells.toList = us) (hu : us.length = sz) (h1 : us.all (·.oneCell') = true)
    (hsz : Nat.ble sz 1024 = true) (hlen : (n + 1) * by_ ≤ 140737488355328) (h63 : n + 1 ≤ 9223372036854775807)
    (k : ∀ a cp b1 w', Mem ⟨w0, X, I0⟩ I (H.set i (.row (.slice a (n + 1) cp) e sz (n + 1) (xs ++ us))) w' → WL P N ds ops Q tail ((d, .slice a (n + 1) cp) :: (d1, .slice (some ⟨b1, 0, none⟩) 1 1) :: l) w') :
    WS P N ds ops Q X w0 [⟨some d1, .buildSlice t 1 #[(0, x)], ty, pos, af, none⟩, ⟨some d, .call ⟨.builtin .append, #[s, .tmp d1], #[t, t]⟩, ty', pos', af', none⟩] tail l w := by
  subst hus
  obtain ⟨i', z, hi', hz, hs', hby, hzc, hpos⟩ := Elem.out (P := P) (e := e)
  have h6 := fun w => run_underlying (P := P) (w := w) (TySlice.out (P := P) (t := t))
  have hs2 : ev ((d1, .slice (some ⟨w.heap.size, 0, none⟩) 1 1) :: l) s = some v := ev_ne hne hs
  have hown := hm.getRow hi
  have hu' : u.cells.size = sz := by simpa using hu
  have hown2 : (w.alloc (.cells u.cells e (0, 0))).ownsRow 0 e sz v n xs := hown.alloc _
  obtain ⟨v', w', hr, ho, hk, hb⟩ := run_append (P := P) (t := t) hown2 ⟨w.heap.size, 0, none⟩ 1 1 u.cells.toList (by simp [hu']) (fun j r hj => by
      rw [Addr.add_lit]; exact cell_of (heap_alloc_new w _) (by simpa using hj)) (fun r hr => List.all_eq_true.1 h1 r hr) h63 hlen (by simp) ty'
  have hk2 : Kept v.ownBlock.toList w w' := ((Kept.alloc w _).mono (fun _ h => by cases h)).trans hk
  have hb2 : v'.ownBlock = v.ownBlock ∨ ∃ g, v'.ownBlock = some g ∧ w.heap.size ≤ g := hb.imp_right fun ⟨g, h1, h2⟩ => ⟨g, h1, by simp at h2; omega⟩
  have hm' := hm.turn (h' := .row v' e sz (n + 1) (xs ++ u.cells.toList)) hi hk2 ho hb2
  refine ws_value (w' := w.alloc (.cells u.cells e (0, 0))) (v := .slice (some ⟨w.heap.size, 0, none⟩) 1 1) rfl rfl hN1 (fun a ha => ?_) (hm.kept.step0 (Kept.alloc w _)) ?_
  · have hz0 : ¬ (2 ^ 24 < sz) := by have := Nat.le_of_ble_eq_true hsz; omega
    have hz1 : ¬ (sz = 0) := by omega
    have hf := fill_one hu' ((Array.range sz).map (z.cells[· % z.cells.size]!)) (by simp)
    simp [execOp, Instr.buildSlice, h6, sizeOf, typeInfo, hi', hs', zeroValue, hz, ha.ev hx, hz0, hz1, hf, newRow, newObj]
    rfl
  · refine ws_value (w' := w') (v := v') rfl rfl hN (fun a ha => ?_) hm'.kept (ws_nil ?_)
    · have e1 := ha.ev hs2
      have e2 : a.eval (.tmp d1) = .slice (some ⟨w.heap.size, 0, none⟩) 1 1 := ha.ev (by simp [ev, lk])
      simp [execOp, resolve, invoke, builtin, e1, e2, hr]
    · have hlt : i < H.length := (List.getElem?_eq_some_iff.1 hi).1
      obtain ⟨a, cp, rfl⟩ := own_val (hm'.getRow (i := i) (by rw [List.getElem?_set]; simp [hlt]; exact ⟨rfl, rfl, rfl, rfl, rfl⟩))
      exact k a cp _ w' hm'
end
end Go.Fw
end
section
namespace Go.Fw
open Go
def pickL (os : List Oper) : List Nat → List Oper
  | [] => []
  | k :: ks => match os[k]? with
    | some o => o :: pickL os ks
    | none => pickL os ks
section
variable {P : Program} {ops : Array Oper} {md : Region.Mode} {C : World → Prop}
theorem pickL_map (os : List Oper) : ∀ (ks : List Nat), ks.all (fun k => Nat.blt k os.length) = true → ks.map (os.toArray[·]?) = (pickL os ks).map some ∧ (pickL os ks).length = ks.length
  | [], _ => ⟨rfl, rfl⟩
  | k :: ks, h => by
    rw [List.all_cons, Bool.and_eq_true] at h
    have hk : k < os.length := by simpa [Nat.blt_eq] using h.1
    obtain ⟨h1, h2⟩ := pickL_map os ks h.2
    have e : os[k]? = some os[k] := List.getElem?_eq_getElem hk
    rw [pickL, e]
    exact ⟨by simp only [List.map_cons]; rw [h1]; simp [e], by simp [h2]⟩
end
section
variable {P : Program} {N : Nat} {ds : List Deferred} {X : List Nat} {Q : Exit → Act → World → Prop} {l : Log} {w : World} {os : List Oper} {E : Ent} {I : Imm} {G R : List HItem}
variable {d : Nat} {ty : TypeId} {pos : String} {af : Array Edge} {g : Option (Nat × Bool)} {t t' : TypeId} {x y z : Operand} {ops : Array Oper} {os' tail : List Oper} {w0 : World} {I1 : Imm} {G1 H : List HItem}
theorem iw_loadN {n : Nat} {KV : Act → Prop} [TyAgg P t n] {b off tc : Nat} {cs : List Value} (hR : Mem E I (G ++ R) w) (hw : want ops l ⟨some d, .load t x, ty, pos, af, g⟩ = some true) (hN : Nat.blt d N = true)
    (hx : ev l x = some (.pointer (some ⟨b, off, none⟩))) (hp : PtrI I b off tc cs) (hc : cs.length = n)
    (k : WV P N ds ops (blks G) w KV os ((d, .agg cs.toArray) :: l)) : WV P N ds ops (blks G) w KV (⟨some d, .load t x, ty, pos, af, g⟩ :: os) l := by
  obtain ⟨c, fr, h1, h2⟩ := hp
  exact v_loadN hw hN hx (hR.inv _ _ h1) (hR.notGI h1) hc h2 k
end
end Go.Fw
end
section
namespace Go.Fw
open Go
section
variable {P : Program} {ops : Array Oper} {md : Region.Mode} {C : World → Prop}
/-- step by step: quiet ones ('true'), and those in turn. -/
def mixF (P : Program) (ops : Array Oper) (C : World → Prop) (K : Act → World → Prop) : List (Bool × Oper) → Act → World → Prop
  | [], a, w => K a w
  | (true, o) :: r, a, w => ∃ v, YieldsV P ops C o v a ∧ mixF P ops C K r (a.put o.dst v) w
  | (false, o) :: r, a, w => if Region.wanted o (yielded ops a.tmps) then (∃ u w', (execOp a.eval o).run P w = .ok (.value u) w' ∧ C w' ∧ mixF P ops C K r (a.put o.dst u) w') ∨
      (∃ f args, (execOp a.eval o).run P w = .ok (.enter f args) w ∧ Calls P f args w (fun e w' => ∃ u, e = .returned u ∧ C w' ∧ mixF P ops C K r (a.put o.dst u) w')) else C w ∧ mixF P ops C K r (a.put o.dst undef) w
def mixB (md : Region.Mode) (ops : Array Oper) (g n : Nat) : List (Bool × Nat) → Array Bool → Bool
  | [], listed => Region.seqB md ops g n listed
  | (true, k) :: r, listed => (Region.ready md ops listed).contains k && Region.free md ops listed k && decide (k < n) && mixB md ops g n r (listed.setIfInBounds k true)
  | (false, k) :: r, listed => decide (Region.ready md ops listed = [k]) && decide (k < n) && mixB md ops g n r (listed.setIfInBounds k true)
theorem anyV_mix {n g : Nat} {Lq : Act → World → Prop} (hsel : Region.noSelect ops = true) (hs : Region.sinkB md ops n = true) (hc : Region.chainB md ops n = true) (hn : n < ops.size) :
    ∀ (st : List (Bool × Nat)) (l : List (Bool × Oper)) (listed : Array Bool) (a : Act) (w : World), C w → st.map (fun p => (p.1, ops[p.2]?)) = l.map (fun p => (p.1, some p.2)) → HeadInv md ops n listed →
    mixB md ops g n st listed = true → mixF P ops C Lq l a w →
    anyV P md ops C n (fun listed' a' w' => Region.seqB md ops g n listed' = true ∧ Lq a' w') l.length listed a w
  | [], [], listed, a, w, _, _, _, hB, h => ⟨by simpa [mixB] using hB, h⟩
  | (true, k) :: st, (b, o) :: l, listed, a, w, hC, hl, inv, hB, h => by
    simp only [List.map_cons, List.cons.injEq, Prod.mk.injEq] at hl
    obtain ⟨⟨hb, h0⟩, hl'⟩ := hl
    subst hb
    simp only [mixB, Bool.and_eq_true, decide_eq_true_eq] at hB
    obtain ⟨⟨⟨hr, hf⟩, hkn⟩, hB'⟩ := hB
    have hr' : k ∈ Region.ready md ops listed := by simpa using hr
    obtain ⟨v, hy, hK⟩ := h
    exact v_first h0 (Region.noSelect_spec hsel) hs hc hn hkn (fun listed' a' w' hL => seqB_ready hL.1) l.length listed a w hC inv (Region.free_spec h0 hf) hr' hy
      (anyV_mix hsel hs hc hn st l _ _ w hC hl' (inv.set hr' hkn) hB' hK)
  | (false, k) :: st, (b, o) :: l, listed, a, w, hC, hl, inv, hB, h => by
    simp only [List.map_cons, List.cons.injEq, Prod.mk.injEq] at hl
    obtain ⟨⟨hb, h0⟩, hl'⟩ := hl
    subst hb
    simp only [mixB, Bool.and_eq_true, decide_eq_true_eq] at hB
    obtain ⟨⟨hB1, hkn⟩, hB2⟩ := hB
    have hr' : k ∈ Region.ready md ops listed := by rw [hB1]; simp
    refine ⟨fun h1 => (by rw [hB1] at h1; cases h1), fun i hi => ?_⟩
    rw [hB1] at hi
    have hik : i = k := by simpa using hi
    subst hik
    refine ⟨hkn, ?_⟩
    have next : ∀ a' w', C w' → mixF P ops C Lq l a' w' → anyV P md ops C n (fun listed' a' w' => Region.seqB md ops g n listed' = true ∧ Lq a' w') l.length (listed.setIfInBounds i true) a' w' := fun a' w' hC' h' =>
      anyV_mix hsel hs hc hn st l _ a' w' hC' hl' (inv.set hr' hkn) hB2 h'
    unfold vOp
    simp only [h0]
    unfold mixF at h
    split
    · rename_i hw
      rw [if_pos hw] at h
      rcases h with ⟨u, w', h1, h2, h3⟩ | ⟨f, args, h1, h2⟩
      · exact .inl ⟨u, w', h1, h2, next _ _ h2 h3⟩
      · exact .inr ⟨f, args, h1, Calls.mono h2 (fun e w' ⟨u, he, hc, h⟩ => ⟨u, he, hc, next _ _ hc h⟩)⟩
    · rename_i hw
      rw [if_neg hw] at h
      exact ⟨h.1, next _ _ h.1 h.2⟩
  | [], _ :: _, _, _, _, _, hl, _, _, _ => by simp at hl
  | _ :: _, [], _, _, _, _, hl, _, _, _ => by simp at hl
/-- the same, in groups. -/
def mixV (P : Program) (ops : Array Oper) (C : World → Prop) (K : Act → World → Prop) : List (List Oper × List Oper) → Act → World → Prop
  | [], a, w => K a w
  | (q, t) :: r, a, w => pureV P ops C (fun a' => seqV P ops C (fun a'' w'' => mixV P ops C K r a'' w'') t a' w) q a
def flatG {α : Type} : List (List α × List α) → List (Bool × α)
  | [] => []
  | (q, t) :: r => q.map (fun x => (true, x)) ++ (t.map (fun x => (false, x)) ++ flatG r)
theorem seq_flat {K : Act → World → Prop} {r : List (Bool × Oper)} : ∀ (t : List Oper) (a : Act) (w : World), seqV P ops C (fun a' w' => mixF P ops C K r a' w') t a w → mixF P ops C K (t.map (fun x => (false, x)) ++ r) a w
  | [], a, w, h => h
  | o :: t, a, w, h => by
    unfold seqV at h
    rw [List.map_cons, List.cons_append]
    unfold mixF
    split
    · rename_i hw
      rw [if_pos hw] at h
      rcases h with ⟨u, w', h1, h2, h3⟩ | ⟨f, args, h1, h2⟩
      · exact .inl ⟨u, w', h1, h2, seq_flat t _ _ h3⟩
      · exact .inr ⟨f, args, h1, Calls.mono h2 (fun e w' ⟨u, he, hc, h⟩ => ⟨u, he, hc, seq_flat t _ _ h⟩)⟩
    · rename_i hw
      rw [if_neg hw] at h
      exact ⟨h.1, seq_flat t _ _ h.2⟩
theorem pure_flat {K : Act → World → Prop} {r : List (Bool × Oper)} {w : World} : ∀ (q : List Oper) (a : Act), pureV P ops C (fun a' => mixF P ops C K r a' w) q a → mixF P ops C K (q.map (fun x => (true, x)) ++ r) a w
  | [], a, h => h
  | o :: q, a, h => by
    obtain ⟨v, h1, h2⟩ := h
    exact ⟨v, h1, pure_flat q _ h2⟩
theorem seqV_mono {K K' : Act → World → Prop} (hk : ∀ a w, K a w → K' a w) : ∀ (t : List Oper) (a : Act) (w : World), seqV P ops C K t a w → seqV P ops C K' t a w
  | [], a, w, h => hk _ _ h
  | o :: t, a, w, h => by
    unfold seqV at h ⊢
    split
    · rename_i hw
      rw [if_pos hw] at h
      rcases h with ⟨u, w', h1, h2, h3⟩ | ⟨f, args, h1, h2⟩
      · exact .inl ⟨u, w', h1, h2, seqV_mono hk t _ _ h3⟩
      · exact .inr ⟨f, args, h1, Calls.mono h2 (fun e w' ⟨u, he, hc, h⟩ => ⟨u, he, hc, seqV_mono hk t _ _ h⟩)⟩
    · rename_i hw
      rw [if_neg hw] at h
      exact ⟨h.1, seqV_mono hk t _ _ h.2⟩
theorem pureV_mono {K K' : Act → Prop} (hk : ∀ a, K a → K' a) : ∀ (q : List Oper) (a : Act), pureV P ops C K q a → pureV P ops C K' q a
  | [], a, h => hk _ h
  | o :: q, a, h => by
    obtain ⟨v, h1, h2⟩ := h
    exact ⟨v, h1, pureV_mono hk q _ h2⟩
theorem mix_flat {K : Act → World → Prop} : ∀ (gs : List (List Oper × List Oper)) (a : Act) (w : World), mixV P ops C K gs a w → mixF P ops C K (flatG gs) a w
  | [], a, w, h => h
  | (q, t) :: r, a, w, h => pure_flat q a (pureV_mono (fun a' h' => seq_flat t a' w (seqV_mono (fun a'' w'' h'' => mix_flat r a'' w'' h'') t a' w h')) q a h)
def pickG (os : List Oper) : List (List Nat × List Nat) → List (List Oper × List Oper)
  | [] => []
  | (ks, js) :: r => (pickL os ks, pickL os js) :: pickG os r
def allG (n : Nat) : List (List Nat × List Nat) → Bool
  | [] => true
  | (ks, js) :: r => ks.all (fun k => Nat.blt k n) && (js.all (fun k => Nat.blt k n) && allG n r)
theorem pickG_map (os : List Oper) : ∀ (gs : List (List Nat × List Nat)), allG os.length gs = true → (flatG gs).map (fun p => (p.1, os.toArray[p.2]?)) = (flatG (pickG os gs)).map (fun p => (p.1, some p.2)) ∧ (flatG (pickG os gs)).length = (flatG gs).length
  | [], _ => ⟨rfl, rfl⟩
  | (ks, js) :: r, h => by
    simp only [allG, Bool.and_eq_true] at h
    obtain ⟨k1, k2⟩ := pickL_map os ks h.1
    obtain ⟨j1, j2⟩ := pickL_map os js h.2.1
    obtain ⟨r1, r2⟩ := pickG_map os r h.2.2
    constructor
    · simp only [pickG, flatG, List.map_append, List.map_map]
      rw [r1]
      have e : ∀ (b : Bool) (ks : List Nat) (l : List Oper), ks.map (os.toArray[·]?) = l.map some → ks.map ((fun p : Bool × Nat => (p.1, os.toArray[p.2]?)) ∘ fun x => (b, x)) = l.map ((fun p : Bool × Oper => (p.1, some p.2)) ∘ fun x => (b, x)) := fun b ks l hl => by
        have := congrArg (List.map (fun z => (b, z))) hl
        simpa [List.map_map, Function.comp_def] using this
      rw [e true ks _ k1, e false js _ j1]
    · simp only [pickG, flatG, List.length_append, List.length_map]
      rw [k2, j2, r2]
/-- the check. -/
def mixOk (ops : Array Oper) (gs : List (List Nat × List Nat)) (n : Nat) : Bool :=
  Region.noSelect ops && decide (n < ops.size) && Region.sinkB .any ops n && Region.chainB .any ops n && mixB .any ops (ops.size - n) n (flatG gs) (Array.replicate ops.size false) && decide ((flatG gs).length = n) && allG ops.size gs
theorem wp_region_mix {id : Nat} {Q : Exit → Act → World → Prop} {a : Act} {w : World} {l : List Oper} (gs : List (List Nat × List Nat)) (n : Nat) (hm : P.follows .mixedOrders = true) (hB : mixOk l.toArray gs n = true)
    (hC : C { w with drawn := w.drawn + 1 })
    (h : mixV P l.toArray C (fun a' w' => wpList P l.toArray Q (l.drop n) a' w') (pickG l gs) a { w with drawn := w.drawn + 1 }) : (Code.region id l.toArray true).wp P Q a w := by
  simp only [mixOk, Bool.and_eq_true, decide_eq_true_eq] at hB
  obtain ⟨⟨⟨⟨⟨⟨hsel, hn⟩, hs⟩, hc⟩, hlex⟩, hlen⟩, hall⟩ := hB
  have hn' : n < l.length := by simpa using hn
  have hdl : (l.drop n).length = l.toArray.size - n := by simp
  obtain ⟨k1, k2⟩ := pickG_map l gs (by simpa using hall)
  have inv0 : HeadInv .any l.toArray n (Array.replicate l.toArray.size false) :=
    ⟨by simp, fun j oj _ hl => (by rw [getD_replicate_false] at hl; cases hl), fun t _ ht => getD_in (by simpa using ht) (getD_replicate_false _ _)⟩
  have H := anyV_mix (md := .any) (g := l.toArray.size - n) hsel hs hc hn (flatG gs) (flatG (pickG l gs)) _ a _ hC k1 inv0 hlex (mix_flat _ _ _ h)
  refine wp_region_any hm ?_
  have := any_of_v (Q' := Q) (g := l.toArray.size - n) (fun listed a' w' hL => by
    have := wpAny_of_seq (md := .any) (Q' := Q) (l.drop n) n listed a' w' (fun j => by simp [List.getElem?_drop]) (by rw [hdl]; exact hL.1) hL.2
    rwa [hdl] at this) _ _ _ _ H
  rw [k2, hlen, show n + (l.toArray.size - n) = l.toArray.size by omega] at this
  exact this
end
section
variable {P : Program} {N : Nat} {ds : List Deferred} {X : List Nat} {Q : Exit → Act → World → Prop} {l : Log} {w w0 : World} {os tail : List Oper} {ops : Array Oper} {E : Ent} {I : Imm} {G R : List HItem}
/-- groups that are still to come. -/
structure WX (P : Program) (N : Nat) (ds : List Deferred) (ops : Array Oper) (Q : Exit → Act → World → Prop) (X : List Nat) (w0 : World) (gs : List (List Oper × List Oper)) (tail : List Oper) (l : Log) (w : World) : Prop where
  run : ∀ a, Fits N ds l a → mixV P ops (fun w' => Kept X w0 w') (fun a' w' => wpList P ops Q tail a' w') gs a w
theorem wc_mix_mem [Mixed P] {id : Nat} (hm : Mem E I (G ++ R) w) (gs : List (List Nat × List Nat)) (n : Nat) (hB : mixOk os.toArray gs n = true)
    (h : ∀ wd, Mem E I (G ++ R) wd → Mem ⟨wd, blks G, I⟩ I G wd → WX P N ds os.toArray Q (blks G) wd (pickG os gs) (os.drop n) l wd) :
    WC P N ds (.region id os.toArray true) Q l w :=
  ⟨fun a ha => wp_region_mix (C := fun w' => Kept (blks G) { w with drawn := w.drawn + 1 } w') gs n Mixed.out hB (Kept.refl _ _) ((h _ (hm.kept0 (Kept.drew w)) (hm.kept0 (Kept.drew w)).sub).run a ha)⟩
theorem wx_nil (h : WL P N ds ops Q tail l w) : WX P N ds ops Q X w0 [] tail l w := ⟨fun a ha => h.run a ha⟩
theorem wx_cons {q t : List Oper} {r : List (List Oper × List Oper)} (h : WV P N ds ops X w0 (fun a' => seqV P ops (fun w' => Kept X w0 w') (fun a'' w'' => mixV P ops (fun w' => Kept X w0 w') (fun a' w' => wpList P ops Q tail a' w') r a'' w'') t a' w) q l) :
    WX P N ds ops Q X w0 ((q, t) :: r) tail l w := ⟨fun a ha => h.run a ha⟩
theorem wv_nilX {t : List Oper} {r : List (List Oper × List Oper)} (h : WS P N ds ops (fun _ a w => mixV P ops (fun w' => Kept X w0 w') (fun a' w' => wpList P ops Q tail a' w') r a w) X w0 t [] l w) :
    WV P N ds ops X w0 (fun a' => seqV P ops (fun w' => Kept X w0 w') (fun a'' w'' => mixV P ops (fun w' => Kept X w0 w') (fun a' w' => wpList P ops Q tail a' w') r a'' w'') t a' w) [] l := ⟨fun a ha => by
  refine seqV_mono (fun a' w' h' => ?_) t a w (h.run a ha)
  simpa [wpList] using h'⟩
theorem at_X {r : List (List Oper × List Oper)} (h : WX P N ds ops Q X w0 r tail l w) : At N ds (fun _ a w => mixV P ops (fun w' => Kept X w0 w') (fun a' w' => wpList P ops Q tail a' w') r a w) .normal l w := ⟨fun a ha => h.run a ha⟩
end
end Go.Fw
end
section
namespace Go.Fw
open Go
section
variable {P : Program} {N : Nat} {ds : List Deferred} {Q : Exit → Act → World → Prop} {K : Act → World → Prop} {l l' : Log} {w w' : World} {ops : Array Oper} {os : List Oper}
variable {d : Nat} {ty : TypeId} {pos : String} {af : Array Edge} {g : Option (Nat × Bool)} {t t' : TypeId} {x y z : Operand}
variable {E : Ent} {I I' : Imm} {H H' R : List HItem}
theorem m_buildRow {e : TypeId} {sz by_ n : Nat} [TySlice P t e] [Elem P e sz by_] {ps : List (Nat × Operand)} {vs : List (Nat × Value)} {xs : List Value} (hm : Mem E I H w)
    (hw : want ops l ⟨some d, .buildSlice t n ps.toArray, ty, pos, af, g⟩ = some true) (hN : Nat.blt d N = true) (hx : evp l ps = some vs)
    (hi : vs.map (·.1) = List.range' 0 n) (hs : vs.all (fun p => Nat.beq p.2.cells.toList.length sz) = true) (hn : Nat.ble (n * sz) 16777216 = true) (hn2 : Nat.ble n 16777216 = true) (hxs : vs.flatMap (·.2.cells.toList) = xs) (hl : xs.length = n * sz)
    (k : ∀ b w', Mem E I (.row (.slice (some ⟨b, 0, none⟩) n n) e sz n xs :: H) w' → WL P N ds ops Q os ((d, .slice (some ⟨b, 0, none⟩) n n) :: l) w') :
    WL P N ds ops Q (⟨some d, .buildSlice t n ps.toArray, ty, pos, af, g⟩ :: os) l w := by
  subst hxs
  refine op_buildSlice hw hN hx hi hs (Nat.le_of_ble_eq_true hn) (fun b w' hb hh hk => k b w' (hm.add hk ⟨hl, .inr ⟨b, n, _, rfl, Nat.zero_le _, hh, Nat.le_refl _, ?_, by simpa using hl, ?_⟩⟩ (fun b' hb' => ?_)))
  · have := Nat.le_of_ble_eq_true hn2
    unfold maxLen; omega
  · rw [← hl]; exact List.take_length
  · simp only [HItem.blk, Value.ownBlock, Option.some.injEq] at hb'; omega
end
end Go.Fw
end
