/- Own work: texts FwM3, one behind the other. -/
import Derived.Test.YthmdffgiockcbaaDoorIf5
section
namespace Go.Fw
open Go
section
variable {P : Program} {N : Nat} {ds : List Deferred} {Q : Exit → Act → World → Prop} {K : Act → World → Prop} {l l' : Log} {w w' : World} {ops : Array Oper} {os : List Oper} {o : Oper}
variable {d : Nat} {ty : TypeId} {pos : String} {af : Array Edge} {g : Option (Nat × Bool)} {t t' : TypeId} {x y z : Operand}
variable {E : Ent} {I I' : Imm} {H H' R : List HItem}

theorem splice1 {c : List Value} {off : Nat} {v : Value} (h : Nat.blt off c.length = true) : c.take off ++ ([v] ++ c.drop (off + 1)) = c.set off v := by
  have h' : off < c.length := by simpa [Nat.blt_eq] using h
  rw [List.set_eq_take_append_cons_drop, if_pos h']; rfl
/-- one cell is stored. -/
theorem m_store1 {i b off by_ : Nat} [Elem P t 1 by_] {c : List Value} {e : TypeId} {v : Value} {dst : Option Nat} (hm : Mem E I H w) (hd : dst = none := by rfl) (hw : want ops l ⟨dst, .store t x y, ty, pos, af, g⟩ = some true := by rfl)
    (hx : ev l x = some (.pointer (some ⟨b, off, none⟩)) := by rfl) (hy : ev l y = some v := by rfl) (hb : H[i]? = some (.obj b (.cells c.toArray e (0, 0))) := by first | exact gt0 | exact gt1 | exact gt2 | exact gt3 | exact gt4 | exact gt5 | exact gt6) (hn : v.cells.toList = [v] := by rfl) (ho : Nat.blt off c.length = true := by rfl)
    (h1 : v.oneCell' = true := by rfl)
    (k : ∀ w', Mem E I (H.set i (.obj b (.cells (c.set off v).toArray e (0, 0)))) w' → WL P N ds ops Q os l w') :
    WL P N ds ops Q (⟨dst, .store t x y, ty, pos, af, g⟩ :: os) l w := by
  refine m_store (n := 1) hm hd hw hx hy hb (by rw [hn]; rfl) ?_ (by rw [hn]; simp [h1]) (fun w' hm' => ?_)
  · have : off < c.length := by simpa [Nat.blt_eq] using ho
    simp; omega
  · rw [hn, splice1 ho] at hm'
    exact k w' hm'
/-- all of a block's cells are stored. -/
theorem m_storeAll {i b n by_ : Nat} [Elem P t n by_] {c vs : List Value} {e : TypeId} {dst : Option Nat} (hm : Mem E I H w) (hd : dst = none := by rfl) (hw : want ops l ⟨dst, .store t x y, ty, pos, af, g⟩ = some true := by rfl)
    (hx : ev l x = some (.pointer (some ⟨b, 0, none⟩)) := by rfl) (hy : ev l y = some (.agg vs.toArray) := by rfl) (hb : H[i]? = some (.obj b (.cells c.toArray e (0, 0))) := by first | exact gt0 | exact gt1 | exact gt2 | exact gt3 | exact gt4 | exact gt5 | exact gt6) (hn : vs.length = n := by rfl) (ho : c.length = n := by rfl)
    (h1 : vs.all (·.oneCell') = true := by rfl)
    (k : ∀ w', Mem E I (H.set i (.obj b (.cells vs.toArray e (0, 0)))) w' → WL P N ds ops Q os l w') :
    WL P N ds ops Q (⟨dst, .store t x y, ty, pos, af, g⟩ :: os) l w := by
  refine m_store (n := n) hm hd hw hx hy hb (by simpa [Value.cells] using hn) (by simp [ho]) (by simpa [Value.cells] using h1) (fun w' hm' => k w' ?_)
  have e1 : c.drop (0 + n) = [] := by rw [Nat.zero_add, ← ho]; simp
  rw [e1] at hm'
  simpa [Value.cells] using hm'
/-- some of a block's cells are stored. -/
theorem m_storeN {i b off n by_ : Nat} [Elem P t n by_] {c vs : List Value} {e : TypeId} {dst : Option Nat} (hm : Mem E I H w) (hd : dst = none := by rfl) (hw : want ops l ⟨dst, .store t x y, ty, pos, af, g⟩ = some true := by rfl)
    (hx : ev l x = some (.pointer (some ⟨b, off, none⟩)) := by rfl) (hy : ev l y = some (.agg vs.toArray) := by rfl) (hb : H[i]? = some (.obj b (.cells c.toArray e (0, 0))) := by first | exact gt0 | exact gt1 | exact gt2 | exact gt3 | exact gt4 | exact gt5 | exact gt6) (hn : vs.length = n := by rfl) (ho : Nat.ble (off + n) c.length = true := by rfl)
    (h1 : vs.all (·.oneCell') = true := by rfl)
    (k : ∀ w', Mem E I (H.set i (.obj b (.cells (c.take off ++ (vs ++ c.drop (off + n))).toArray e (0, 0)))) w' → WL P N ds ops Q os l w') :
    WL P N ds ops Q (⟨dst, .store t x y, ty, pos, af, g⟩ :: os) l w := by
  refine m_store (n := n) hm hd hw hx hy hb (by simpa [Value.cells] using hn) ho (by simpa [Value.cells] using h1) (fun w' hm' => k w' ?_)
  simpa [Value.cells] using hm'
theorem m_loadAll {n : Nat} [TyAgg P t n] {i b : Nat} {c : List Value} {e : TypeId} {fr : Nat × Nat} (hm : Mem E I H w) (hw : want ops l ⟨some d, .load t x, ty, pos, af, g⟩ = some true := by rfl) (hN : Nat.blt d N = true := by rfl)
    (hx : ev l x = some (.pointer (some ⟨b, 0, none⟩)) := by rfl) (hb : H[i]? = some (.obj b (.cells c.toArray e fr)) := by first | exact gt0 | exact gt1 | exact gt2 | exact gt3 | exact gt4 | exact gt5 | exact gt6) (hl : c.length = n := by rfl)
    (k : WL P N ds ops Q os ((d, .agg c.toArray) :: l) w) : WL P N ds ops Q (⟨some d, .load t x, ty, pos, af, g⟩ :: os) l w :=
  m_loadN (vs := c) hm hw hN hx hb (by rw [← hl]; simp) hl k
/-- a struct variable that begins with zeros. -/
theorem m_allocS {pl : List (Nat × Nat)} {z : List Value} [hS : StructT P t pl z] {n by_ : Nat} [Elem P t n by_] (hm : Mem E I H w) (hw : want ops l ⟨some d, .alloc t, ty, pos, af, g⟩ = some true := by rfl) (hN : Nat.blt d N = true := by rfl)
    (k : ∀ b w', Mem E I (.obj b (.cells z.toArray t (0, 0)) :: H) w' → WL P N ds ops Q os ((d, .pointer (some ⟨b, 0, none⟩)) :: l) w') :
    WL P N ds ops Q (⟨some d, .alloc t, ty, pos, af, g⟩ :: os) l w := by
  obtain ⟨_, _, _, h3⟩ := hS.out
  exact m_alloc hm hw hN h3 k
theorem m_box {v : Value} {vs : List Value} (hm : Mem E I H w) (hw : want ops l ⟨some d, .box t x, ty, pos, af, g⟩ = some true := by rfl) (hN : Nat.blt d N = true := by rfl) (hx : ev l x = some v := by rfl) (hv : v.cells = vs.toArray := by rfl)
    (k : ∀ b w', Mem E I (.obj b (.cells vs.toArray t (0, 0)) :: H) w' → WL P N ds ops Q os ((d, .pointer (some ⟨b, 0, none⟩)) :: l) w') :
    WL P N ds ops Q (⟨some d, .box t x, ty, pos, af, g⟩ :: os) l w :=
  op_box hw hN hx (fun b w' hb hh hk => k b w' (hm.add hk (by rw [← hv]; exact hh) (fun b' hb' => by simp only [HItem.blk, Option.some.injEq] at hb'; omega)))
/-- a variable of its own, that begins with a struct, or one cell. -/
theorem m_varS {n by_ : Nat} [Elem P t n by_] {vs : List Value} {ty' : TypeId} {pos' : String} {af' : Array Edge} (hm : Mem E I H w) (hN : Nat.blt d N = true := by rfl)
    (hy : ev l y = some (.agg vs.toArray) := by rfl) (hne : neTmp y d = true := by rfl) (hn : vs.length = n := by rfl) (h1 : vs.all (·.oneCell') = true := by rfl)
    (k : ∀ b w', Mem E I (.obj b (.cells vs.toArray t (0, 0)) :: H) w' → WL P N ds ops Q os ((d, .pointer (some ⟨b, 0, none⟩)) :: l) w') :
    WL P N ds ops Q (⟨some d, .alloc t, ty, pos, af, none⟩ :: ⟨none, .store t (.tmp d) y, ty', pos', af', none⟩ :: os) l w :=
  m_var hm hN hy hne (by simpa [Value.cells] using hn) (by simpa [Value.cells] using h1) (fun b w' hm' => k b w' (by simpa [Value.cells] using hm'))
/-- 'append(s, u)' to an owned row: the slice that comes of it, seen. -/
theorem m_push {e : TypeId} {sz by_ : Nat} [TySlice P t e] [Elem P e sz by_] {d1 i : Nat} {s : Operand} {v u : Value} {n : Nat} {xs us : List Value}
    {ty' : TypeId} {pos' : String} {af' : Array Edge} (hm : Mem E I H w) (hN1 : Nat.blt d1 N = true := by rfl) (hN : Nat.blt d N = true := by rfl)
    (hs : ev l s = some v := by rfl) (hne : neTmp s d1 = true := by rfl) (hx : ev l x = some u := by rfl) (hi : H[i]? = some (.row v e sz n xs) := by first | exact gt0 | exact gt1 | exact gt2 | exact gt3 | exact gt4 | exact gt5 | exact gt6) (hus : u.cells.toList = us := by rfl) (hu : us.length = sz := by rfl) (h1 : us.all (·.oneCell') = true := by rfl)
    (hsz : Nat.ble sz 1024 = true := by rfl) (hlen : (n + 1) * by_ ≤ 140737488355328 := by omega) (h63 : n + 1 ≤ 9223372036854775807 := by omega)
    (k : ∀ a cp b1 w', Mem E I (H.set i (.row (.slice a (n + 1) cp) e sz (n + 1) (xs ++ us))) w' → WL P N ds ops Q os ((d, .slice a (n + 1) cp) :: (d1, .slice (some ⟨b1, 0, none⟩) 1 1) :: l) w') :
    WL P N ds ops Q (⟨some d1, .buildSlice t 1 #[(0, x)], ty, pos, af, none⟩ :: ⟨some d, .call ⟨.builtin .append, #[s, .tmp d1], #[t, t]⟩, ty', pos', af', none⟩ :: os) l w := by
  subst hus
  refine m_append1 hm hN1 hN hs hne hx hi hu h1 hsz hlen h63 (fun v' b1 w' hm' => ?_)
  have hlt : i < H.length := (List.getElem?_eq_some_iff.1 hi).1
  obtain ⟨a, cp, rfl⟩ := own_val (hm'.getRow (i := i) (by rw [List.getElem?_set]; simp [hlt]; exact ⟨rfl, rfl, rfl, rfl, rfl⟩))
  exact k a cp b1 w' hm'
theorem i_load1z [TyOne P t] {b off tc : Nat} {cs : List Value} {v : Value} (hm : Mem E I H w) (hw : want ops l ⟨some d, .load t x, ty, pos, af, g⟩ = some true := by rfl) (hN : Nat.blt d N = true := by rfl)
    (hx : ev l x = some (.pointer (some ⟨b, off, none⟩)) := by rfl) (hp : PtrI I b off tc cs := by assumption) (hc : cs[0]? = some v := by rfl)
    (k : WL P N ds ops Q os ((d, v) :: l) w) : WL P N ds ops Q (⟨some d, .load t x, ty, pos, af, g⟩ :: os) l w := by
  obtain ⟨c, fr, h1, h2⟩ := hp
  exact op_load1 hw hN hx (hm.inv _ _ h1) (h2 0 v hc) k
theorem iq_load1z [TyOne P t] {b off tc : Nat} {cs : List Value} {v : Value} (hm : Mem E I H w) (hw : want ops l ⟨some d, .load t x, ty, pos, af, g⟩ = some true := by rfl) (hN : Nat.blt d N = true := by rfl)
    (hx : ev l x = some (.pointer (some ⟨b, off, none⟩)) := by rfl) (hp : PtrI I b off tc cs := by assumption) (hc : cs[0]? = some v := by rfl)
    (k : WQ P N ds ops w K os ((d, v) :: l)) : WQ P N ds ops w K (⟨some d, .load t x, ty, pos, af, g⟩ :: os) l := by
  obtain ⟨c, fr, h1, h2⟩ := hp
  exact q_load1 hw hN hx (hm.inv _ _ h1) (h2 0 v hc) k
theorem gt5 {α : Type} {a b c d e f : α} {l : List α} : (a :: b :: c :: d :: e :: f :: l)[5]? = some f := rfl
theorem gt6 {α : Type} {a b c d e f g : α} {l : List α} : (a :: b :: c :: d :: e :: f :: g :: l)[6]? = some g := rfl
theorem m_ret_agg {fn : Func} {i tr n b : Nat} {tc : TypeId} [TyAgg P tc n] {c : List Value} {e : TypeId} {fr : Nat × Nat} {Post : Value → World → Prop} (hm : Mem E I H w) (hr : fn.results = #[.cell tr tc] := by rfl)
    (hx : lk l tr = some (.pointer (some ⟨b, 0, none⟩)) := by rfl) (hb : H[i]? = some (.obj b (.cells c.toArray e fr)) := by first | exact gt0 | exact gt1 | exact gt2 | exact gt3 | exact gt4 | exact gt5 | exact gt6) (hl : c.length = n := by rfl)
    (h : Post (.agg c.toArray) w) : At N [] (bodyPost P fn (Ret Post)) .ret l w :=
  at_ret_agg hr hx (hm.get hb) hl (fun j v hv => by simpa using hv) h
theorem m_ret2_agg {fn : Func} {i tr u n b : Nat} {tc : TypeId} [TyAgg P tc n] {c : List Value} {e : TypeId} {fr : Nat × Nat} {xv : Value} {Post : Value → World → Prop} (hm : Mem E I H w) (hr : fn.results = #[.cell tr tc, .tmp u] := by rfl)
    (hx : lk l tr = some (.pointer (some ⟨b, 0, none⟩)) := by rfl) (hu : lk l u = some xv := by rfl) (hb : H[i]? = some (.obj b (.cells c.toArray e fr)) := by first | exact gt0 | exact gt1 | exact gt2 | exact gt3 | exact gt4 | exact gt5 | exact gt6) (hl : c.length = n := by rfl)
    (h : Post (.tuple #[.agg c.toArray, xv]) w) : At N [] (bodyPost P fn (Ret Post)) .ret l w :=
  at_ret2_agg hr hx hu (hm.get hb) hl (fun j v hv => by simpa using hv) h
end
end Go.Fw
end
