/- Own work: texts SpecNames, NmZ, FwRow2, FwRow3, FwT, FwMap2, FwMap3, FwMapZ, FwMapY, one behind the other. -/
import Derived.Test.YthmdffgiockcbaaGreatDoorRb11
import Derived.Laws.OwnMore
import Derived.Maps.RangeRun
section
namespace Go.Sp
def itIs (k : Int) (n : List UInt8) (it : Itm) : Bool := decide ((it.kind : Int) = k) && (decide (it.name = n) && decide (n ≠ []))
def findIt (its : List Itm) (k : Int) (n : List UInt8) : Option Nat := its.findIdx? (itIs k n)
structure Lc where
  name : List UInt8
  at_ : Nat
structure Us where
  fr : Int
  to : Int
  df : Int
  deriving DecidableEq
structure NW where
  ds : List Dg
  us : List Us
def NW.tell (s : NW) (a e : Nat) (n : List UInt8) : NW := { s with ds := s.ds ++ [⟨a, a + n.length, e, n⟩] }
def NW.use (s : NW) (b : Int) (a : Nat) (n : List UInt8) (d : Int) : NW := { s with us := s.us ++ [⟨b + a, b + a + n.length, d⟩] }
def findLc : List Lc → List UInt8 → Option Lc
  | [], _ => none
  | l :: sc, n => match findLc sc n with
    | some x => some x
    | none => if l.name = n then some l else none
def zeroIt : Itm := ⟨0, [], 0, [], [], [], 0, 0, 0, []⟩
def itNo (its : List Itm) (j : Nat) : Itm := its.getD j zeroIt
def locN (b : Int) (sc : List Lc) (a : Nat) (n : List UInt8) (s : NW) : NW := match findLc sc n with
  | some l => s.use b a n (b + l.at_)
  | none => if n = [] then s else s.tell a 6 n
def itmN (its : List Itm) (b : Int) (k : Int) (a : Nat) (n : List UInt8) (s : NW) : NW := match findIt its k n with
  | some j => s.use b a n ((itNo its j).at_ + (itNo its j).mark)
  | none => if n = [] then s else s.tell a 6 n
def callN (its : List Itm) (b : Int) (a : Nat) (n : List UInt8) (m : Nat) (s : NW) : NW := match findIt its 2 n with
  | some j => if (itNo its j).params.length ≠ m then (itmN its b 2 a n s).tell a 5 n else itmN its b 2 a n s
  | none => itmN its b 2 a n s
def mkN (n : List UInt8) (a : Nat) (sc : List Lc) (s : NW) : List Lc × NW :=
  if n = [] then (sc, s) else (sc ++ [⟨n, a⟩], match findLc sc n with | some _ => s.tell a 7 n | none => s)
mutual
def exN (its : List Itm) (b : Int) (sc : List Lc) : Ex → NW → NW
  | .mk k nm _ args fr _, s => exsN its b sc args (if k = 2 then locN b sc fr nm s else if k = 4 then callN its b fr nm args.length s else s)
def exsN (its : List Itm) (b : Int) (sc : List Lc) : List Ex → NW → NW
  | [], s => s
  | e :: es, s => exsN its b sc es (exN its b sc e s)
 end
mutual
def stmN (its : List Itm) (b : Int) : Stm → List Lc → NW → List Lc × NW
  | .mk k nm a _ _ e thn els _ _, sc, s =>
    if k = 1 then mkN nm a sc (exN its b sc e s) else
    if k = 2 then (sc, locN b sc a nm (exN its b sc e s)) else
    if k = 5 then (sc, itmN its b 1 a nm (exN its b sc e s)) else
    if k = 3 ∨ k = 4 then (sc, (stmsN its b els sc (stmsN its b thn sc (exN its b sc e s)).2).2) else (sc, exN its b sc e s)
def stmsN (its : List Itm) (b : Int) : List Stm → List Lc → NW → List Lc × NW
  | [], sc, s => (sc, s)
  | x :: xs, sc, s => stmsN its b xs (stmN its b x sc s).1 (stmN its b x sc s).2
 end
def parN : List Par → List Lc → NW → List Lc × NW
  | [], sc, s => (sc, s)
  | p :: ps, sc, s => parN ps (mkN p.name p.at_ sc s).1 (mkN p.name p.at_ sc s).2
def sndStep (its : List Itm) (b : Int) (dn : List Rf) (c : Rf) (s : NW) : NW :=
  if c.name ≠ [] ∧ dn.any (fun x => decide (x.name = c.name)) = true then (itmN its b 1 c.at_ c.name s).tell c.at_ 7 c.name else itmN its b 1 c.at_ c.name s
def sndN (its : List Itm) (b : Int) : List Rf → List Rf → NW → NW
  | _, [], s => s
  | dn, c :: cs, s => sndN its b (dn ++ [c]) cs (sndStep its b dn c s)
def NW0 : NW := ⟨[], []⟩
def taken (its : List Itm) (i : Nat) (it : Itm) : Bool := decide (it.kind ≠ 3) && (decide (it.name ≠ []) && (its.take i).any (fun x => decide (x.kind = it.kind) && decide (x.name = it.name)))
def fnN (its : List Itm) (it : Itm) (s : NW) : NW :=
  (stmsN its it.at_ it.body (parN it.params [] s).1 (sndN its it.at_ [] it.sends (parN it.params [] s).2)).2
def walkN (its : List Itm) (i : Nat) : NW :=
  if (itNo its i).kind = 2 then fnN its (itNo its i) (if taken its i (itNo its i) = true then NW0.tell (itNo its i).mark 7 (itNo its i).name else NW0)
  else if taken its i (itNo its i) = true then NW0.tell (itNo its i).mark 7 (itNo its i).name else NW0
theorem exsN_app (its : List Itm) (b : Int) (sc : List Lc) : ∀ (l r : List Ex) (s : NW), exsN its b sc (l ++ r) s = exsN its b sc r (exsN its b sc l s)
  | [], r, s => by rw [List.nil_append, exsN]
  | e :: l, r, s => by rw [List.cons_append, exsN, exsN, exsN_app its b sc l r]
theorem stmsN_app (its : List Itm) (b : Int) : ∀ (l r : List Stm) (sc : List Lc) (s : NW), stmsN its b (l ++ r) sc s = stmsN its b r (stmsN its b l sc s).1 (stmsN its b l sc s).2
  | [], r, sc, s => by rw [List.nil_append, stmsN]
  | e :: l, r, sc, s => by rw [List.cons_append, stmsN, stmsN, stmsN_app its b l r]
theorem take_succ_get {α : Type} {l : List α} {k : Nat} {x : α} (h : l[k]? = some x) : l.take (k + 1) = l.take k ++ [x] := by rw [List.take_add_one, h]; rfl
theorem exsN_step (its : List Itm) (b : Int) (sc : List Lc) {l : List Ex} {k : Nat} {e : Ex} (h : l[k]? = some e) (s : NW) : exsN its b sc (l.take (k + 1)) s = exN its b sc e (exsN its b sc (l.take k) s) := by
  rw [take_succ_get h, exsN_app, exsN, exsN]
theorem stmsN_step (its : List Itm) (b : Int) {l : List Stm} {k : Nat} {x : Stm} (h : l[k]? = some x) (sc : List Lc) (s : NW) :
    stmsN its b (l.take (k + 1)) sc s = stmN its b x (stmsN its b (l.take k) sc s).1 (stmsN its b (l.take k) sc s).2 := by
  rw [take_succ_get h, stmsN_app, stmsN, stmsN]
theorem parN_app : ∀ (l r : List Par) (sc : List Lc) (s : NW), parN (l ++ r) sc s = parN r (parN l sc s).1 (parN l sc s).2
  | [], r, sc, s => by rw [List.nil_append, parN]
  | e :: l, r, sc, s => by rw [List.cons_append, parN, parN, parN_app l r]
theorem parN_step {l : List Par} {k : Nat} {x : Par} (h : l[k]? = some x) (sc : List Lc) (s : NW) : parN (l.take (k + 1)) sc s = mkN x.name x.at_ (parN (l.take k) sc s).1 (parN (l.take k) sc s).2 := by
  rw [take_succ_get h, parN_app, parN, parN]
theorem sndN_app (its : List Itm) (b : Int) : ∀ (l r : List Rf) (dn : List Rf) (s : NW), sndN its b dn (l ++ r) s = sndN its b (dn ++ l) r (sndN its b dn l s)
  | [], r, dn, s => by rw [List.nil_append, List.append_nil, sndN]
  | e :: l, r, dn, s => by rw [List.cons_append, sndN, sndN, sndN_app its b l r]; simp
theorem sndN_step (its : List Itm) (b : Int) {l : List Rf} {k : Nat} {x : Rf} (h : l[k]? = some x) (s : NW) : sndN its b [] (l.take (k + 1)) s = sndStep its b (l.take k) x (sndN its b [] (l.take k) s) := by
  rw [take_succ_get h, sndN_app, List.nil_append, sndN, sndN]
theorem findLc_snoc (n : List UInt8) (x : Lc) : ∀ (l : List Lc), findLc (l ++ [x]) n = if x.name = n then some x else findLc l n
  | [] => by simp [findLc]
  | a :: l => by
    rw [List.cons_append, findLc, findLc_snoc n x l, findLc]
    split <;> rename_i h
    · split at h
      · rename_i h2; rw [if_pos h2]; exact h.symm
      · rename_i h2; rw [if_neg h2, h]
    · split at h
      · cases h
      · rename_i h2; rw [if_neg h2, h]
theorem findLc_mem {n : List UInt8} {x : Lc} : ∀ {l : List Lc}, findLc l n = some x → x ∈ l ∧ x.name = n
  | [], h => by cases h
  | a :: l, h => by
    rw [findLc] at h
    split at h
    · rename_i y hy
      obtain rfl := Option.some.inj h
      have := findLc_mem hy
      exact ⟨List.mem_cons_of_mem _ this.1, this.2⟩
    · split at h
      · rename_i hn
        obtain rfl := Option.some.inj h
        exact ⟨List.mem_cons_self, hn⟩
      · cases h
def NW.n (s : NW) : Nat := s.ds.length + s.us.length
theorem tell_n (s : NW) (a e : Nat) (n : List UInt8) : (s.tell a e n).n = s.n + 1 := by simp [NW.tell, NW.n]; omega
theorem use_n (s : NW) (b : Int) (a : Nat) (n : List UInt8) (d : Int) : (s.use b a n d).n = s.n + 1 := by simp [NW.use, NW.n]; omega
theorem locN_n (b : Int) (sc : List Lc) (a : Nat) (n : List UInt8) (s : NW) : s.n ≤ (locN b sc a n s).n ∧ (locN b sc a n s).n ≤ s.n + 1 := by
  rw [locN]
  split
  · rw [use_n]; omega
  · split
    · omega
    · rw [tell_n]; omega
theorem itmN_n (its : List Itm) (b : Int) (k : Int) (a : Nat) (n : List UInt8) (s : NW) : s.n ≤ (itmN its b k a n s).n ∧ (itmN its b k a n s).n ≤ s.n + 1 := by
  rw [itmN]
  split
  · rw [use_n]; omega
  · split
    · omega
    · rw [tell_n]; omega
theorem callN_n (its : List Itm) (b : Int) (a : Nat) (n : List UInt8) (m : Nat) (s : NW) : s.n ≤ (callN its b a n m s).n ∧ (callN its b a n m s).n ≤ s.n + 2 := by
  have := itmN_n its b 2 a n s
  rw [callN]
  split
  · split
    · rw [tell_n]; omega
    · omega
  · omega
theorem mkN_n (n : List UInt8) (a : Nat) (sc : List Lc) (s : NW) : s.n ≤ (mkN n a sc s).2.n ∧ (mkN n a sc s).2.n ≤ s.n + 1 ∧ sc.length ≤ (mkN n a sc s).1.length ∧ (mkN n a sc s).1.length ≤ sc.length + 1 := by
  rw [mkN]
  split
  · exact ⟨Nat.le_refl _, by dsimp only; omega, Nat.le_refl _, by dsimp only; omega⟩
  · dsimp only
    rw [List.length_append, List.length_singleton]
    split
    · rw [tell_n]; omega
    · omega
mutual
theorem exN_n (its : List Itm) (b : Int) (sc : List Lc) : ∀ (e : Ex) (s : NW), s.n ≤ (exN its b sc e s).n ∧ (exN its b sc e s).n ≤ s.n + 2 * e.cnt
  | .mk k nm n args fr to, s => by
    rw [exN, Ex.cnt]
    have h1 := locN_n b sc fr nm s
    have h2 := callN_n its b fr nm args.length s
    have h3 := exsN_n its b sc args (if k = 2 then locN b sc fr nm s else if k = 4 then callN its b fr nm args.length s else s)
    generalize hq : (if k = 2 then locN b sc fr nm s else if k = 4 then callN its b fr nm args.length s else s) = q at h3 ⊢
    have h4 : s.n ≤ q.n ∧ q.n ≤ s.n + 2 := by
      rw [← hq]
      split
      · omega
      · split <;> omega
    omega
theorem exsN_n (its : List Itm) (b : Int) (sc : List Lc) : ∀ (l : List Ex) (s : NW), s.n ≤ (exsN its b sc l s).n ∧ (exsN its b sc l s).n ≤ s.n + 2 * exsCnt l
  | [], s => by rw [exsN, exsCnt]; omega
  | e :: l, s => by
    rw [exsN, exsCnt]
    have h1 := exN_n its b sc e s
    have h2 := exsN_n its b sc l (exN its b sc e s)
    omega
 end
mutual
theorem stmN_n (its : List Itm) (b : Int) : ∀ (x : Stm) (sc : List Lc) (s : NW), s.n ≤ (stmN its b x sc s).2.n ∧ (stmN its b x sc s).2.n ≤ s.n + 2 * x.cnt ∧ sc.length ≤ (stmN its b x sc s).1.length ∧ (stmN its b x sc s).1.length ≤ sc.length + 1
  | .mk k nm a lb o e thn els f t, sc, s => by
    rw [stmN, Stm.cnt]
    have h1 := exN_n its b sc e s
    generalize exN its b sc e s = q at h1 ⊢
    have h2 := mkN_n nm a sc q
    have h3 := locN_n b sc a nm q
    have h4 := itmN_n its b 1 a nm q
    have h5 := stmsN_n its b thn sc q
    have h6 := stmsN_n its b els sc (stmsN its b thn sc q).2
    split
    · omega
    · split
      · dsimp only; omega
      · split
        · dsimp only; omega
        · split
          · dsimp only; omega
          · dsimp only; omega
theorem stmsN_n (its : List Itm) (b : Int) : ∀ (l : List Stm) (sc : List Lc) (s : NW), s.n ≤ (stmsN its b l sc s).2.n ∧ (stmsN its b l sc s).2.n ≤ s.n + 2 * stmsCnt l ∧ sc.length ≤ (stmsN its b l sc s).1.length ∧ (stmsN its b l sc s).1.length ≤ sc.length + l.length
  | [], sc, s => by rw [stmsN, stmsCnt]; exact ⟨by dsimp only; omega, by dsimp only; omega, by dsimp only; omega, by dsimp only; simp⟩
  | x :: l, sc, s => by
    rw [stmsN, stmsCnt, List.length_cons]
    have h1 := stmN_n its b x sc s
    have h2 := stmsN_n its b l (stmN its b x sc s).1 (stmN its b x sc s).2
    omega
 end
theorem mkN_pre (n : List UInt8) (a : Nat) (sc : List Lc) (s : NW) : sc <+: (mkN n a sc s).1 := by
  rw [mkN]
  split
  · exact List.prefix_refl _
  · exact List.prefix_append _ _
theorem stmN_pre (its : List Itm) (b : Int) (x : Stm) (sc : List Lc) (s : NW) : sc <+: (stmN its b x sc s).1 := by
  cases x with
  | mk k nm a lb o e thn els f t =>
  rw [stmN]
  split
  · exact mkN_pre _ _ _ _
  · split
    · exact List.prefix_refl _
    · split
      · exact List.prefix_refl _
      · split
        · exact List.prefix_refl _
        · exact List.prefix_refl _
theorem stmsN_pre (its : List Itm) (b : Int) : ∀ (l : List Stm) (sc : List Lc) (s : NW), sc <+: (stmsN its b l sc s).1
  | [], sc, s => by rw [stmsN]; exact List.prefix_refl _
  | x :: l, sc, s => by rw [stmsN]; exact (stmN_pre its b x sc s).trans (stmsN_pre its b l _ _)
theorem stmsN_back (its : List Itm) (b : Int) (l : List Stm) (sc : List Lc) (s : NW) : (stmsN its b l sc s).1.take sc.length = sc :=
  (List.prefix_iff_eq_take.1 (stmsN_pre its b l sc s)).symm
theorem Ex.cnt_eq (e : Ex) : e.cnt = exsCnt e.args + 1 := by cases e; rw [Ex.cnt]; rfl
theorem exsCnt_take_le {l : List Ex} {k : Nat} {y : Ex} (h : l[k]? = some y) : exsCnt (l.take k) + y.cnt ≤ exsCnt l := by
  have e : l = l.take (k + 1) ++ l.drop (k + 1) := (List.take_append_drop _ _).symm
  have h2 := congrArg exsCnt e
  rw [exsCnt_app, take_succ_get h, exsCnt_app, exsCnt_one] at h2
  omega
theorem Stm.cnt_eq (x : Stm) : x.cnt = x.e.cnt + stmsCnt x.thn + stmsCnt x.els + 1 := by cases x; rw [Stm.cnt]; rfl
theorem stmsCnt_take_le {l : List Stm} {k : Nat} {y : Stm} (h : l[k]? = some y) : stmsCnt (l.take k) + y.cnt ≤ stmsCnt l := by
  have e : l = l.take (k + 1) ++ l.drop (k + 1) := (List.take_append_drop _ _).symm
  have h2 := congrArg stmsCnt e
  rw [stmsCnt_app, take_succ_get h, stmsCnt_app, stmsCnt_one] at h2
  omega
theorem stmsAll_take {p : PE} {q : PS} : ∀ {l : List Stm} (k : Nat), stmsAll p q l → stmsAll p q (l.take k)
  | [], k, h => by rw [List.take_nil]; exact h
  | x :: l, 0, h => by rw [List.take_zero]; exact stmsAll_nil
  | x :: l, k + 1, h => by
    rw [stmsAll] at h
    rw [List.take_succ_cons, stmsAll]
    exact ⟨h.1, stmsAll_take k h.2⟩
end Go.Sp
end
section
namespace Go.Sp
def idxV (F : Itm → Bool) (its : List Itm) : Int := match its.findIdx? F with
  | some j => (j : Int)
  | none => -1
def findV (its : List Itm) (k : Int) (n : List UInt8) : Int := match findIt its k n with
  | some j => (j : Int)
  | none => -1
theorem idxV_at {F : Itm → Bool} {its : List Itm} {k : Nat} {it : Itm} (h : its[k]? = some it) (hF : F it = true) (hb : ∀ j it', j < k → its[j]? = some it' → F it' = false) : idxV F its = k := by
  have : its.findIdx? F = some k := by
    rw [List.findIdx?_eq_some_iff_getElem]
    obtain ⟨hk, e⟩ := List.getElem?_eq_some_iff.1 h
    refine ⟨hk, by rw [e]; exact hF, fun j hj => ?_⟩
    have := hb j its[j] hj (List.getElem?_eq_getElem (by omega))
    rw [this]; simp
  rw [idxV, this]
theorem idxV_none {F : Itm → Bool} {its : List Itm} (hb : ∀ j it', j < its.length → its[j]? = some it' → F it' = false) : idxV F its = -1 := by
  have : its.findIdx? F = none := by
    rw [List.findIdx?_eq_none_iff]
    intro x hx
    obtain ⟨j, hj, rfl⟩ := List.getElem_of_mem hx
    exact hb j _ hj (List.getElem?_eq_getElem hj)
  rw [idxV, this]
end Go.Sp
namespace Go.Fw
open Go
section
variable {P : Program} {N : Nat} {ds : List Deferred} {Q : Exit → Act → World → Prop} {l : Log} {w : World} {ops : Array Oper} {os : List Oper}
variable {d : Nat} {ty : TypeId} {pos : String} {af : Array Edge} {g : Option (Nat × Bool)} {t : TypeId} {x y : Operand} {E : Ent} {I : Imm} {H R G : List HItem}
theorem m_callv {c : Operand} {f : FuncId} [Own P f] {xs : List Operand} {tys : Array TypeId} {vs ca : List Value} {Post : Value → Imm → List HItem → Prop} (hm : Mem E I G w)
    (hw : want ops l ⟨some d, .call ⟨.value c, xs.toArray, tys⟩, ty, pos, af, g⟩ = some true := by rfl) (hN : Nat.blt d N = true := by rfl)
    (hf : ev l c = some (.func (.func f) #[] ca.toArray) := by rfl) (hx : evs l xs = some vs := by rfl) (hp : G.Perm (H ++ R)) (hc : CalM P f (vs ++ ca).toArray I H Post)
    (k : ∀ v I' H' w', Post v I' H' → Le I I' → Mem E I' (H' ++ R) w' → WL P N ds ops Q os ((d, v) :: l) w') :
    WL P N ds ops Q (⟨some d, .call ⟨.value c, xs.toArray, tys⟩, ty, pos, af, g⟩ :: os) l w :=
  op_callv hw hN hf hx (hc.run w (hm.perm hp).sub) (fun v w' ⟨I', H', h1, h2⟩ => k v I' H' w' h1 h2.le ((hm.perm hp).back h2))
theorem PtrI.sub {b off ty : Nat} {cs cs' : List Value} (h : PtrI I b off ty cs) (k : Nat) (hs : ∀ j u, cs'[j]? = some u → cs[k + j]? = some u) : PtrI I b (off + k) ty cs' := by
  obtain ⟨c, fr, h1, h2⟩ := h
  exact ⟨c, fr, h1, fun j u hj => by rw [Nat.add_assoc]; exact h2 _ _ (hs j u hj)⟩
theorem CalM.read {f : FuncId} {args : Array Value} {v : Value} (h : CalM P f args I [] (fun u _ H' => u = v ∧ H' = [])) : CalR P f args I [] v :=
  ⟨fun w hI _ => (h.run w (Mem.start hI)).mono (fun _ _ ⟨_, _, ⟨h1, _⟩, h2⟩ => ⟨h1, h2.kept⟩)⟩
end
end Go.Fw
namespace Go.Proofs.YthmdffgiockcbaaGreatDoor
open Go.Fw
structure NI where
  k : Nat
  I : Imm
structure FE (I : Imm) (its : List Sp.Itm) (a : Option Addr) (cp : Nat) (xs : List Value) : Prop where
  row : RowI I 47 10 (.slice a its.length cp) its.length xs
  ats : ItsAt I its xs
  few : its.length ≤ 64
theorem fe_of {I : Imm} {its : List Sp.Itm} {a : Option Addr} {cp : Nat} {xs : List Value} (h1 : RowI I 47 10 (.slice a its.length cp) its.length xs) (h2 : ItsAt I its xs) (h3 : its.length ≤ 30) : FE I its a cp xs := ⟨h1, h2, by omega⟩
theorem FE.le {I I' : Imm} {its : List Sp.Itm} {a : Option Addr} {cp : Nat} {xs : List Value} (h : FE I its a cp xs) (m : Le I I') : FE I' its a cp xs := ⟨h.row.le m, h.ats.le m, h.few⟩
theorem FE.get {I : Imm} {its : List Sp.Itm} {a : Option Addr} {cp : Nat} {xs : List Value} (h : FE I its a cp xs) {k : Nat} {it : Sp.Itm} (hg : its[k]? = some it) : ∃ cs, (xs.drop (k * 10)).take 10 = cs ∧ ItAt I it cs ∧ cs.length = 10 :=
  ⟨_, rfl, h.ats.get hg, (h.ats.get hg).len⟩
theorem n_findC (I : Imm) (k : Int) (n : List UInt8) (bk bn : Nat) (hk : PtrI I bk 0 3 [.int .i64 k]) (hn : PtrI I bn 0 9 [str n]) (it : Sp.Itm) (cs : List Value) (hi : ItAt I it cs) :
    CalM Tryz.prog 57 #[.agg cs.toArray, ptr bk, ptr bn] I [] (fun v _ H' => v = .bool (Sp.itIs k n it) ∧ H' = []) := by
  obtain ⟨ap, cp, as_, cs', ab, cb, ad, cd, xb, rfl, r1, r2, r3, r4, r5⟩ := hi
  refine CalM.of fun w E hm => enter (N := 19) Tryz.func57 rfl [(0, .agg (itCells it.kind it.name it.label (.slice ap it.params.length cp) (.slice as_ it.sends.length cs') (.slice ab it.body.length cb) it.at_ it.size it.mark (.slice ad it.diags.length cd)).toArray), (1, ptr bk), (2, ptr bn)] args3 rfl ?_
  repeat' (first|(refine m_box (d:=3) hm (k:=?_); clear hm; intro b3 _ hm)|refine m_load1 hm (k:=?_)|refine i_load1z hm (k:=?_)|refine op_move (k:=?_)|refine op_assign (k:=?_)|refine op_pick_true (k:=?_)|refine op_pick_false (k:=?_)|refine op_eql (k:=?_)|refine op_eql_str (k:=?_)|refine op_neq_str (k:=?_)|refine op_fieldAddr (k:=?_)|refine wl_skip (k:=?_)|(refine wl_split_dec (h1:=fun _ => ?_) (h0:=fun _ => ?_)<;> (try first | contradiction | (exfalso; omega)))|refine wl_nil ?_|refine at_then_normal ?_|refine wc_seq ?_|refine wc_region ?_|refine wc_ret ?_|refine at_ret1 (h:=?_))
  all_goals (refine ⟨I, [], ⟨congrArg Value.bool ?_, rfl⟩, hm.left (H := [])⟩; simp_all [Sp.itIs])
set_option maxHeartbeats 4000000 in
theorem n_index (fi : FuncId) [Own Tryz.prog fi] (ca : List Value) (F : Sp.Itm → Bool) (its : List Sp.Itm) (I : Imm) (a : Option Addr) (cp : Nat) (xs : List Value) (h : FE I its a cp xs)
    (hF : ∀ I', Le I I' → ∀ it cs, ItAt I' it cs → CalM Tryz.prog fi (.agg cs.toArray :: ca).toArray I' [] (fun v _ H' => v = .bool (F it) ∧ H' = [])) :
    CalM Tryz.prog 56 #[.slice a its.length cp, .func (.func fi) #[] ca.toArray] I [] (fun v _ H' => v = .int .i64 (Sp.idxV F its) ∧ H' = []) := by
  refine CalM.of fun w E hm => enter (N := 19) Tryz.func56 rfl [(0, .slice a its.length cp), (1, .func (.func fi) #[] ca.toArray)] args2 rfl ?_
  have hfew := h.few
  repeat' (first|refine op_move (k:=?_)|refine op_assign (k:=?_)|refine op_len_slice (k:=?_)|refine wl_nil ?_|refine at_then_normal ?_|refine wc_seq ?_|refine wc_region ?_|refine wc_block ?_)
  refine wc_loop (fun x : NI => [(0, .slice a its.length cp), (1, .func (.func fi) #[] ca.toArray), (7, nt its.length), (8, nt x.k)])
    (fun x w' => Mem E x.I [] w' ∧ Le I x.I ∧ x.k ≤ its.length ∧ ∀ j it', j < x.k → its[j]? = some it' → F it' = false) (fun x => its.length - x.k) ⟨0, I⟩ (by exact ⟨rfl, rfl, rfl, rfl, trivial⟩) ⟨hm, Le.refl _, Nat.zero_le _, fun j _ hj => absurd hj (Nat.not_lt_zero j)⟩ ?_
  clear hm
  rintro ⟨k, I1⟩ w1 ⟨hm, hle1, hk, hno⟩
  dsimp only at hm hle1 hk hno ⊢
  by_cases hlt : k < its.length
  · have hg : its[k]? = some its[k] := List.getElem?_eq_getElem hlt
    obtain ⟨cs, hcs, hat, hl10⟩ := (h.le hle1).get hg
    have hri := (h.le hle1).row
    have hc := hF I1 hle1 _ cs hat
    generalize its[k] = it at hg hat hc
    cases hb : F it with
    | true =>
      rw [hb] at hc
      repeat' (first|(refine i_indexAddr (d:=14) (hr:=hri) (k:=?_); intro bt ot hpt; rw [show ((k : Int).toNat * 10) = k * 10 from rfl, hcs] at hpt)|(refine i_loadN (d:=15) hm (hp:=hpt) (hc:=by exact hl10) (k:=?_))|(refine m_callv (d:=16) hm (hp:=pm0) (hc:=by exact hc) (k:=?_); clear hm; rintro _ I2 _ _ ⟨rfl, rfl⟩ hle hm)|refine op_move (k:=?_)|refine op_assign (k:=?_)|refine op_lss (k:=?_)|refine wl_nil ?_|refine at_then_normal ?_|refine at_then_ret ?_|refine at_block_ret ?_|refine wc_seq ?_|refine wc_region ?_|refine wc_block ?_|refine wc_skip ?_|refine wc_ret ?_|refine at_ret1 (h:=?_)|refine wc_cond_true (ht:=?_)|(refine wc_cond_dec (ht:=fun _ => ?_) (hf:=fun _ => ?_)<;> (try first | contradiction | (exfalso; omega))))
      all_goals try (exfalso; omega)
      exact ⟨I2, [], ⟨by rw [Sp.idxV_at hg hb hno], rfl⟩, hm.left (H := [])⟩
    | false =>
      rw [hb] at hc
      repeat' (first|(refine i_indexAddr (d:=14) (hr:=hri) (k:=?_); intro bt ot hpt; rw [show ((k : Int).toNat * 10) = k * 10 from rfl, hcs] at hpt)|(refine i_loadN (d:=15) hm (hp:=hpt) (hc:=by exact hl10) (k:=?_))|(refine m_callv (d:=16) hm (hp:=pm0) (hc:=by exact hc) (k:=?_); clear hm; rintro _ I2 _ _ ⟨rfl, rfl⟩ hle hm)|refine op_move (k:=?_)|refine op_assign (k:=?_)|refine op_lss (k:=?_)|refine op_add (k:=?_)|refine wl_nil ?_|refine at_then_normal ?_|refine at_block_normal ?_|refine wc_seq ?_|refine wc_region ?_|refine wc_block ?_|refine wc_skip ?_|refine wc_cond_false (hf:=?_)|(refine wc_cond_dec (ht:=fun _ => ?_) (hf:=fun _ => ?_)<;> (try first | contradiction | (exfalso; omega))))
      all_goals try (exfalso; omega)
      refine at_round (⟨k + 1, I2⟩ : NI) (by exact ⟨rfl, rfl, rfl, rfl, trivial⟩) ⟨hm.left (H := []), hle1.trans hle, by dsimp only; omega, fun j it' hj hg' => ?_⟩ (by dsimp only; omega)
      rcases Nat.lt_or_ge j k with hjk | hjk
      · exact hno j it' hjk hg'
      · obtain rfl : j = k := by dsimp only at hj; omega
        rw [hg] at hg'
        obtain rfl := Option.some.inj hg'
        exact hb
  · obtain rfl : k = its.length := by omega
    repeat' (first|refine op_assign (k:=?_)|refine op_lss (k:=?_)|refine wl_nil ?_|refine at_then_normal ?_|refine at_then_exit ?_|refine at_block_exit ?_|refine wc_seq ?_|refine wc_region ?_|refine wc_exit ?_|refine wc_ret ?_|refine at_ret1 (h:=?_)|(refine wc_cond_dec (ht:=fun _ => ?_) (hf:=fun _ => ?_)<;> (try first | contradiction | (exfalso; omega))))
    all_goals try (exfalso; omega)
    exact ⟨I1, [], ⟨by rw [Sp.idxV_none hno], rfl⟩, hm.left (H := [])⟩
theorem n_find (k : Int) (n : List UInt8) (its : List Sp.Itm) (I : Imm) (a : Option Addr) (cp : Nat) (xs : List Value) (h : FE I its a cp xs) :
    CalM Tryz.prog 30 #[.agg [.slice a its.length cp].toArray, .int .i64 k, str n] I [] (fun v _ H' => v = .int .i64 (Sp.findV its k n) ∧ H' = []) := by
  refine CalM.of fun w E hm => enter (N := 11) Tryz.func30 rfl [(0, .agg [.slice a its.length cp].toArray), (1, .int .i64 k), (2, str n)] args3 rfl ?_
  repeat' (first|(refine m_box (d:=3) hm (k:=?_); clear hm; intro b3 _ hm)|(refine m_box (d:=4) hm (k:=?_); clear hm; intro b4 _ hm)|(refine m_box (d:=5) hm (k:=?_); clear hm; intro b5 _ hm)|refine m_load1 hm (k:=?_)|refine op_assign (k:=?_)|refine op_makeFunc (k:=?_)|refine op_fieldAddr (k:=?_)|refine wl_nil ?_|refine at_then_normal ?_|refine wc_seq ?_|refine wc_region ?_)
  obtain ⟨I2, hle2, hm2, hpn⟩ := hm.freezeO
  obtain ⟨I3, hle3, hm3, hpk⟩ := hm2.freezeO
  clear hm hm2
  have hm := hm3
  clear hm3
  have hc := n_index 57 [ptr b4, ptr b5] (Sp.itIs k n) its I3 a cp xs ((h.le hle2).le hle3) (fun I' m it cs hi => n_findC I' k n b4 b5 (hpk.le m) ((hpn.le hle3).le m) it cs hi)
  repeat' (first|(refine m_call (d:=10) hm (hc:=hc) (k:=?_); clear hm; rintro _ I4 _ _ ⟨rfl, rfl⟩ hle hm; have hleI4 := hle; try simp only [setn] at hm)|refine op_assign (k:=?_)|refine wl_nil ?_|refine at_then_normal ?_|refine wc_ret ?_|refine at_ret1 (h:=?_))
  exact ⟨I4, [], ⟨rfl, rfl⟩, hm.left (H := [])⟩
end Go.Proofs.YthmdffgiockcbaaGreatDoor
end
section
namespace Go.Fw
open Go
section
variable {P : Program} {N : Nat} {ds : List Deferred} {Q : Exit → Act → World → Prop} {l l' : Log} {w w' : World} {ops : Array Oper} {os : List Oper}
variable {d : Nat} {ty : TypeId} {pos : String} {af : Array Edge} {g : Option (Nat × Bool)} {t t' : TypeId} {x y z : Operand}
variable {E : Ent} {I I' : Imm} {H H' R : List HItem}
theorem Mem.rowAddr {e : TypeId} {sz n cap : Nat} {a : Option Addr} {xs : List Value} (hm : Mem E I (.row (.slice a n cap) e sz n xs :: H) w) (hn : 0 < n) : ∃ b, a = some ⟨b, 0, none⟩ := by
  obtain ⟨b, cp, cur, hv, _⟩ := hm.openRow hn
  injection hv with h1 _ _
  exact ⟨b, h1⟩
theorem Mem.rowLen {e : TypeId} {sz n : Nat} {v : Value} {xs : List Value} (hm : Mem E I (.row v e sz n xs :: H) w) : xs.length = n * sz := (hm.ok _ List.mem_cons_self).1
theorem m_storeRow {by_ : Nat} [Elem P t 1 by_] {b off n cap sz : Nat} {e : TypeId} {xs : List Value} {v : Value} {dst : Option Nat} (hm : Mem E I (.row (.slice (some ⟨b, 0, none⟩) n cap) e sz n xs :: H) w) (hd : dst = none) (hw : want ops l ⟨dst, .store t x y, ty, pos, af, g⟩ = some true)
    (hx : ev l x = some (.pointer (some ⟨b, off, none⟩))) (hy : ev l y = some v) (hn1 : v.cells.toList = [v]) (h1 : v.oneCell' = true) (ho : off < xs.length)
    (k : ∀ w', Mem E I (.row (.slice (some ⟨b, 0, none⟩) n cap) e sz n (xs.set off v) :: H) w' → WL P N ds ops Q os l w') :
    WL P N ds ops Q (⟨dst, .store t x y, ty, pos, af, g⟩ :: os) l w := by
  have h0 := hm.rowLen
  rcases Nat.eq_zero_or_pos n with hn | hn
  · subst hn; rw [Nat.zero_mul] at h0; omega
  obtain ⟨b', cp, cur, hv, hm2, hcp, hcm, hs, ht⟩ := hm.openRow hn
  injection hv with e1 _ e3
  injection e1 with e1
  injection e1 with e1
  subst e1; subst e3
  obtain ⟨cL, rfl⟩ : ∃ cL : List Value, cur = cL.toArray := ⟨cur.toList, by simp⟩
  have hs' : cL.length = cap * sz := by simpa using hs
  have ht' : cL.take (n * sz) = xs := by simpa using ht
  have hle : n * sz ≤ cap * sz := Nat.mul_le_mul_right _ hcp
  refine m_store1 (i:=0) hm2 hd hw hx hy rfl hn1 (by rw [Nat.blt_eq]; omega) h1 (fun w2 hm3 => k w2 ?_)
  have hm4 : Mem E I (.obj b (.cells (cL.set off v).toArray e (0, 0)) :: H) w2 := hm3
  exact hm4.shutRow hcp hcm (by simpa using hs') (by simp only; rw [List.take_set, ht'])
end
end Go.Fw
end
section
namespace Go.Fw
open Go
section
variable {P : Program} {N : Nat} {ds : List Deferred} {Q : Exit → Act → World → Prop} {K : Act → World → Prop} {KV : Act → Prop} {l l' : Log} {w w' w0 : World} {ops : Array Oper} {os : List Oper}
variable {d : Nat} {ty : TypeId} {pos : String} {af : Array Edge} {g : Option (Nat × Bool)} {t t' : TypeId} {x y z : Operand}
variable {E : Ent} {I I' : Imm} {H H' R G : List HItem}
class Zero1 (P : Program) (e : TypeId) (v : Value) : Prop where out : (P.info? e).bind (·.zero) = some v ∧ v.cells = #[v]
theorem m_makeSlice {e : TypeId} {by_ n : Nat} (zv : Value) [TySlice P t e] [Elem P e 1 by_] (hz0 : Zero1 P e zv) (hm : Mem E I H w) (hw : want ops l ⟨some d, .makeSlice t x y, ty, pos, af, g⟩ = some true) (hN : Nat.blt d N = true)
    (hx : ev l x = some (.int .i64 n)) (hy : ev l y = some (.int .i64 n)) (hn : n ≤ 1000000) (hby : Nat.ble by_ 1024 = true)
    (k : ∀ b w', Mem E I (.row (.slice (some ⟨b, 0, none⟩) n n) e 1 n (List.replicate n zv) :: H) w' → WL P N ds ops Q os ((d, .slice (some ⟨b, 0, none⟩) n n) :: l) w') :
    WL P N ds ops Q (⟨some d, .makeSlice t x y, ty, pos, af, g⟩ :: os) l w := by
  obtain ⟨i, z, hi', hz, hs', hb', hzc, hpos⟩ := Elem.out (P := P) (e := e)
  obtain ⟨h1, h2⟩ := hz0.out
  rw [hi', Option.bind_some, hz] at h1
  obtain rfl := Option.some.inj h1
  have hby' := Nat.le_of_ble_eq_true hby
  have hbn : by_ * n ≤ 1024 * 1000000 := Nat.mul_le_mul hby' hn
  have hr := run_makeSlice (P := P) (w := w) t e i z (TySlice.out (P := P) (t := t)) hi' hz .i64 .i64 n n (by omega) (by omega) (by rw [hs', Int.toNat_natCast]; omega)
    (by rw [hb']; have : ((by_ * n : Nat) : Int) ≤ 281474976710656 := by omega
        simpa using this) (by omega)
  rw [hs', h2, Int.toNat_natCast, Nat.mul_one] at hr
  have hmc : madeCells #[z] n = (List.replicate n z).toArray := by
    apply Array.toList_inj.1
    rw [toList_madeCells_one]
  rw [hmc] at hr
  refine wl_value (w' := w.alloc (.cells (List.replicate n z).toArray e (0, 0))) (v := .slice (some ⟨w.heap.size, 0, none⟩) n n) rfl hw hN (fun a ha => ?_)
    (k w.heap.size _ (hm.add (Kept.alloc w _) ⟨by simp, .inr ⟨w.heap.size, n, _, rfl, Nat.zero_le _, heap_alloc_new w _, Nat.le_refl _, by unfold maxLen; omega, by simp, by simp⟩⟩ (fun b' hb' => ?_)))
  · simp only [execOp, ha.ev hx, ha.ev hy]
    simp [hr]
  · simp only [HItem.blk, Value.ownBlock, Option.some.injEq] at hb'; omega
theorem Mem.rowCell {e : TypeId} {sz n cp b off : Nat} {xs : List Value} {v : Value} (ho : (HItem.row (.slice (some ⟨b, 0, none⟩) n cp) e sz n xs).ok w) (hc : xs[off]? = some v) :
    ∃ c fr, w.heap[b]? = some (.cells c e fr) ∧ c[off]? = some v := by
  rcases ho.2 with ⟨_, h0⟩ | ⟨g, cap, cur, hv, _, hg, _, _, _, ht⟩
  · have h1 := ho.1
    subst h0
    rw [Nat.zero_mul] at h1
    have : off < xs.length := (List.getElem?_eq_some_iff.1 hc).1
    omega
  · injection hv with e1 _ _
    injection e1 with e1
    injection e1 with e1
    subst e1
    refine ⟨cur, (0, 0), hg, ?_⟩
    rw [← ht, List.getElem?_take] at hc
    split at hc
    · simpa using hc
    · cases hc
theorem mi_loadRow [TyOne P t] {i b off n cp sz : Nat} {e : TypeId} {xs : List Value} {v : Value} (hm : Mem E I H w) (hw : want ops l ⟨some d, .load t x, ty, pos, af, g⟩ = some true) (hN : Nat.blt d N = true)
    (hx : ev l x = some (.pointer (some ⟨b, off, none⟩))) (hb : H[i]? = some (.row (.slice (some ⟨b, 0, none⟩) n cp) e sz n xs)) (hc : xs[off]? = some v)
    (k : WL P N ds ops Q os ((d, v) :: l) w) : WL P N ds ops Q (⟨some d, .load t x, ty, pos, af, g⟩ :: os) l w := by
  obtain ⟨c, fr, h1, h2⟩ := Mem.rowCell (hm.ok _ (List.mem_of_getElem? hb)) hc
  exact op_load1 hw hN hx h1 h2 k
theorem mi_storeRow {by_ : Nat} [Elem P t 1 by_] {i b off n cap sz : Nat} {e : TypeId} {xs : List Value} {v : Value} {dst : Option Nat} (hm : Mem E I H w) (hd : dst = none) (hw : want ops l ⟨dst, .store t x y, ty, pos, af, g⟩ = some true)
    (hx : ev l x = some (.pointer (some ⟨b, off, none⟩))) (hy : ev l y = some v) (hi : H[i]? = some (.row (.slice (some ⟨b, 0, none⟩) n cap) e sz n xs)) (hn1 : v.cells.toList = [v]) (h1 : v.oneCell' = true) (ho : off < xs.length)
    (k : ∀ w', Mem E I (H.set i (.row (.slice (some ⟨b, 0, none⟩) n cap) e sz n (xs.set off v))) w' → WL P N ds ops Q os l w') :
    WL P N ds ops Q (⟨dst, .store t x y, ty, pos, af, g⟩ :: os) l w := by
  refine m_storeRow (hm.front i hi) hd hw hx hy hn1 h1 ho (fun w2 hm2 => k w2 (hm2.perm ?_))
  have hlt : i < H.length := (List.getElem?_eq_some_iff.1 hi).1
  have h := front_perm (H.set i (.row (.slice (some ⟨b, 0, none⟩) n cap) e sz n (xs.set off v))) i _ (List.getElem?_set_self hlt)
  rw [List.eraseIdx_set_eq] at h
  exact h.symm
end
abbrev Tri (α : Type) := List α × Option Addr × Nat
abbrev Tri.nil {α : Type} : Tri α := ([], none, 0)
abbrev triV {α : Type} (t : Tri α) : Value := .slice t.2.1 t.1.length t.2.2
abbrev sl0 : Value := .slice none 0 0
theorem map_set_tri {α β : Type} {g : α → β} {T : List α} {i : Nat} {u : α} : (T.map g).set i (g u) = (T.set i u).map g := by rw [List.map_set]
theorem tri_perm {α β : Type} {g : α → β} {T : List α} {i : Nat} {t : α} (h : T[i]? = some t) : (T.map g).Perm (g t :: (T.eraseIdx i).map g) := by
  have h2 := (Go.Fw.front_perm T i t h).map g
  exact h2
theorem tri_set {α β : Type} {g : α → β} {T : List α} {i : Nat} {u : α} (h : i < T.length) : ((T.set i u).map g).Perm (g u :: (T.eraseIdx i).map g) := by
  have h2 := tri_perm (g := g) (T := T.set i u) (i := i) (t := u) (List.getElem?_set_self h)
  rw [List.eraseIdx_set_eq] at h2
  exact h2
abbrev padV (L : List Value) (n : Nat) : List Value := L ++ List.replicate n sl0
theorem padV_set {L : List Value} {n m : Nat} {v : Value} (hl : L.length = m) : (padV L (n + 1)).set m v = padV (L ++ [v]) n := by
  subst hl
  rw [padV, List.set_append, if_neg (Nat.lt_irrefl _), Nat.sub_self, List.replicate_succ, List.set_cons_zero, padV, List.append_assoc]; rfl
theorem padV_skip {L : List Value} {n : Nat} : padV L (n + 1) = padV (L ++ [sl0]) n := by
  rw [padV, padV, List.replicate_succ, List.append_assoc]; rfl
end Go.Fw
end
section
namespace Go.Fw
open Go
section
variable {P : Program} {N : Nat} {ds : List Deferred} {Q : Exit → Act → World → Prop} {X : List Nat} {l l' : Log} {w w' w0 : World} {ops : Array Oper} {os tail : List Oper} {o : Oper}
variable {d : Nat} {ty : TypeId} {pos : String} {af : Array Edge} {g : Option (Nat × Bool)} {t t' : TypeId} {x y : Operand} {ik : IntKind}
theorem s_len_slice {e : TypeId} [TySlice P t e] {b : Option Addr} {n c : Nat} (hC : Kept X w0 w) (hw : want ops l ⟨some d, .call ⟨.builtin .len, #[x], #[t]⟩, ty, pos, af, g⟩ = some true) (hN : Nat.blt d N = true)
    (hx : ev l x = some (.slice b n c)) (k : WS P N ds ops Q X w0 os tail ((d, .int .i64 (n : Int)) :: l) w) :
    WS P N ds ops Q X w0 (⟨some d, .call ⟨.builtin .len, #[x], #[t]⟩, ty, pos, af, g⟩ :: os) tail l w :=
  ws_value rfl hw hN (fun a ha => by
    have h1 := run_underlying (P := P) (w := w) (TySlice.out (P := P) (t := t))
    simp [execOp, resolve, invoke, builtin, Builtin.len_, ha.ev hx, h1, goInt]) hC k
theorem s_indexAddr {e : TypeId} {sz by_ : Nat} [TySlice P t e] [Elem P e sz by_] {b o' n cp : Nat} {i : Int} (hC : Kept X w0 w) (hw : want ops l ⟨some d, .indexAddr t x y, ty, pos, af, g⟩ = some true) (hN : Nat.blt d N = true)
    (hx : ev l x = some (.slice (some ⟨b, o', none⟩) n cp)) (hy : ev l y = some (.int .i64 i)) (h0 : 0 ≤ i) (h1 : i < n)
    (k : WS P N ds ops Q X w0 os tail ((d, .pointer (some ⟨b, o' + i.toNat * sz, none⟩)) :: l) w) :
    WS P N ds ops Q X w0 (⟨some d, .indexAddr t x y, ty, pos, af, g⟩ :: os) tail l w :=
  ws_value rfl hw hN (fun a ha => by
    obtain ⟨inf, z, hi, _, hs, _, _, _⟩ := Elem.out (P := P) (e := e)
    have h6 := run_underlying (P := P) (w := w) (TySlice.out (P := P) (t := t))
    simp [execOp, Instr.indexAt, asIntOf, ha.ev hx, ha.ev hy, h6, h0, h1, sizeOf, typeInfo, hi, hs, Addr.add_lit]) hC k
theorem it_indexAddr {e : TypeId} {sz by_ : Nat} [TySlice P t e] [Elem P e sz by_] {I : Imm} {a : Option Addr} {m cp : Nat} {i : Int} {xs : List Value} (hC : Kept X w0 w) (hw : want ops l ⟨some d, .indexAddr t x y, ty, pos, af, g⟩ = some true) (hN : Nat.blt d N = true)
    (hx : ev l x = some (.slice a m cp)) (hy : ev l y = some (.int .i64 i)) (hr : RowI I e sz (.slice a m cp) m xs) (h0 : 0 ≤ i) (h1 : i < m)
    (k : ∀ b off, PtrI I b off e ((xs.drop (i.toNat * sz)).take sz) → WS P N ds ops Q X w0 os tail ((d, .pointer (some ⟨b, off, none⟩)) :: l) w) :
    WS P N ds ops Q X w0 (⟨some d, .indexAddr t x y, ty, pos, af, g⟩ :: os) tail l w := by
  obtain ⟨b, off, rfl, hp⟩ := hr.at_ i.toNat (by omega)
  exact s_indexAddr hC hw hN hx hy h0 h1 (k b _ hp)
end
end Go.Fw
end
section
namespace Go.Fw
open Go
def mput (es : Ents) (s : List UInt8) (v : Value) : Ents := match es.findIdx? (fun p => decide (p.1 = s)) with
  | some i => es.set i (s, v)
  | none => es ++ [(s, v)]
theorem mput_nodup {es : Ents} {s : List UInt8} {v : Value} (h : (es.map (·.1)).Nodup) : ((mput es s v).map (·.1)).Nodup := by
  rw [mput]
  cases hf : es.findIdx? (fun p => decide (p.1 = s)) with
  | some i =>
    obtain ⟨hi, hs, _⟩ := List.findIdx?_eq_some_iff_getElem.1 hf
    have hs' : es[i].1 = s := by simpa using hs
    have : (es.set i (s, v)).map (·.1) = es.map (·.1) := by
      apply List.ext_getElem?
      intro j
      simp only [List.getElem?_map, List.getElem?_set]
      split
      · rename_i h
        subst h
        rw [List.getElem?_eq_getElem hi]
        simp [hs']
      · rfl
    dsimp only
    rw [this]
    exact h
  | none =>
    dsimp only
    rw [List.map_append, List.nodup_append]
    refine ⟨h, by simp, fun a h1 b h2 => ?_⟩
    simp only [List.map_cons, List.map_nil, List.mem_singleton] at h2
    subst h2
    rintro rfl
    obtain ⟨p, hp, hps⟩ := List.mem_map.1 h1
    have := List.findIdx?_eq_none_iff.1 hf p hp
    simp [hps] at this
section
variable {P : Program} {N : Nat} {ds : List Deferred} {Q : Exit → Act → World → Prop} {l : Log} {w : World} {ops : Array Oper} {os : List Oper}
variable {d : Nat} {ty : TypeId} {pos : String} {af : Array Edge} {g : Option (Nat × Bool)} {t t' : TypeId} {x y z : Operand} {E : Ent} {I : Imm} {H : List HItem}
end
end Go.Fw
end
section
namespace Go.Fw
open Go
def mget (es : Ents) (s : List UInt8) : Option Value := (es.find? (fun p => decide (p.1 = s))).map (·.2)
theorem mget_at : ∀ {es : Ents} {j : Nat} {u : List UInt8} {v : Value}, (es.map (·.1)).Nodup → es[j]? = some (u, v) → mget es u = some v
  | [], j, u, v, _, h => by simp at h
  | (a, c) :: es, 0, u, v, _, h => by
    simp only [List.getElem?_cons_zero, Option.some.injEq, Prod.mk.injEq] at h
    obtain ⟨rfl, rfl⟩ := h
    simp [mget]
  | (a, c) :: es, j + 1, u, v, hn, h => by
    rw [List.getElem?_cons_succ] at h
    rw [List.map_cons, List.nodup_cons] at hn
    have hne : a ≠ u := by
      rintro rfl
      exact hn.1 (List.mem_map_of_mem (f := (·.1)) (List.mem_of_getElem? h))
    have ih := mget_at hn.2 h
    simp only [mget] at ih ⊢
    rw [List.find?_cons, decide_eq_false hne]
    exact ih
theorem mget_some : ∀ {es : Ents} {u : List UInt8} {v : Value}, mget es u = some v → ∃ j : Nat, es[j]? = some (u, v)
  | [], u, v, h => by cases h
  | (a, c) :: es, u, v, h => by
    simp only [mget] at h
    rw [List.find?_cons] at h
    by_cases e : a = u
    · rw [decide_eq_true e] at h
      simp only [Option.map_some, Option.some.injEq] at h
      subst e; subst h
      exact ⟨0, rfl⟩
    · rw [decide_eq_false e] at h
      obtain ⟨j, hj⟩ := mget_some (es := es) h
      exact ⟨j + 1, by rw [List.getElem?_cons_succ]; exact hj⟩
theorem mget_none {es : Ents} {u : List UInt8} (h : mget es u = none) {j : Nat} {p : List UInt8 × Value} (hj : es[j]? = some p) : p.1 ≠ u := by
  rintro rfl
  simp only [mget, Option.map_eq_none_iff, List.find?_eq_none] at h
  have := h p (List.mem_of_getElem? hj)
  simp at this
theorem mget_append {es : Ents} {s : List UInt8} {v : Value} (n : List UInt8) (h : mget es s = none) : mget (es ++ [(s, v)]) n = if n = s then some v else mget es n := by
  simp only [mget] at h ⊢
  rw [List.find?_append]
  by_cases e : n = s
  · subst e
    rw [if_pos rfl, Option.map_eq_none_iff.1 h]
    simp
  · rw [if_neg e]
    cases hf : es.find? (fun p => decide (p.1 = n)) with
    | some p => rfl
    | none => simp [Ne.symm e]
theorem mget_set : ∀ {es : Ents} {i : Nat} {s : List UInt8} {v : Value} (n : List UInt8), (es.map (·.1)).Nodup → (∃ c, es[i]? = some (s, c)) → mget (es.set i (s, v)) n = if n = s then some v else mget es n
  | [], i, s, v, n, _, h => by obtain ⟨_, h⟩ := h; simp at h
  | (a, c) :: es, 0, s, v, n, _, h => by
    obtain ⟨_, h⟩ := h
    simp only [List.getElem?_cons_zero, Option.some.injEq, Prod.mk.injEq] at h
    obtain ⟨rfl, _⟩ := h
    simp only [mget, List.set_cons_zero, List.find?_cons]
    by_cases e : n = a
    · subst e; simp
    · rw [if_neg e, decide_eq_false (Ne.symm e)]
  | (a, c) :: es, i + 1, s, v, n, hn, h => by
    obtain ⟨c', h⟩ := h
    rw [List.getElem?_cons_succ] at h
    rw [List.map_cons, List.nodup_cons] at hn
    have ih := mget_set (v := v) n hn.2 ⟨c', h⟩
    have has : a ≠ s := by
      rintro rfl
      exact hn.1 (List.mem_map_of_mem (f := (·.1)) (List.mem_of_getElem? h))
    simp only [mget, List.set_cons_succ, List.find?_cons] at ih ⊢
    by_cases e : a = n
    · subst e
      rw [decide_eq_true rfl, if_neg has]
    · rw [decide_eq_false e]
      exact ih
theorem mget_mput {es : Ents} {s : List UInt8} {v : Value} (n : List UInt8) (hn : (es.map (·.1)).Nodup) : mget (mput es s v) n = if n = s then some v else mget es n := by
  rw [mput]
  cases hf : es.findIdx? (fun p => decide (p.1 = s)) with
  | some i =>
    obtain ⟨hi, hs, _⟩ := List.findIdx?_eq_some_iff_getElem.1 hf
    have hs' : es[i].1 = s := by simpa using hs
    exact mget_set n hn ⟨es[i].2, by rw [List.getElem?_eq_getElem hi, ← hs']⟩
  | none =>
    refine mget_append n ?_
    rw [List.findIdx?_eq_none_iff] at hf
    simp only [mget, Option.map_eq_none_iff, List.find?_eq_none]
    intro p hp
    simpa using hf p hp
structure MapI (I : Imm) (b : Nat) (es : Ents) : Prop where
  out : I b = some (.map (entsOf es 0).toArray es.length)
  nodup : (es.map (·.1)).Nodup
theorem MapI.le {I I' : Imm} {b : Nat} {es : Ents} (h : MapI I b es) (hl : Le I I') : MapI I' b es := ⟨hl _ _ h.out, h.nodup⟩
abbrev HItem.it (r b n : Nat) (S : List Nat) : HItem := .obj r (.mapIter (some b) n S.toArray n)
section
variable {P : Program} {N : Nat} {ds : List Deferred} {Q : Exit → Act → World → Prop} {K : Act → World → Prop} {l : Log} {w : World} {ops : Array Oper} {os : List Oper}
variable {d : Nat} {ty : TypeId} {pos : String} {af : Array Edge} {g : Option (Nat × Bool)} {t : TypeId} {x y : Operand} {E : Ent} {I : Imm} {H : List HItem}
end
structure Copied (es : Ents) (S : List Nat) (es2 : Ents) : Prop where
  nodup : (es2.map (·.1)).Nodup
  get : ∀ n v, mget es2 n = some v ↔ ∃ j ∈ S, es[j]? = some (n, v)
theorem Copied.start (es : Ents) : Copied es [] [] := ⟨by simp, fun n v => by simp [mget]⟩
theorem Copied.put {es es2 : Ents} {S : List Nat} {j : Nat} {u : List UInt8} {v : Value} (h : Copied es S es2) (hn : (es.map (·.1)).Nodup) (hj : es[j]? = some (u, v)) : Copied es (S ++ [j]) (mput es2 u v) := by
  refine ⟨mput_nodup h.nodup, fun n v' => ?_⟩
  rw [mget_mput n h.nodup]
  by_cases e : n = u
  · subst e
    rw [if_pos rfl]
    constructor
    · rintro h'; cases h'; exact ⟨j, by simp, hj⟩
    · rintro ⟨i, _, hi⟩
      rw [← mget_at hn hj, mget_at hn hi]
  · rw [if_neg e, h.get]
    constructor
    · rintro ⟨i, hi, h2⟩; exact ⟨i, by simp [hi], h2⟩
    · rintro ⟨i, hi, h2⟩
      rcases List.mem_append.1 hi with hi | hi
      · exact ⟨i, hi, h2⟩
      · rw [List.mem_singleton] at hi
        subst hi
        rw [hj] at h2
        cases h2
        exact absurd rfl e
theorem Copied.done {es es2 : Ents} {S : List Nat} (h : Copied es S es2) (_hn : (es.map (·.1)).Nodup) (hS : ∀ j, j < es.length → j ∈ S) (n : List UInt8) : mget es2 n = mget es n := by
  cases hg : mget es n with
  | some v =>
    obtain ⟨j, hj⟩ := mget_some hg
    exact (h.get n v).2 ⟨j, hS j (List.getElem?_eq_some_iff.1 hj).1, hj⟩
  | none =>
    cases hg2 : mget es2 n with
    | none => rfl
    | some v =>
      obtain ⟨j, _, hj⟩ := (h.get n v).1 hg2
      exact absurd rfl (mget_none hg hj)
end Go.Fw
end
section
namespace Go.Fw
open Go
abbrev numZ (k : Int) : Value := .int .i64 k
abbrev EntsZ := List (Int × Value)
def entsZ (es : EntsZ) (n : Nat) : List MapEntry := (es.zipIdx n).map (fun p => { key := numZ p.1.1, val := p.1.2, born := p.2 })
structure MapAtZ (w : World) (b : Nat) (es : EntsZ) : Prop where
  out : w.heap[b]? = some (.map (entsZ es 0).toArray es.length)
  nodup : (es.map (·.1)).Nodup
section
variable {P : Program} {N : Nat} {ds : List Deferred} {Q : Exit → Act → World → Prop} {l l' : Log} {w w' : World} {ops : Array Oper} {os : List Oper} {o : Oper}
variable {d : Nat} {ty : TypeId} {pos : String} {af : Array Edge} {g : Option (Nat × Bool)} {t t' : TypeId} {x y z : Operand} {E : Ent} {I : Imm} {H : List HItem}
end
end Go.Fw
end
section
namespace Go.Fw
open Go
section
variable {P : Program} {N : Nat} {ds : List Deferred} {Q : Exit → Act → World → Prop} {K : Act → World → Prop} {KV : Act → Prop} {l : Log} {w w0 : World} {ops : Array Oper} {os os' tail : List Oper} {X : List Nat}
variable {d : Nat} {ty : TypeId} {pos : String} {af : Array Edge} {g : Option (Nat × Bool)} {t : TypeId} {x y z : Operand} {E : Ent} {I I0 : Imm} {H G R : List HItem} {n f : Nat} {listed : Array Bool}
end
end Go.Fw
end
