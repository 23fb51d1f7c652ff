/- Own work: texts SpecNames, NmA, SpecFlow, SpecStand, SpecStand2, SpecFlow2, NsA, one behind the other. -/
import Derived.Test.YtkbiakajlfmakaaDoorNm17
section
namespace Go.Sp
def itIs (k : Int) (n : List UInt8) (it : Itm) : Bool := decide ((it.kind : Int) = k) && (decide (it.name = n) && decide (n ≠ []))
/-- the first item of a kind and a name. -/
def findIt (its : List Itm) (k : Int) (n : List UInt8) : Option Nat := its.findIdx? (itIs k n)
/-- a local: its name, where it is made. -/
structure Lc where
  name : List UInt8
  at_ : Nat
/-- a use of a name. -/
structure Us where
  fr : Int
  to : Int
  df : Int
  deriving DecidableEq
structure NW where
  ds : List Dg
  us : List Us
def NW.tell (s : NW) (a e : Nat) (n : List UInt8) : NW := { s with ds := s.ds ++ [⟨a, a + n.length, e, n⟩] }
def NW.use (s : NW) (b : Int) (a : Nat) (n : List UInt8) (d : Int) : NW := { s with us := s.us ++ [⟨b + a, b + a + n.length, d⟩] }
/-- the local that was made last. -/
def findLc : List Lc → List UInt8 → Option Lc
  | [], _ => none
  | l :: sc, n => match findLc sc n with
    | some x => some x
    | none => if l.name = n then some l else none
def zeroIt : Itm := ⟨0, [], 0, [], [], [], 0, 0, 0, []⟩
def itNo (its : List Itm) (j : Nat) : Itm := its.getD j zeroIt
def locN (b : Int) (sc : List Lc) (a : Nat) (n : List UInt8) (s : NW) : NW := match findLc sc n with
  | some l => s.use b a n (b + l.at_)
  | none => if n = [] then s else s.tell a 6 n
def itmN (its : List Itm) (b : Int) (k : Int) (a : Nat) (n : List UInt8) (s : NW) : NW := match findIt its k n with
  | some j => s.use b a n ((itNo its j).at_ + (itNo its j).mark)
  | none => if n = [] then s else s.tell a 6 n
def callN (its : List Itm) (b : Int) (a : Nat) (n : List UInt8) (m : Nat) (s : NW) : NW := match findIt its 2 n with
  | some j => if (itNo its j).params.length ≠ m then (itmN its b 2 a n s).tell a 5 n else itmN its b 2 a n s
  | none => itmN its b 2 a n s
def mkN (n : List UInt8) (a : Nat) (sc : List Lc) (s : NW) : List Lc × NW :=
  if n = [] then (sc, s) else (sc ++ [⟨n, a⟩], match findLc sc n with | some _ => s.tell a 7 n | none => s)
mutual
def exN (its : List Itm) (b : Int) (sc : List Lc) : Ex → NW → NW
  | .mk k nm _ args fr _, s => exsN its b sc args (if k = 2 then locN b sc fr nm s else if k = 4 then callN its b fr nm args.length s else s)
def exsN (its : List Itm) (b : Int) (sc : List Lc) : List Ex → NW → NW
  | [], s => s
  | e :: es, s => exsN its b sc es (exN its b sc e s)
 end
mutual
def stmN (its : List Itm) (b : Int) : Stm → List Lc → NW → List Lc × NW
  | .mk k nm a _ _ e thn els _ _, sc, s =>
    if k = 1 then mkN nm a sc (exN its b sc e s) else
    if k = 2 then (sc, locN b sc a nm (exN its b sc e s)) else
    if k = 5 then (sc, itmN its b 1 a nm (exN its b sc e s)) else
    if k = 3 ∨ k = 4 then (sc, (stmsN its b els sc (stmsN its b thn sc (exN its b sc e s)).2).2) else (sc, exN its b sc e s)
def stmsN (its : List Itm) (b : Int) : List Stm → List Lc → NW → List Lc × NW
  | [], sc, s => (sc, s)
  | x :: xs, sc, s => stmsN its b xs (stmN its b x sc s).1 (stmN its b x sc s).2
 end
def parN : List Par → List Lc → NW → List Lc × NW
  | [], sc, s => (sc, s)
  | p :: ps, sc, s => parN ps (mkN p.name p.at_ sc s).1 (mkN p.name p.at_ sc s).2
def sndStep (its : List Itm) (b : Int) (dn : List Rf) (c : Rf) (s : NW) : NW :=
  if c.name ≠ [] ∧ dn.any (fun x => decide (x.name = c.name)) = true then (itmN its b 1 c.at_ c.name s).tell c.at_ 7 c.name else itmN its b 1 c.at_ c.name s
def sndN (its : List Itm) (b : Int) : List Rf → List Rf → NW → NW
  | _, [], s => s
  | dn, c :: cs, s => sndN its b (dn ++ [c]) cs (sndStep its b dn c s)
def NW0 : NW := ⟨[], []⟩
/-- is the name of item number 'i' taken? -/
def taken (its : List Itm) (i : Nat) (it : Itm) : Bool := decide (it.kind ≠ 3) && (decide (it.name ≠ []) && (its.take i).any (fun x => decide (x.kind = it.kind) && decide (x.name = it.name)))
def fnN (its : List Itm) (it : Itm) (s : NW) : NW :=
  (stmsN its it.at_ it.body (parN it.params [] s).1 (sndN its it.at_ [] it.sends (parN it.params [] s).2)).2
def walkN (its : List Itm) (i : Nat) : NW :=
  if (itNo its i).kind = 2 then fnN its (itNo its i) (if taken its i (itNo its i) = true then NW0.tell (itNo its i).mark 7 (itNo its i).name else NW0)
  else if taken its i (itNo its i) = true then NW0.tell (itNo its i).mark 7 (itNo its i).name else NW0
def usesTo (its : List Itm) (k : Nat) : List Us := (List.range k).flatMap (fun i => (walkN its i).us)
def usesN (its : List Itm) : List Us := usesTo its its.length
def useAt (l : List Us) (at_ : Int) : Option Us := l.find? (fun u => decide (u.fr ≤ at_) && decide (at_ < u.to))
theorem usesTo_succ (its : List Itm) (k : Nat) : usesTo its (k + 1) = usesTo its k ++ (walkN its k).us := by
  rw [usesTo, List.range_succ, List.flatMap_append, ← usesTo]; simp
theorem exsN_app (its : List Itm) (b : Int) (sc : List Lc) : ∀ (l r : List Ex) (s : NW), exsN its b sc (l ++ r) s = exsN its b sc r (exsN its b sc l s)
  | [], r, s => by rw [List.nil_append, exsN]
  | e :: l, r, s => by rw [List.cons_append, exsN, exsN, exsN_app its b sc l r]
theorem stmsN_app (its : List Itm) (b : Int) : ∀ (l r : List Stm) (sc : List Lc) (s : NW), stmsN its b (l ++ r) sc s = stmsN its b r (stmsN its b l sc s).1 (stmsN its b l sc s).2
  | [], r, sc, s => by rw [List.nil_append, stmsN]
  | e :: l, r, sc, s => by rw [List.cons_append, stmsN, stmsN, stmsN_app its b l r]
theorem take_succ_get {α : Type} {l : List α} {k : Nat} {x : α} (h : l[k]? = some x) : l.take (k + 1) = l.take k ++ [x] := by rw [List.take_add_one, h]; rfl
theorem exsN_step (its : List Itm) (b : Int) (sc : List Lc) {l : List Ex} {k : Nat} {e : Ex} (h : l[k]? = some e) (s : NW) : exsN its b sc (l.take (k + 1)) s = exN its b sc e (exsN its b sc (l.take k) s) := by
  rw [take_succ_get h, exsN_app, exsN, exsN]
theorem stmsN_step (its : List Itm) (b : Int) {l : List Stm} {k : Nat} {x : Stm} (h : l[k]? = some x) (sc : List Lc) (s : NW) :
    stmsN its b (l.take (k + 1)) sc s = stmN its b x (stmsN its b (l.take k) sc s).1 (stmsN its b (l.take k) sc s).2 := by
  rw [take_succ_get h, stmsN_app, stmsN, stmsN]
theorem parN_app : ∀ (l r : List Par) (sc : List Lc) (s : NW), parN (l ++ r) sc s = parN r (parN l sc s).1 (parN l sc s).2
  | [], r, sc, s => by rw [List.nil_append, parN]
  | e :: l, r, sc, s => by rw [List.cons_append, parN, parN, parN_app l r]
theorem parN_step {l : List Par} {k : Nat} {x : Par} (h : l[k]? = some x) (sc : List Lc) (s : NW) : parN (l.take (k + 1)) sc s = mkN x.name x.at_ (parN (l.take k) sc s).1 (parN (l.take k) sc s).2 := by
  rw [take_succ_get h, parN_app, parN, parN]
theorem sndN_app (its : List Itm) (b : Int) : ∀ (l r : List Rf) (dn : List Rf) (s : NW), sndN its b dn (l ++ r) s = sndN its b (dn ++ l) r (sndN its b dn l s)
  | [], r, dn, s => by rw [List.nil_append, List.append_nil, sndN]
  | e :: l, r, dn, s => by rw [List.cons_append, sndN, sndN, sndN_app its b l r]; simp
theorem sndN_step (its : List Itm) (b : Int) {l : List Rf} {k : Nat} {x : Rf} (h : l[k]? = some x) (s : NW) : sndN its b [] (l.take (k + 1)) s = sndStep its b (l.take k) x (sndN its b [] (l.take k) s) := by
  rw [take_succ_get h, sndN_app, List.nil_append, sndN, sndN]
theorem findLc_snoc (n : List UInt8) (x : Lc) : ∀ (l : List Lc), findLc (l ++ [x]) n = if x.name = n then some x else findLc l n
  | [] => by simp [findLc]
  | a :: l => by
    rw [List.cons_append, findLc, findLc_snoc n x l, findLc]
    split <;> rename_i h
    · split at h
      · rename_i h2; rw [if_pos h2]; exact h.symm
      · rename_i h2; rw [if_neg h2, h]
    · split at h
      · cases h
      · rename_i h2; rw [if_neg h2, h]
theorem findLc_mem {n : List UInt8} {x : Lc} : ∀ {l : List Lc}, findLc l n = some x → x ∈ l ∧ x.name = n
  | [], h => by cases h
  | a :: l, h => by
    rw [findLc] at h
    split at h
    · rename_i y hy
      obtain rfl := Option.some.inj h
      have := findLc_mem hy
      exact ⟨List.mem_cons_of_mem _ this.1, this.2⟩
    · split at h
      · rename_i hn
        obtain rfl := Option.some.inj h
        exact ⟨List.mem_cons_self, hn⟩
      · cases h
/-! how much is told -/
def NW.n (s : NW) : Nat := s.ds.length + s.us.length
theorem tell_n (s : NW) (a e : Nat) (n : List UInt8) : (s.tell a e n).n = s.n + 1 := by simp [NW.tell, NW.n]; omega
theorem use_n (s : NW) (b : Int) (a : Nat) (n : List UInt8) (d : Int) : (s.use b a n d).n = s.n + 1 := by simp [NW.use, NW.n]; omega
theorem locN_n (b : Int) (sc : List Lc) (a : Nat) (n : List UInt8) (s : NW) : s.n ≤ (locN b sc a n s).n ∧ (locN b sc a n s).n ≤ s.n + 1 := by
  rw [locN]
  split
  · rw [use_n]; omega
  · split
    · omega
    · rw [tell_n]; omega
theorem itmN_n (its : List Itm) (b : Int) (k : Int) (a : Nat) (n : List UInt8) (s : NW) : s.n ≤ (itmN its b k a n s).n ∧ (itmN its b k a n s).n ≤ s.n + 1 := by
  rw [itmN]
  split
  · rw [use_n]; omega
  · split
    · omega
    · rw [tell_n]; omega
theorem callN_n (its : List Itm) (b : Int) (a : Nat) (n : List UInt8) (m : Nat) (s : NW) : s.n ≤ (callN its b a n m s).n ∧ (callN its b a n m s).n ≤ s.n + 2 := by
  have := itmN_n its b 2 a n s
  rw [callN]
  split
  · split
    · rw [tell_n]; omega
    · omega
  · omega
theorem mkN_n (n : List UInt8) (a : Nat) (sc : List Lc) (s : NW) : s.n ≤ (mkN n a sc s).2.n ∧ (mkN n a sc s).2.n ≤ s.n + 1 ∧ sc.length ≤ (mkN n a sc s).1.length ∧ (mkN n a sc s).1.length ≤ sc.length + 1 := by
  rw [mkN]
  split
  · exact ⟨Nat.le_refl _, by dsimp only; omega, Nat.le_refl _, by dsimp only; omega⟩
  · dsimp only
    rw [List.length_append, List.length_singleton]
    split
    · rw [tell_n]; omega
    · omega
mutual
theorem exN_n (its : List Itm) (b : Int) (sc : List Lc) : ∀ (e : Ex) (s : NW), s.n ≤ (exN its b sc e s).n ∧ (exN its b sc e s).n ≤ s.n + 2 * e.cnt
  | .mk k nm n args fr to, s => by
    rw [exN, Ex.cnt]
    have h1 := locN_n b sc fr nm s
    have h2 := callN_n its b fr nm args.length s
    have h3 := exsN_n its b sc args (if k = 2 then locN b sc fr nm s else if k = 4 then callN its b fr nm args.length s else s)
    generalize hq : (if k = 2 then locN b sc fr nm s else if k = 4 then callN its b fr nm args.length s else s) = q at h3 ⊢
    have h4 : s.n ≤ q.n ∧ q.n ≤ s.n + 2 := by
      rw [← hq]
      split
      · omega
      · split <;> omega
    omega
theorem exsN_n (its : List Itm) (b : Int) (sc : List Lc) : ∀ (l : List Ex) (s : NW), s.n ≤ (exsN its b sc l s).n ∧ (exsN its b sc l s).n ≤ s.n + 2 * exsCnt l
  | [], s => by rw [exsN, exsCnt]; omega
  | e :: l, s => by
    rw [exsN, exsCnt]
    have h1 := exN_n its b sc e s
    have h2 := exsN_n its b sc l (exN its b sc e s)
    omega
 end
mutual
theorem stmN_n (its : List Itm) (b : Int) : ∀ (x : Stm) (sc : List Lc) (s : NW), s.n ≤ (stmN its b x sc s).2.n ∧ (stmN its b x sc s).2.n ≤ s.n + 2 * x.cnt ∧ sc.length ≤ (stmN its b x sc s).1.length ∧ (stmN its b x sc s).1.length ≤ sc.length + 1
  | .mk k nm a lb o e thn els f t, sc, s => by
    rw [stmN, Stm.cnt]
    have h1 := exN_n its b sc e s
    generalize exN its b sc e s = q at h1 ⊢
    have h2 := mkN_n nm a sc q
    have h3 := locN_n b sc a nm q
    have h4 := itmN_n its b 1 a nm q
    have h5 := stmsN_n its b thn sc q
    have h6 := stmsN_n its b els sc (stmsN its b thn sc q).2
    split
    · omega
    · split
      · dsimp only; omega
      · split
        · dsimp only; omega
        · split
          · dsimp only; omega
          · dsimp only; omega
theorem stmsN_n (its : List Itm) (b : Int) : ∀ (l : List Stm) (sc : List Lc) (s : NW), s.n ≤ (stmsN its b l sc s).2.n ∧ (stmsN its b l sc s).2.n ≤ s.n + 2 * stmsCnt l ∧ sc.length ≤ (stmsN its b l sc s).1.length ∧ (stmsN its b l sc s).1.length ≤ sc.length + l.length
  | [], sc, s => by rw [stmsN, stmsCnt]; exact ⟨by dsimp only; omega, by dsimp only; omega, by dsimp only; omega, by dsimp only; simp⟩
  | x :: l, sc, s => by
    rw [stmsN, stmsCnt, List.length_cons]
    have h1 := stmN_n its b x sc s
    have h2 := stmsN_n its b l (stmN its b x sc s).1 (stmN its b x sc s).2
    omega
 end
/-- a block's locals stand behind those that were there. -/
theorem mkN_pre (n : List UInt8) (a : Nat) (sc : List Lc) (s : NW) : sc <+: (mkN n a sc s).1 := by
  rw [mkN]
  split
  · exact List.prefix_refl _
  · exact List.prefix_append _ _
theorem stmN_pre (its : List Itm) (b : Int) (x : Stm) (sc : List Lc) (s : NW) : sc <+: (stmN its b x sc s).1 := by
  cases x with
  | mk k nm a lb o e thn els f t =>
  rw [stmN]
  split
  · exact mkN_pre _ _ _ _
  · split
    · exact List.prefix_refl _
    · split
      · exact List.prefix_refl _
      · split
        · exact List.prefix_refl _
        · exact List.prefix_refl _
theorem stmsN_pre (its : List Itm) (b : Int) : ∀ (l : List Stm) (sc : List Lc) (s : NW), sc <+: (stmsN its b l sc s).1
  | [], sc, s => by rw [stmsN]; exact List.prefix_refl _
  | x :: l, sc, s => by rw [stmsN]; exact (stmN_pre its b x sc s).trans (stmsN_pre its b l _ _)
theorem stmsN_back (its : List Itm) (b : Int) (l : List Stm) (sc : List Lc) (s : NW) : (stmsN its b l sc s).1.take sc.length = sc :=
  (List.prefix_iff_eq_take.1 (stmsN_pre its b l sc s)).symm
end Go.Sp
end
section
namespace Go.Sp
def idxV (F : Itm → Bool) (its : List Itm) : Int := match its.findIdx? F with
  | some j => (j : Int)
  | none => -1
def findV (its : List Itm) (k : Int) (n : List UInt8) : Int := match findIt its k n with
  | some j => (j : Int)
  | none => -1
theorem idxV_at {F : Itm → Bool} {its : List Itm} {k : Nat} {it : Itm} (h : its[k]? = some it) (hF : F it = true) (hb : ∀ j it', j < k → its[j]? = some it' → F it' = false) : idxV F its = k := by
  have : its.findIdx? F = some k := by
    rw [List.findIdx?_eq_some_iff_getElem]
    obtain ⟨hk, e⟩ := List.getElem?_eq_some_iff.1 h
    refine ⟨hk, by rw [e]; exact hF, fun j hj => ?_⟩
    have := hb j its[j] hj (List.getElem?_eq_getElem (by omega))
    rw [this]; simp
  rw [idxV, this]
theorem idxV_none {F : Itm → Bool} {its : List Itm} (hb : ∀ j it', j < its.length → its[j]? = some it' → F it' = false) : idxV F its = -1 := by
  have : its.findIdx? F = none := by
    rw [List.findIdx?_eq_none_iff]
    intro x hx
    obtain ⟨j, hj, rfl⟩ := List.getElem_of_mem hx
    exact hb j _ hj (List.getElem?_eq_getElem hj)
  rw [idxV, this]
end Go.Sp
namespace Go.Fw
open Go
section
variable {P : Program} {N : Nat} {ds : List Deferred} {Q : Exit → Act → World → Prop} {l : Log} {w : World} {ops : Array Oper} {os : List Oper}
variable {d : Nat} {ty : TypeId} {pos : String} {af : Array Edge} {g : Option (Nat × Bool)} {t : TypeId} {x y : Operand} {E : Ent} {I : Imm} {H R G : List HItem}
/-- a call of what is a value. -/
theorem m_callv {c : Operand} {f : FuncId} [Own P f] {xs : List Operand} {tys : Array TypeId} {vs ca : List Value} {Post : Value → Imm → List HItem → Prop} (hm : Mem E I G w)
    (hw : want ops l ⟨some d, .call ⟨.value c, xs.toArray, tys⟩, ty, pos, af, g⟩ = some true) (hN : Nat.blt d N = true)
    (hf : ev l c = some (.func (.func f) #[] ca.toArray)) (hx : evs l xs = some vs) (hp : G.Perm (H ++ R)) (hc : CalM P f (vs ++ ca).toArray I H Post)
    (k : ∀ v I' H' w', Post v I' H' → Le I I' → Mem E I' (H' ++ R) w' → WL P N ds ops Q os ((d, v) :: l) w') :
    WL P N ds ops Q (⟨some d, .call ⟨.value c, xs.toArray, tys⟩, ty, pos, af, g⟩ :: os) l w :=
  op_callv hw hN hf hx (hc.run w (hm.perm hp).sub) (fun v w' ⟨I', H', h1, h2⟩ => k v I' H' w' h1 h2.le ((hm.perm hp).back h2))
/-- a part of what does not turn. -/
theorem PtrI.sub {b off ty : Nat} {cs cs' : List Value} (h : PtrI I b off ty cs) (k : Nat) (hs : ∀ j u, cs'[j]? = some u → cs[k + j]? = some u) : PtrI I b (off + k) ty cs' := by
  obtain ⟨c, fr, h1, h2⟩ := h
  exact ⟨c, fr, h1, fun j u hj => by rw [Nat.add_assoc]; exact h2 _ _ (hs j u hj)⟩
theorem CalM.read {f : FuncId} {args : Array Value} {v : Value} (h : CalM P f args I [] (fun u _ H' => u = v ∧ H' = [])) : CalR P f args I [] v :=
  ⟨fun w hI _ => (h.run w (Mem.start hI)).mono (fun u w' ⟨_, _, ⟨h1, _⟩, h2⟩ => ⟨h1, h2.kept⟩)⟩
end
end Go.Fw
namespace Go.Proofs.YtkbiakajlfmakaaDoor
open Go.Fw
structure NI where
  k : Nat
  I : Imm
/-- a file's items. -/
structure FE (I : Imm) (its : List Sp.Itm) (a : Option Addr) (cp : Nat) (xs : List Value) : Prop where
  row : RowI I 33 10 (.slice a its.length cp) its.length xs
  ats : ItsAt I its xs
  few : its.length ≤ 64
theorem FE.le {I I' : Imm} {its : List Sp.Itm} {a : Option Addr} {cp : Nat} {xs : List Value} (h : FE I its a cp xs) (m : Le I I') : FE I' its a cp xs := ⟨h.row.le m, h.ats.le m, h.few⟩
theorem FE.get {I : Imm} {its : List Sp.Itm} {a : Option Addr} {cp : Nat} {xs : List Value} (h : FE I its a cp xs) {k : Nat} {it : Sp.Itm} (hg : its[k]? = some it) : ∃ cs, (xs.drop (k * 10)).take 10 = cs ∧ ItAt I it cs ∧ cs.length = 10 :=
  ⟨_, rfl, h.ats.get hg, (h.ats.get hg).len⟩
theorem n_findC (I : Imm) (k : Int) (n : List UInt8) (bk bn : Nat) (hk : PtrI I bk 0 3 [.int .i64 k]) (hn : PtrI I bn 0 9 [str n]) (it : Sp.Itm) (cs : List Value) (hi : ItAt I it cs) :
    CalM Tryd.prog 85 #[.agg cs.toArray, ptr bk, ptr bn] I [] (fun v _ H' => v = .bool (Sp.itIs k n it) ∧ H' = []) := by
  obtain ⟨ap, cp, as_, cs', ab, cb, ad, cd, xb, rfl, r1, r2, r3, r4, r5⟩ := hi
  refine CalM.of fun w E hm => enter (N := 19) Tryd.func85 rfl [(0, .agg (itCells it.kind it.name it.label (.slice ap it.params.length cp) (.slice as_ it.sends.length cs') (.slice ab it.body.length cb) it.at_ it.size it.mark (.slice ad it.diags.length cd)).toArray), (1, ptr bk), (2, ptr bn)] args3 rfl ?_
  repeat' (first
    | (refine m_box (d := 3) hm (by rfl) (by rfl) (by rfl) (by rfl) ?_; clear hm; intro b3 _ hm)
    | refine m_load1 hm (by rfl) (by rfl) (by rfl) (by first | exact gt0 | exact gt1 | exact gt2 | exact gt3 | exact gt4 | exact gt5 | exact gt6) (by rfl) ?_
    | refine i_load1z hm (by rfl) (by rfl) (by rfl) (by assumption) (by rfl) ?_
    | refine op_move (by rfl) (by rfl) (by rfl) ?_
    | refine op_assign (by rfl) (by rfl) (by rfl) ?_
    | refine op_pick_true (by rfl) (by rfl) (by rfl) (by rfl) ?_
    | refine op_pick_false (by rfl) (by rfl) (by rfl) (by rfl) ?_
    | refine op_eql (by rfl) (by rfl) (by rfl) (by rfl) ?_
    | refine op_eql_str (by rfl) (by rfl) (by rfl) (by rfl) ?_
    | refine op_neq_str (by rfl) (by rfl) (by rfl) (by rfl) ?_
    | refine op_fieldAddr (by rfl) (by rfl) (by rfl) ?_
    | refine wl_skip (by rfl) (by rfl) (by rfl) ?_
    | (refine wl_split_dec (by rfl) (by rfl) (by rfl) (fun _ => ?_) (fun _ => ?_) <;> (try first | contradiction | (exfalso; omega)))
    | refine wl_nil ?_
    | refine at_then_normal ?_
    | refine wc_seq ?_
    | refine wc_region ?_
    | refine wc_ret ?_
    | refine at_ret1 (by rfl) (by rfl) ?_)
  all_goals (refine ⟨I, [], ⟨congrArg Value.bool ?_, rfl⟩, hm.left (H := [])⟩; simp_all [Sp.itIs])
set_option maxHeartbeats 4000000 in
theorem n_index (fi : FuncId) [Own Tryd.prog fi] (ca : List Value) (F : Sp.Itm → Bool) (its : List Sp.Itm) (I : Imm) (a : Option Addr) (cp : Nat) (xs : List Value) (h : FE I its a cp xs)
    (hF : ∀ I', Le I I' → ∀ it cs, ItAt I' it cs → CalM Tryd.prog fi (.agg cs.toArray :: ca).toArray I' [] (fun v _ H' => v = .bool (F it) ∧ H' = [])) :
    CalM Tryd.prog 84 #[.slice a its.length cp, .func (.func fi) #[] ca.toArray] I [] (fun v _ H' => v = .int .i64 (Sp.idxV F its) ∧ H' = []) := by
  refine CalM.of fun w E hm => enter (N := 19) Tryd.func84 rfl [(0, .slice a its.length cp), (1, .func (.func fi) #[] ca.toArray)] args2 rfl ?_
  have hfew := h.few
  repeat' (first
    | refine op_move (by rfl) (by rfl) (by rfl) ?_
    | refine op_assign (by rfl) (by rfl) (by rfl) ?_
    | refine op_len_slice (by rfl) (by rfl) (by rfl) ?_
    | refine wl_nil ?_
    | refine at_then_normal ?_
    | refine wc_seq ?_
    | refine wc_region ?_
    | refine wc_block ?_)
  refine wc_loop (fun x : NI => [(0, .slice a its.length cp), (1, .func (.func fi) #[] ca.toArray), (7, nt its.length), (8, nt x.k)])
    (fun x w' => Mem E x.I [] w' ∧ Le I x.I ∧ x.k ≤ its.length ∧ ∀ j it', j < x.k → its[j]? = some it' → F it' = false) (fun x => its.length - x.k) ⟨0, I⟩ (by exact ⟨rfl, rfl, rfl, rfl, trivial⟩) ⟨hm, Le.refl _, Nat.zero_le _, fun j _ hj => absurd hj (Nat.not_lt_zero j)⟩ ?_
  clear hm
  rintro ⟨k, I1⟩ w1 ⟨hm, hle1, hk, hno⟩
  dsimp only at hm hle1 hk hno ⊢
  by_cases hlt : k < its.length
  · have hg : its[k]? = some its[k] := List.getElem?_eq_getElem hlt
    obtain ⟨cs, hcs, hat, hl10⟩ := (h.le hle1).get hg
    have hri := (h.le hle1).row
    have hc := hF I1 hle1 _ cs hat
    generalize its[k] = it at hg hat hc
    cases hb : F it with
    | true =>
      rw [hb] at hc
      repeat' (first
        | (refine i_indexAddr (d := 14) (by rfl) (by rfl) (by rfl) (by rfl) hri (by omega) (by omega) ?_; intro bt ot hpt; rw [show ((k : Int).toNat * 10) = k * 10 from rfl, hcs] at hpt)
        | (refine i_loadN (d := 15) hm (by rfl) (by rfl) (by rfl) hpt (by exact hl10) ?_)
        | (refine m_callv (d := 16) hm (by rfl) (by rfl) (by rfl) (by rfl) pm0 (by exact hc) ?_; clear hm; rintro _ I2 _ _ ⟨rfl, rfl⟩ hle hm)
        | refine op_move (by rfl) (by rfl) (by rfl) ?_
        | refine op_assign (by rfl) (by rfl) (by rfl) ?_
        | refine op_lss (by rfl) (by rfl) (by rfl) (by rfl) ?_
        | refine wl_nil ?_
        | refine at_then_normal ?_
        | refine at_then_ret ?_
        | refine at_block_ret ?_
        | refine wc_seq ?_
        | refine wc_region ?_
        | refine wc_block ?_
        | refine wc_skip ?_
        | refine wc_ret ?_
        | refine at_ret1 (by rfl) (by rfl) ?_
        | refine wc_cond_true (by rfl) ?_
        | (refine wc_cond_dec (by rfl) (fun _ => ?_) (fun _ => ?_) <;> (try first | contradiction | (exfalso; omega))))
      all_goals try (exfalso; omega)
      exact ⟨I2, [], ⟨by rw [Sp.idxV_at hg hb hno], rfl⟩, hm.left (H := [])⟩
    | false =>
      rw [hb] at hc
      repeat' (first
        | (refine i_indexAddr (d := 14) (by rfl) (by rfl) (by rfl) (by rfl) hri (by omega) (by omega) ?_; intro bt ot hpt; rw [show ((k : Int).toNat * 10) = k * 10 from rfl, hcs] at hpt)
        | (refine i_loadN (d := 15) hm (by rfl) (by rfl) (by rfl) hpt (by exact hl10) ?_)
        | (refine m_callv (d := 16) hm (by rfl) (by rfl) (by rfl) (by rfl) pm0 (by exact hc) ?_; clear hm; rintro _ I2 _ _ ⟨rfl, rfl⟩ hle hm)
        | refine op_move (by rfl) (by rfl) (by rfl) ?_
        | refine op_assign (by rfl) (by rfl) (by rfl) ?_
        | refine op_lss (by rfl) (by rfl) (by rfl) (by rfl) ?_
        | refine op_add (by rfl) (by rfl) (by rfl) (by rfl) (by omega) ?_
        | refine wl_nil ?_
        | refine at_then_normal ?_
        | refine at_block_normal ?_
        | refine wc_seq ?_
        | refine wc_region ?_
        | refine wc_block ?_
        | refine wc_skip ?_
        | refine wc_cond_false (by rfl) ?_
        | (refine wc_cond_dec (by rfl) (fun _ => ?_) (fun _ => ?_) <;> (try first | contradiction | (exfalso; omega))))
      all_goals try (exfalso; omega)
      refine at_round (⟨k + 1, I2⟩ : NI) (by exact ⟨rfl, rfl, rfl, rfl, trivial⟩) ⟨hm.left (H := []), hle1.trans hle, by dsimp only; omega, fun j it' hj hg' => ?_⟩ (by dsimp only; omega)
      rcases Nat.lt_or_ge j k with hjk | hjk
      · exact hno j it' hjk hg'
      · obtain rfl : j = k := by dsimp only at hj; omega
        rw [hg] at hg'
        obtain rfl := Option.some.inj hg'
        exact hb
  · obtain rfl : k = its.length := by omega
    repeat' (first
      | refine op_assign (by rfl) (by rfl) (by rfl) ?_
      | refine op_lss (by rfl) (by rfl) (by rfl) (by rfl) ?_
      | refine wl_nil ?_
      | refine at_then_normal ?_
      | refine at_then_exit ?_
      | refine at_block_exit ?_
      | refine wc_seq ?_
      | refine wc_region ?_
      | refine wc_exit ?_
      | refine wc_ret ?_
      | refine at_ret1 (by rfl) (by rfl) ?_
      | (refine wc_cond_dec (by rfl) (fun _ => ?_) (fun _ => ?_) <;> (try first | contradiction | (exfalso; omega))))
    all_goals try (exfalso; omega)
    exact ⟨I1, [], ⟨by rw [Sp.idxV_none hno], rfl⟩, hm.left (H := [])⟩
theorem n_find (k : Int) (n : List UInt8) (its : List Sp.Itm) (I : Imm) (a : Option Addr) (cp : Nat) (xs : List Value) (h : FE I its a cp xs) :
    CalM Tryd.prog 55 #[.agg [.slice a its.length cp].toArray, .int .i64 k, str n] I [] (fun v _ H' => v = .int .i64 (Sp.findV its k n) ∧ H' = []) := by
  refine CalM.of fun w E hm => enter (N := 11) Tryd.func55 rfl [(0, .agg [.slice a its.length cp].toArray), (1, .int .i64 k), (2, str n)] args3 rfl ?_
  repeat' (first
    | (refine m_box (d := 3) hm (by rfl) (by rfl) (by rfl) (by rfl) ?_; clear hm; intro b3 _ hm)
    | (refine m_box (d := 4) hm (by rfl) (by rfl) (by rfl) (by rfl) ?_; clear hm; intro b4 _ hm)
    | (refine m_box (d := 5) hm (by rfl) (by rfl) (by rfl) (by rfl) ?_; clear hm; intro b5 _ hm)
    | refine m_load1 hm (by rfl) (by rfl) (by rfl) (by first | exact gt0 | exact gt1 | exact gt2 | exact gt3 | exact gt4 | exact gt5 | exact gt6) (by rfl) ?_
    | refine op_assign (by rfl) (by rfl) (by rfl) ?_
    | refine op_makeFunc (by rfl) (by rfl) (by rfl) ?_
    | refine op_fieldAddr (by rfl) (by rfl) (by rfl) ?_
    | refine wl_nil ?_
    | refine at_then_normal ?_
    | refine wc_seq ?_
    | refine wc_region ?_)
  obtain ⟨I2, hle2, hm2, hpn⟩ := hm.freezeO
  obtain ⟨I3, hle3, hm3, hpk⟩ := hm2.freezeO
  clear hm hm2
  have hm := hm3
  clear hm3
  have hc := n_index 85 [ptr b4, ptr b5] (Sp.itIs k n) its I3 a cp xs ((h.le hle2).le hle3) (fun I' m it cs hi => n_findC I' k n b4 b5 (hpk.le m) ((hpn.le hle3).le m) it cs hi)
  repeat' (first
    | (refine m_call (d := 10) hm (by rfl) (by rfl) (by rfl) (by first | exact pm0 | exact pm1_0 | exact pm1_1 | exact pm1_2 | exact pm1_3 | exact pm2_0 | exact pm2_1 | exact pm2_2 | exact pm2_3 | exact pm2_4 | exact pm3_0 | exact pm3_1 | exact pm3_2) (hc) ?_; clear hm; rintro _ I4 _ _ ⟨rfl, rfl⟩ hle hm; have hleI4 := hle; try simp only [setn] at hm)
    | refine op_assign (by rfl) (by rfl) (by rfl) ?_
    | refine wl_nil ?_
    | refine at_then_normal ?_
    | refine wc_ret ?_
    | refine at_ret1 (by rfl) (by rfl) ?_)
  exact ⟨I4, [], ⟨rfl, rfl⟩, hm.left (H := [])⟩
end Go.Proofs.YtkbiakajlfmakaaDoor
end
section
namespace Go.Sp
structure FW where
  ds : List Dg
  hv : Option Nat
def FW.tell (s : FW) (f t : Nat) (n : List UInt8) : FW := { s with ds := s.ds ++ [⟨f, t, 9, n⟩] }
def FW.hit (s : FW) (at_ : Int) (f t n : Nat) : FW := if s.hv = none ∧ (f : Int) ≤ at_ ∧ at_ < t then { s with hv := some n } else s
/-! how much is told -/
/-! labels are labels -/
theorem findIt_lt {its : List Itm} {k : Int} {n : List UInt8} {j : Nat} (h : findIt its k n = some j) : j < its.length ∧ ((itNo its j).kind : Int) = k ∧ (itNo its j).name = n ∧ n ≠ [] ∧ itNo its j ∈ its := by
  obtain ⟨h1, h2, _⟩ := List.findIdx?_eq_some_iff_getElem.1 h
  have e : itNo its j = its[j] := by rw [itNo, List.getD_eq_getElem?_getD, List.getElem?_eq_getElem h1]; rfl
  rw [e]
  simp only [itIs, Bool.and_eq_true, decide_eq_true_eq] at h2
  exact ⟨h1, h2.1, h2.2.1, h2.2.2, List.getElem_mem h1⟩
end Go.Sp
end
section
namespace Go.Sp
/-- a name stands there. -/
def stands (s : List UInt8) (a : Nat) (n : List UInt8) : Prop := a + n.length ≤ s.length ∧ (s.drop a).take n.length = n
theorem stands_nil {s : List UInt8} {a : Nat} (h : a ≤ s.length) : stands s a [] := ⟨by simpa using h, by simp⟩
def stE (s : List UInt8) : PE := fun k nm _ _ f _ => (k = 2 ∨ k = 4) → stands s f nm
def stS (s : List UInt8) : PS := fun k nm a _ _ _ _ => (k = 1 ∨ k = 2 ∨ k = 5) → stands s a nm
theorem tok_stands (src : List UInt8) (i : Nat) : stands src ((⟨tokens src, src.length⟩ : Src).tok i).pos ((⟨tokens src, src.length⟩ : Src).tok i).text := by
  rw [Src.tok]
  by_cases h : i < (tokens src).length
  · have hk := tokens_ok src (tokens src)[i] (List.getElem_mem h)
    simp only [List.getD_eq_getElem?_getD, List.getElem?_eq_getElem h, Option.getD_some]
    exact ⟨hk.fit, hk.text.symm⟩
  · simp only [List.getD_eq_getElem?_getD, List.getElem?_eq_none (Nat.le_of_not_lt h), Option.getD_none]
    exact stands_nil (Nat.le_refl _)
theorem named_stands (src : List UInt8) (s : St) : stands src ((⟨tokens src, src.length⟩ : Src).tok s.i).pos (s.named ⟨tokens src, src.length⟩).1 := by
  have h := tok_stands src s.i
  have h0 : stands src ((⟨tokens src, src.length⟩ : Src).tok s.i).pos [] := stands_nil (by have := h.1; omega)
  rw [St.named]
  split
  · exact h
  · split
    · exact h0
    · exact h0
theorem stE_at (src : List UInt8) : AtE ⟨tokens src, src.length⟩ (stE src) :=
  ⟨fun h => (by omega), fun i h => (by omega), fun i n _ _ h => (by omega), fun i _ _ => tok_stands src i, fun i j m _ _ _ => tok_stands src i, fun i k1 n1 v1 m1 f1 t1 k2 n2 v2 m2 f2 t2 _ _ _ h => (by omega)⟩
theorem stS_at (src : List UInt8) : AtS ⟨tokens src, src.length⟩ (stS src) :=
  ⟨fun h => (by omega), fun i s lb o j _ _ => named_stands src s, fun i j _ _ => tok_stands src i, fun k i j hk h => (by omega), fun i s j _ => named_stands src s⟩
/-- names of an item stand in the text. -/
structure ItS (s : List UInt8) (p : Nat) (q : List UInt8) (it : Itm) : Prop where
  at_ : it.at_ = p
  sub : ∀ a n, stands q a n → stands s (p + a) n
  body : stmsAll (stE q) (stS q) it.body
  params : ∀ x ∈ it.params, stands q x.at_ x.name
  sends : ∀ x ∈ it.sends, stands q x.at_ x.name
  mark : stands q it.mark it.name
def ItS0 (s : List UInt8) (it : Itm) : Prop := ∃ p q, ItS s p q it
theorem piece_stands (s : List UInt8) {c e : Nat} (hc : c ≤ s.length) (he : e ≤ s.length) {a : Nat} {n : List UInt8} (h : stands ((s.drop c).take (e - c)) a n) : stands s (c + a) n := by
  obtain ⟨h1, h2⟩ := h
  rw [List.length_take, List.length_drop] at h1
  refine ⟨by omega, ?_⟩
  rw [List.drop_take, List.take_take, List.drop_drop, Nat.min_eq_left (by omega)] at h2
  exact h2
theorem file_its (s : List UInt8) : ∀ it ∈ fileItems s, ItS0 s it := by
  intro it hit
  rw [fileItems] at hit
  split at hit
  · rw [items, List.mem_map] at hit
    obtain ⟨i, hi, rfl⟩ := hit
    have hi := List.mem_range.1 hi
    obtain ⟨c1, c2⟩ := cuts_at s hi
    have hall := item_all (src := piece s (cuts s) i) ((cuts s).getD i 0 : Nat) (stE_at _) (stS_at _) (r := fun x => stands (piece s (cuts s) i) x.at_ x.name) (t := fun x => stands (piece s (cuts s) i) x.at_ x.name) (fun s _ _ => named_stands _ s) (fun s => named_stands _ s)
    refine ⟨(cuts s).getD i 0, piece s (cuts s) i, ?_⟩
    rw [itemAt]
    refine ⟨item_at _ _, fun a n h => piece_stands s (by omega) c2 h, hall.body, hall.params, hall.sends, ?_⟩
    rcases hall.mark with ⟨h1, h2⟩ | ⟨st, h1, h2⟩
    · rw [h1]
      rcases h2 with ⟨j, h2⟩ | h2
      · rw [h2]; exact stands_nil (by have := (tok_stands (piece s (cuts s) i) j).1; omega)
      · rw [h2]; exact stands_nil (Nat.zero_le _)
    · rw [h1, h2]; exact named_stands _ st
  · cases hit
/-- a use: the name stands there, and where it is made. -/
def UseOk (s : List UInt8) (u : Us) : Prop := ∃ f d n, u.fr = ((f : Nat) : Int) ∧ u.to = ((f + n.length : Nat) : Int) ∧ u.df = ((d : Nat) : Int) ∧ n ≠ [] ∧ stands s f n ∧ stands s d n
def NW.ok (s : List UInt8) (w : NW) : Prop := ∀ u ∈ w.us, UseOk s u
def scOk (q : List UInt8) (sc : List Lc) : Prop := ∀ l ∈ sc, l.name ≠ [] ∧ stands q l.at_ l.name
theorem findIt_ok {s : List UInt8} {its : List Itm} (h : ∀ x ∈ its, ItS0 s x) {k : Int} {n : List UInt8} {j : Nat} (hf : findIt its k n = some j) : n ≠ [] ∧ ∃ d : Nat, (itNo its j).at_ + (itNo its j).mark = (d : Int) ∧ stands s d n := by
  obtain ⟨hj, h1, h2, h3, h4⟩ := findIt_lt hf
  obtain ⟨p, q, hi⟩ := h _ h4
  refine ⟨h3, p + (itNo its j).mark, by rw [hi.at_]; omega, ?_⟩
  have := hi.sub _ _ hi.mark
  rw [h2] at this
  exact this
end Go.Sp
end
section
namespace Go.Sp
section
variable {s q : List UInt8} {p : Nat} {its : List Itm} {sc : List Lc}
theorem scOk_snoc (h : scOk q sc) {n : List UInt8} {a : Nat} (hn : n ≠ []) (hst : stands q a n) : scOk q (sc ++ [⟨n, a⟩]) := fun l hl => by
  rcases List.mem_append.1 hl with hl | hl
  · exact h l hl
  · obtain rfl := List.mem_singleton.1 hl
    exact ⟨hn, hst⟩
theorem scOk_nil : scOk q [] := fun l h => by cases h
end
end Go.Sp
end
section
namespace Go.Sp
theorem itNo_mem {its : List Itm} {i : Nat} (h : i < its.length) : itNo its i ∈ its := by
  rw [itNo, List.getD_eq_getElem?_getD, List.getElem?_eq_getElem h]; exact List.getElem_mem h
theorem itNo_get {its : List Itm} {i : Nat} (h : i < its.length) : its[i]? = some (itNo its i) := by
  rw [itNo, List.getD_eq_getElem?_getD, List.getElem?_eq_getElem h]; rfl
/-- the second has channels' labels that are as great at least. -/
structure Up (its its' : List Itm) : Prop where
  len : its'.length = its.length
  kind : ∀ j, (itNo its' j).kind = (itNo its j).kind
  name : ∀ j, (itNo its' j).name = (itNo its j).name
  params : ∀ j, (itNo its' j).params = (itNo its j).params
  sends : ∀ j, (itNo its' j).sends = (itNo its j).sends
  body : ∀ j, (itNo its' j).body = (itNo its j).body
  own : ∀ j, (itNo its j).kind ≠ 1 → (itNo its' j).label = (itNo its j).label
  up : ∀ j a, flows a (itNo its j).label = true → flows a (itNo its' j).label = true
theorem Up.find {its its' : List Itm} (h : Up its its') (k : Int) (n : List UInt8) : findIt its' k n = findIt its k n := by
  have e : ∀ j (h1 : j < its'.length) (h2 : j < its.length), itIs k n its'[j] = itIs k n its[j] := fun j h1 h2 => by
    have a1 := h.kind j
    have a2 := h.name j
    have e1 : itNo its' j = its'[j] := by have := itNo_get h1; rw [List.getElem?_eq_getElem h1] at this; exact (Option.some.inj this).symm
    have e2 : itNo its j = its[j] := by have := itNo_get h2; rw [List.getElem?_eq_getElem h2] at this; exact (Option.some.inj this).symm
    rw [e1, e2] at a1 a2
    rw [itIs, itIs, a1, a2]
  have hl := h.len
  rw [findIt, findIt]
  cases hf : its.findIdx? (itIs k n) with
  | none =>
    rw [List.findIdx?_eq_none_iff] at hf ⊢
    intro x hx
    obtain ⟨j, hj, rfl⟩ := List.getElem_of_mem hx
    rw [e j hj (by omega)]
    exact hf _ (List.getElem_mem _)
  | some j =>
    rw [List.findIdx?_eq_some_iff_getElem] at hf ⊢
    obtain ⟨h1, h2, h3⟩ := hf
    exact ⟨by omega, by rw [e j (by omega) h1]; exact h2, fun i hi => by rw [e i (by omega) (by omega)]; exact h3 i hi⟩
end Go.Sp
end
section
namespace Go.Sp
theorem findLn_cut (n : List UInt8) {l : List Lc} {k : Nat} {x : Lc} (h : l[k]? = some x) : findLc (l.take (k + 1)) n = if x.name = n then some x else findLc (l.take k) n := by
  rw [take_succ_get h, findLc_snoc]
end Go.Sp
namespace Go.Fw
theorem sub4_0 {R : List HItem} {a b c d : HItem} : ∀ h ∈ [a, b, c, d], h ∈ a :: b :: c :: d :: R := by simp
theorem pm4_0 {R : List HItem} {a b c d : HItem} : (a :: b :: c :: d :: R).Perm ([a, b, c, d] ++ R) := .refl _
theorem pm4_1 {R : List HItem} {a b c d x : HItem} : (x :: a :: b :: c :: d :: R).Perm ([a, b, c, d] ++ (x :: R)) :=
  (pm3_1 (R := d :: R)).trans (((List.Perm.swap d x R).cons c).cons b |>.cons a)
end Go.Fw
namespace Go.Proofs.YtkbiakajlfmakaaDoor
open Go.Fw
abbrev encLn (l : Sp.Lc) : List Value := [str l.name, nt l.at_]
abbrev encUs (u : Sp.Us) : List Value := [.int .i64 u.fr, .int .i64 u.to, .int .i64 u.df]
abbrev lnRow (sc : List Sp.Lc) (sa : Option Addr) (sp : Nat) : HItem := .row (.slice sa sc.length sp) 225 2 sc.length (sc.flatMap encLn)
abbrev usRow (us : List Sp.Us) (ua : Option Addr) (up : Nat) : HItem := .row (.slice ua us.length up) 56 3 us.length (us.flatMap encUs)
abbrev nObj (bc bf : Nat) (pi : Value) (sc : List Sp.Lc) (sa : Option Addr) (sp : Nat) (s : Sp.NW) (da : Option Addr) (dp : Nat) (ua : Option Addr) (up : Nat) : HItem :=
  .obj bc (.cells [ptr bf, pi, .slice sa sc.length sp, .slice da s.ds.length dp, .slice ua s.us.length up].toArray 110 (0, 0))
/-- who goes through a file's names: it, what it used, locals, what it told. -/
abbrev NSt (bc bf : Nat) (pi : Value) (sc : List Sp.Lc) (sa : Option Addr) (sp : Nat) (s : Sp.NW) (da : Option Addr) (dp : Nat) (ua : Option Addr) (up : Nat) : List HItem :=
  [nObj bc bf pi sc sa sp s da dp ua up, usRow s.us ua up, lnRow sc sa sp, dgRow s.ds da dp]
/-- it comes to 's', with locals 'sc'. -/
abbrev ToN (bc bf : Nat) (pi : Value) (sc : List Sp.Lc) (s : Sp.NW) (val : Value) : Value → Imm → List HItem → Prop :=
  fun v _ H' => v = val ∧ ∃ sa sp da dp ua up, H' = NSt bc bf pi sc sa sp s da dp ua up
/-- what does not turn of it. -/
structure NRd (J : Imm) (bc bf : Nat) (pi : Value) (sc : List Sp.Lc) (sa : Option Addr) (sp : Nat) (v3 v4 : Value) : Prop where
  ptr : PtrI J bc 0 110 [ptr bf, pi, .slice sa sc.length sp, v3, v4]
  row : RowI J 225 2 (.slice sa sc.length sp) sc.length (sc.flatMap encLn)
theorem NRd.le {I J : Imm} (m : Le I J) {bc bf : Nat} {pi : Value} {sc : List Sp.Lc} {sa : Option Addr} {sp : Nat} {v3 v4 : Value} (h : NRd I bc bf pi sc sa sp v3 v4) : NRd J bc bf pi sc sa sp v3 v4 := ⟨h.ptr.le m, h.row.le m⟩
def lcV : Option Sp.Lc → Value
  | some l => .tuple #[.agg [str l.name, nt l.at_].toArray, .bool true]
  | none => .tuple #[.agg [str [], nt 0].toArray, .bool false]
/-- what does not turn beside it; the text. -/
structure NC (I : Imm) (src : List UInt8) (p : Nat) (q : List UInt8) (its : List Sp.Itm) (it : Sp.Itm) (bf : Nat) (a : Option Addr) (cp : Nat) (xs : List Value) (pi : Value) : Prop where
  file : PtrI I bf 0 24 [.slice a its.length cp]
  fe : FE I its a cp xs
  item : ∃ bi oi tc ci, pi = .pointer (some ⟨bi, oi, none⟩) ∧ PtrI I bi oi tc ci ∧ ItAt I it ci
  len : src.length ≤ 4000
  st : Sp.ItS src p q it
  sts : ∀ x ∈ its, Sp.ItS0 src x
theorem NC.le {I J : Imm} (m : Le I J) {src : List UInt8} {p : Nat} {q : List UInt8} {its : List Sp.Itm} {it : Sp.Itm} {bf : Nat} {a : Option Addr} {cp : Nat} {xs : List Value} {pi : Value} (h : NC I src p q its it bf a cp xs pi) : NC J src p q its it bf a cp xs pi := by
  obtain ⟨h1, h2, ⟨bi, oi, tc, ci, e, h3, h4⟩, h5, h6, h7⟩ := h
  exact ⟨h1.le m, h2.le m, ⟨bi, oi, tc, ci, e, h3.le m, h4.le m⟩, h5, h6, h7⟩
section
variable {I : Imm} {bc bf sp dp up : Nat} {pi : Value} {sc : List Sp.Lc} {sa da ua : Option Addr} {s : Sp.NW}
/-- a reader of it, from where all does not turn. -/
theorem CalR.walker {f : FuncId} {args : Array Value} {v : Value} (h : ∀ J, Le I J → NRd J bc bf pi sc sa sp (.slice da s.ds.length dp) (.slice ua s.us.length up) → CalR Tryd.prog f args J [] v) :
    CalR Tryd.prog f args I (NSt bc bf pi sc sa sp s da dp ua up) v :=
  CalR.of fun w J hm hl hH hJ => by
    have h1 := immOf_ptr (hH (nObj bc bf pi sc sa sp s da dp ua up) (by simp))
    have h2 := immOf_row (hH (lnRow sc sa sp) (by simp))
    rw [← hJ] at h1 h2
    exact (h J hl ⟨h1, h2⟩).run w hm.inv (fun _ h => by cases h)
theorem n_lfind {J : Imm} {v3 v4 : Value} (n : List UInt8) (hs : sc.length ≤ 1099511627776) (h : NRd J bc bf pi sc sa sp v3 v4) : CalM Tryd.prog 156 #[ptr bc, str n] J [] (fun v _ H' => v = lcV (Sp.findLc sc n) ∧ H' = []) := by
  refine CalM.of fun w E hm => enter (N := 35) Tryd.func156 rfl [(0, ptr bc), (1, str n)] args2 rfl ?_
  obtain ⟨hp, hr⟩ := h
  repeat' (first
    | (refine m_allocS (d := 4) hm (by rfl) (by rfl) ?_; clear hm; intro b4 _ hm)
    | refine i_load1 hm (by rfl) (by rfl) (by rfl) (by assumption) (by rfl) ?_
    | refine op_move (by rfl) (by rfl) (by rfl) ?_
    | refine op_assign (by rfl) (by rfl) (by rfl) ?_
    | refine op_len_slice (by rfl) (by rfl) (by rfl) ?_
    | refine op_nilCheck (by rfl) (by rfl) (by rfl) ?_
    | refine op_sub (by rfl) (by rfl) (by rfl) (by rfl) (by omega) ?_
    | refine op_fieldAddr (by rfl) (by rfl) (by rfl) ?_
    | refine wl_nil ?_
    | refine at_then_normal ?_
    | refine wc_seq ?_
    | refine wc_region ?_
    | refine wc_block ?_)
  refine wc_loop (fun k : Nat => [(0, ptr bc), (1, str n), (4, ptr b4), (6, .int .i64 ((k : Int) - 1))]) (fun k w' => Mem E J [.cell b4 [str [], nt 0] 225] w' ∧ k ≤ sc.length ∧ Sp.findLc sc n = Sp.findLc (sc.take k) n) (fun k => k) sc.length (by exact ⟨rfl, rfl, rfl, rfl, trivial⟩) ⟨hm, Nat.le_refl _, by rw [List.take_length]⟩ ?_
  clear hm
  rintro k w1 ⟨hm, hk, hf⟩
  try dsimp only at hm hk hf ⊢
  by_cases h0 : 0 < k
  · have hg : sc[k - 1]? = some sc[k - 1] := List.getElem?_eq_getElem (by omega)
    have hcut := Sp.findLn_cut n hg
    rw [show k - 1 + 1 = k by omega] at hcut
    generalize sc[k - 1] = x at hg hcut
    rw [hcut] at hf
    have hi : sc[((k : Int) - 1).toNat]? = some x := by rw [show ((k : Int) - 1).toNat = k - 1 by omega]; exact hg
    by_cases hx : x.name = n
    · rw [if_pos hx] at hf
      repeat' (first
        | (refine i_indexFlat (d := 22) (enc := encLn) (z := x) (by rfl) (by rfl) (by rfl) (by rfl) hr (fun _ => rfl) (by omega) (by omega) hi ?_; intro b1 o1 p1)
        | (refine i_indexFlat (d := 32) (enc := encLn) (z := x) (by rfl) (by rfl) (by rfl) (by rfl) hr (fun _ => rfl) (by omega) (by omega) hi ?_; intro b2 o2 p2)
        | refine i_load1 hm (by rfl) (by rfl) (by rfl) (by assumption) (by rfl) ?_
        | refine i_loadN hm (by rfl) (by rfl) (by rfl) (by assumption) (by rfl) ?_
        | (refine m_storeAll hm (by rfl) (by rfl) (by rfl) (by rfl) (by first | exact gt0 | exact gt1 | exact gt2 | exact gt3 | exact gt4 | exact gt5 | exact gt6) (by rfl) (by rfl) (by rfl) ?_; clear hm; intro _ hm; try simp only [setn] at hm)
        | refine m_ret2_agg hm (by rfl) (by rfl) (by rfl) (by first | exact gt0 | exact gt1 | exact gt2 | exact gt3 | exact gt4 | exact gt5 | exact gt6) (by rfl) ?_
        | refine op_move (by rfl) (by rfl) (by rfl) ?_
        | refine op_assign (by rfl) (by rfl) (by rfl) ?_
        | refine op_geq (by rfl) (by rfl) (by rfl) (by rfl) ?_
        | refine op_eql_str (by rfl) (by rfl) (by rfl) (by rfl) ?_
        | refine op_nilCheck (by rfl) (by rfl) (by rfl) ?_
        | refine op_fieldAddr (by rfl) (by rfl) (by rfl) ?_
        | refine wl_nil ?_
        | refine at_then_normal ?_
        | refine at_then_ret ?_
        | refine at_block_ret ?_
        | refine wc_seq ?_
        | refine wc_region ?_
        | refine wc_block ?_
        | refine wc_skip ?_
        | refine wc_ret ?_
        | (refine wc_cond_dec (by rfl) (fun _ => ?_) (fun _ => ?_) <;> (try first | contradiction | (exfalso; omega))))
      all_goals try (exfalso; first | omega | contradiction)
      exact ⟨J, [], ⟨by rw [hf]; rfl, rfl⟩, hm.left (H := [])⟩
    · rw [if_neg hx] at hf
      repeat' (first
        | (refine i_indexFlat (d := 22) (enc := encLn) (z := x) (by rfl) (by rfl) (by rfl) (by rfl) hr (fun _ => rfl) (by omega) (by omega) hi ?_; intro b1 o1 p1)
        | refine i_load1 hm (by rfl) (by rfl) (by rfl) (by assumption) (by rfl) ?_
        | refine op_move (by rfl) (by rfl) (by rfl) ?_
        | refine op_assign (by rfl) (by rfl) (by rfl) ?_
        | refine op_geq (by rfl) (by rfl) (by rfl) (by rfl) ?_
        | refine op_eql_str (by rfl) (by rfl) (by rfl) (by rfl) ?_
        | refine op_nilCheck (by rfl) (by rfl) (by rfl) ?_
        | refine op_sub (by rfl) (by rfl) (by rfl) (by rfl) (by omega) ?_
        | refine op_fieldAddr (by rfl) (by rfl) (by rfl) ?_
        | refine wl_nil ?_
        | refine at_then_normal ?_
        | refine at_block_normal ?_
        | refine wc_seq ?_
        | refine wc_region ?_
        | refine wc_block ?_
        | refine wc_skip ?_
        | (refine wc_cond_dec (by rfl) (fun _ => ?_) (fun _ => ?_) <;> (try first | contradiction | (exfalso; omega))))
      all_goals try (exfalso; first | omega | contradiction)
      refine at_round (k - 1 : Nat) (by exact ⟨rfl, rfl, rfl, by rw [show (((k - 1 : Nat) : Int) - 1) = (k : Int) - 1 - 1 by omega]; rfl, trivial⟩) ⟨hm, by omega, hf⟩ (by omega)
  · obtain rfl : k = 0 := by omega
    repeat' (first
      | (refine m_storeAll hm (by rfl) (by rfl) (by rfl) (by rfl) (by first | exact gt0 | exact gt1 | exact gt2 | exact gt3 | exact gt4 | exact gt5 | exact gt6) (by rfl) (by rfl) (by rfl) ?_; clear hm; intro _ hm; try simp only [setn] at hm)
      | refine m_ret2_agg hm (by rfl) (by rfl) (by rfl) (by first | exact gt0 | exact gt1 | exact gt2 | exact gt3 | exact gt4 | exact gt5 | exact gt6) (by rfl) ?_
      | refine op_move (by rfl) (by rfl) (by rfl) ?_
      | refine op_assign (by rfl) (by rfl) (by rfl) ?_
      | refine op_geq (by rfl) (by rfl) (by rfl) (by rfl) ?_
      | refine op_struct (by rfl) (by rfl) (by rfl) (by rfl) ?_
      | refine wl_nil ?_
      | refine at_then_normal ?_
      | refine at_then_exit ?_
      | refine at_block_exit ?_
      | refine wc_seq ?_
      | refine wc_region ?_
      | refine wc_exit ?_
      | refine wc_ret ?_
      | refine wc_cond_false (by rfl) ?_)
    all_goals try (exfalso; omega)
    exact ⟨J, [], ⟨by rw [hf]; rfl, rfl⟩, hm.left (H := [])⟩
theorem NSt_tell (bc bf : Nat) (pi : Value) (sc : List Sp.Lc) (sa : Option Addr) (sp : Nat) (s : Sp.NW) (f e : Nat) (n : List UInt8) (da : Option Addr) (dp : Nat) (ua : Option Addr) (up : Nat) :
    [.obj bc (.cells [ptr bf, pi, .slice sa sc.length sp, .slice da (s.ds.length + 1) dp, .slice ua s.us.length up].toArray 110 (0, 0)), usRow s.us ua up, lnRow sc sa sp, .row (.slice da (s.ds.length + 1) dp) 116 4 (s.ds.length + 1) (s.ds.flatMap encDg ++ encDg ⟨f, f + n.length, e, n⟩)] = NSt bc bf pi sc sa sp (s.tell f e n) da dp ua up := by
  simp [Sp.NW.tell, List.flatMap_append]
theorem NSt_use (bc bf : Nat) (pi : Value) (sc : List Sp.Lc) (sa : Option Addr) (sp : Nat) (s : Sp.NW) (b : Int) (f : Nat) (n : List UInt8) (d : Int) (da : Option Addr) (dp : Nat) (ua : Option Addr) (up : Nat) :
    [.obj bc (.cells [ptr bf, pi, .slice sa sc.length sp, .slice da s.ds.length dp, .slice ua (s.us.length + 1) up].toArray 110 (0, 0)), .row (.slice ua (s.us.length + 1) up) 56 3 (s.us.length + 1) (s.us.flatMap encUs ++ encUs ⟨b + f, b + f + n.length, d⟩), lnRow sc sa sp, dgRow s.ds da dp] = NSt bc bf pi sc sa sp (s.use b f n d) da dp ua up := by
  simp [Sp.NW.use, List.flatMap_append]
theorem n_tell (n : List UInt8) (f e : Nat) (hf : f + n.length ≤ 1099511627776) (hd : s.n ≤ 1000000000) :
    CalM Tryd.prog 89 #[ptr bc, nt f, nt e, str n] I (NSt bc bf pi sc sa sp s da dp ua up) (ToN bc bf pi sc (s.tell f e n) (.tuple #[])) := by
  have hn : s.n = s.ds.length + s.us.length := rfl
  refine CalM.of fun w E hm => enter (N := 25) Tryd.func89 rfl [(0, ptr bc), (1, nt f), (2, nt e), (3, str n)] args4 rfl ?_
  repeat' (first
    | (refine m_push (d := 22) hm (by rfl) (by rfl) (by rfl) (by rfl) (by rfl) (by first | exact gt0 | exact gt1 | exact gt2 | exact gt3 | exact gt4 | exact gt5 | exact gt6) (by rfl) (by rfl) (by rfl) (by rfl) (by omega) (by omega) ?_; clear hm; intro a22 cp22 _ _ hm; try simp only [setn] at hm)
    | refine m_load1 hm (by rfl) (by rfl) (by rfl) (by first | exact gt0 | exact gt1 | exact gt2 | exact gt3 | exact gt4 | exact gt5 | exact gt6) (by rfl) ?_
    | (refine m_store1 hm (by rfl) (by rfl) (by rfl) (by rfl) (by first | exact gt0 | exact gt1 | exact gt2 | exact gt3 | exact gt4 | exact gt5 | exact gt6) (by rfl) (by rfl) (by rfl) ?_; clear hm; intro _ hm; try simp only [setn] at hm)
    | refine op_move (by rfl) (by rfl) (by rfl) ?_
    | refine op_len_str (by rfl) (by rfl) (by rfl) ?_
    | refine op_nilCheck (by rfl) (by rfl) (by rfl) ?_
    | refine op_add (by rfl) (by rfl) (by rfl) (by rfl) (by omega) ?_
    | refine op_fieldAddr (by rfl) (by rfl) (by rfl) ?_
    | refine op_struct (by rfl) (by rfl) (by rfl) (by rfl) ?_
    | refine wl_nil ?_
    | refine wc_region ?_
    | refine at_end0 (by rfl) ?_)
  exact ⟨I, _, ⟨rfl, _, _, _, _, _, _, NSt_tell _ _ _ _ _ _ s f e n _ _ _ _⟩, hm⟩
theorem n_use {src : List UInt8} {p : Nat} {q : List UInt8} {its : List Sp.Itm} {it : Sp.Itm} {a : Option Addr} {cp : Nat} {xs : List Value} (hC : NC I src p q its it bf a cp xs pi) (f : Nat) (n : List UInt8) (d : Int) (hst : Sp.stands q f n) (hd : s.n ≤ 1000000000) :
    CalM Tryd.prog 157 #[ptr bc, nt f, str n, .int .i64 d] I (NSt bc bf pi sc sa sp s da dp ua up) (ToN bc bf pi sc (s.use p f n d) (.tuple #[])) := by
  have hn : s.n = s.ds.length + s.us.length := rfl
  have hb := (hC.st.sub _ _ hst).1
  have hlen := hC.len
  have hat := hC.st.at_
  refine CalM.of fun w E hm => enter (N := 40) Tryd.func157 rfl [(0, ptr bc), (1, nt f), (2, str n), (3, .int .i64 d)] args4 rfl ?_
  obtain ⟨bi, oi, tci, ci, rfl, hpi, hati⟩ := hC.item
  obtain ⟨pa, pc, sa9, sc9, ba, bc9, da9, dc9, xb, rfl, _⟩ := hati
  rw [hat] at hpi
  repeat' (first
    | (refine wc_semi_mem (id := 0) (hm.perm pm1_1) 28 30 (by kernel_rfl) ?_; clear hm; intro wd hR hm)
    | refine mw_load1 hR (by rfl) (by rfl) (by rfl) (by first | exact gt0 | exact gt1 | exact gt2 | exact gt3 | exact gt4 | exact gt5 | exact gt6) (by rfl) ?_
    | refine iw_load1 hR (by rfl) (by rfl) (by rfl) (by assumption) (by rfl) ?_
    | (refine mt_push (d := 37) hm (by rfl) (by rfl) (by rfl) (by rfl) (by rfl) (by first | exact gt0 | exact gt1 | exact gt2 | exact gt3 | exact gt4 | exact gt5 | exact gt6) (by rfl) (by rfl) (by rfl) (by rfl) (by omega) (by omega) ?_; clear hm; intro a37 cp37 _ _ hm; replace hm := hR.back hm; clear hR; try simp only [setn] at hm)
    | (refine m_store1 hm (by rfl) (by rfl) (by rfl) (by rfl) (by first | exact gt0 | exact gt1 | exact gt2 | exact gt3 | exact gt4 | exact gt5 | exact gt6) (by rfl) (by rfl) (by rfl) ?_; clear hm; intro _ hm; try simp only [setn] at hm)
    | refine op_nilCheck (by rfl) (by rfl) (by rfl) ?_
    | refine op_fieldAddr (by rfl) (by rfl) (by rfl) ?_
    | refine wl_nil ?_
    | refine at_end0 (by rfl) ?_
    | refine v_move (by rfl) (by rfl) (by rfl) ?_
    | refine v_len_str (by rfl) (by rfl) (by rfl) ?_
    | refine v_nilCheck (by rfl) (by rfl) (by rfl) ?_
    | refine v_add (by rfl) (by rfl) (by rfl) (by rfl) (by omega) ?_
    | refine v_fieldAddr (by rfl) (by rfl) (by rfl) ?_
    | refine v_struct (by rfl) (by rfl) (by rfl) (by rfl) ?_
    | refine wv_nil ?_)
  all_goals try (exfalso; omega)
  exact ⟨I, _, ⟨rfl, _, _, _, _, _, _, NSt_use _ _ _ _ _ _ s p f n d _ _ _ _⟩, hm.swap⟩
end
end Go.Proofs.YtkbiakajlfmakaaDoor
end
