/- Own work: texts EfC, one behind the other. -/
import Derived.Test.YthmdffgiockcbaaGreatDoorRb28
section
namespace Go.Sp
theorem findsE_step {its : List Itm} {l : List Nm} {j : Nat} {x : Nm} (h : l[j]? = some x) : findsE its (l.take (j + 1)) = findsE its (l.take j) ++ (findIt its 2 x).toList := by
  rw [take_succ_get h, findsE, List.filterMap_append, findsE]
  cases hf : findIt its 2 x <;> simp [hf]
theorem findsE_len (its : List Itm) (l : List Nm) : (findsE its l).length ≤ l.length := List.length_filterMap_le _ _
theorem ownE_len (it : Itm) : (ownE it).1.length + (ownE it).2.length ≤ stmsCnt it.body := by
  have := stmsE_n it.body ([], [])
  simpa [ownE] using this.2
theorem more_iff {its : List Itm} {r rows : List (List Nm)} {i : Nat} {b : Bool} (hr : RowsE its r) (hq : RowsE its rows) (hle : LeE r rows) (hi : i < rows.length) (hb : b = true ↔ rows ≠ r) :
    ((b || decide (((rows.getD i []).length : Int) < ((rowE its rows i).length : Int))) = true) ↔ stepE its rows i ≠ r := by
  obtain ⟨h1, h2⟩ := hq.step i
  have hg : (stepE its rows i).getD i [] = rowE its rows i := getD_set_self hi
  by_cases hb1 : b = true
  · have hne := hb.1 hb1
    simp only [hb1, Bool.true_or, true_iff]
    intro e
    rw [e] at h2
    exact hne (leE_same hr hq hle h2).symm
  · have he : rows = r := Classical.byContradiction fun h => hb1 (hb.2 h)
    have hb0 : b = false := by simpa using hb1
    simp only [hb0, Bool.false_or, decide_eq_true_eq]
    constructor
    · intro h e
      rw [e, ← he] at hg
      rw [hg] at h
      exact Int.lt_irrefl _ h
    · intro h
      have hs : ∀ x ∈ rows.getD i [], x ∈ rowE its rows i := fun x hx => (rowE_mem hq i x).2 (.inl hx)
      have hss : Srt (rowE its rows i) := by rw [← hg]; exact (h1.getD i).1
      have hl := srt_len (hq.getD i).1 hs
      rcases Nat.lt_or_ge (rows.getD i []).length (rowE its rows i).length with h3 | h3
      · exact Int.ofNat_lt.2 h3
      · refine absurd ?_ h
        have e2 := srt_same (hq.getD i).1 hss hs h3
        rw [stepE, ← e2, ← he]
        exact List.ext_getElem? fun j => by
          by_cases hij : i = j
          · subst hij; rw [List.getElem?_set_self hi, List.getD_eq_getElem?_getD, List.getElem?_eq_getElem hi]; rfl
          · rw [List.getElem?_set_ne hij]
theorem range_step {α : Type} (f : Nat → α) (k : Nat) : (List.range (k + 1)).map f = (List.range k).map f ++ [f k] := by rw [List.range_succ, List.map_append]; rfl
end Go.Sp
namespace Go.Proofs.YthmdffgiockcbaaGreatDoor
open Go.Fw
theorem z_strs : Zero1 Tryz.prog 173 sl0 := ⟨by kernel_rfl, rfl⟩
theorem z_ints : Zero1 Tryz.prog 39 sl0 := ⟨by kernel_rfl, rfl⟩
abbrev OutR (ob n : Nat) (cs : List Value) : HItem := .row (.slice (some ⟨ob, 0, none⟩) n n) 173 1 n cs
abbrev ClsR (cb n : Nat) (cs : List Value) : HItem := .row (.slice (some ⟨cb, 0, none⟩) n n) 39 1 n cs
abbrev intRow (l : List Nat) (a : Option Addr) (cp : Nat) : HItem := .row (.slice a l.length cp) 3 1 l.length (l.flatMap encInt)
abbrev triS (t : Tri (List UInt8)) : HItem := strRow t.1 t.2.1 t.2.2
abbrev triN (t : Tri Nat) : HItem := intRow t.1 t.2.1 t.2.2
theorem e_add2 (I : Imm) (l : List (List UInt8)) (a : Option Addr) (cp : Nat) (s : List UInt8) (hs : Sp.Srt l) (hn : l.length ≤ 1000000000) (h0 : s = [] ∨ s ∈ l) :
    CalM Tryz.prog 136 #[.slice a l.length cp, str s] I [strRow l a cp] (fun v _ H' => v = .slice a l.length cp ∧ H' = [strRow l a cp]) := by
  refine CalM.of fun w E hm => enter (N := 24) Tryz.func136 rfl [(0, .slice a l.length cp), (1, str s)] args2 rfl ?_
  have hS := e_search I l a cp s hs hn
  by_cases hm1 : s ∈ l
  · rw [decide_eq_true hm1] at hS
    repeat' (first|(refine m_readC (d:=10) hm (hc:=hS) (k:=?_); clear hm; intro _ hm)|refine op_move (k:=?_)|refine op_assign (k:=?_)|refine op_pick_true (k:=?_)|refine op_extract (k:=?_)|refine wl_skip (k:=?_)|refine wl_nil ?_|refine at_then_normal ?_|refine at_then_ret ?_|refine wc_seq ?_|refine wc_region ?_|refine wc_ret ?_|refine at_ret1 (h:=?_)|refine wc_cond_true (ht:=?_))
    all_goals try (exfalso; first | omega | contradiction)
    exact ⟨I, _, ⟨rfl, rfl⟩, hm⟩
  · rw [decide_eq_false hm1] at hS
    have hs0 : s = [] := h0.resolve_right hm1
    subst hs0
    repeat' (first|(refine m_readC (d:=10) hm (hc:=hS) (k:=?_); clear hm; intro _ hm)|refine op_move (k:=?_)|refine op_assign (k:=?_)|refine op_pick_false (k:=?_)|refine op_eql_str (k:=?_)|refine op_extract (k:=?_)|refine wl_nil ?_|refine at_then_normal ?_|refine at_then_ret ?_|refine wc_seq ?_|refine wc_region ?_|refine wc_ret ?_|refine at_ret1 (h:=?_)|refine wc_cond_true (ht:=?_))
    all_goals try (exfalso; first | omega | contradiction)
    exact ⟨I, _, ⟨rfl, rfl⟩, hm⟩
structure EaX where
  k : Nat
  I : Imm
  T : List (Tri (List UInt8))
  U : List (Tri Nat)
theorem _root_.Go.Fw.mid1_get {L : List Value} {k : Nat} {v : Value} {r : List Value} (h : L.length = k) : (L ++ (v :: r))[k]? = some v := by
  subst h; rw [List.getElem?_append_right (Nat.le_refl _), Nat.sub_self]; rfl
theorem _root_.Go.Fw.mid1_set {L : List Value} {k : Nat} {v u : Value} {r : List Value} (h : L.length = k) : (L ++ (v :: r)).set k u = L ++ (u :: r) := by
  subst h; rw [List.set_append, if_neg (Nat.lt_irrefl _), Nat.sub_self]; rfl
structure EcX where
  k : Nat
  I : Imm
  c : Tri Nat
theorem _root_.Go.Fw.flat_tri {α : Type} : ∀ (U : List (Tri α)), U.flatMap (fun t => [triV t]) = U.map triV
  | [] => rfl
  | t :: U => by rw [List.flatMap_cons, flat_tri U]; rfl
theorem _root_.Go.Fw.flatS_get {l : List (List UInt8)} {j : Nat} {s : List UInt8} (h : l[j]? = some s) : (l.flatMap encS)[j]? = some (str s) := by
  rw [flat_one, List.getElem?_map, h]; rfl
theorem _root_.Go.Fw.pmEa {x y o c : HItem} {A B : List HItem} : (x :: y :: o :: c :: (A ++ B)).Perm (o :: c :: ((A ++ [x]) ++ (B ++ [y]))) := by
  have h1 : (x :: y :: o :: c :: (A ++ B)).Perm ([o, c] ++ ([x, y] ++ (A ++ B))) := (List.perm_append_comm (l₁ := [x, y]) (l₂ := [o, c])).append_right (A ++ B)
  have h2 : ([x, y] ++ (A ++ B)).Perm ((A ++ [x]) ++ (B ++ [y])) := by
    rw [show [x, y] ++ (A ++ B) = [x] ++ ([y] ++ (A ++ B)) from rfl]
    have a1 : ([y] ++ (A ++ B)).Perm (A ++ (B ++ [y])) := by
      rw [← List.append_assoc A B [y]]; exact List.perm_append_comm
    have a2 : ([x] ++ (A ++ (B ++ [y]))).Perm (A ++ ([x] ++ (B ++ [y]))) := List.perm_append_comm_assoc _ _ _
    rw [List.append_assoc A [x]]
    exact (a1.append_left [x]).trans a2
  exact h1.trans (h2.append_left [o, c])
theorem _root_.Go.Fw.pmEc {c cl o : HItem} {A : List HItem} {B : List HItem} : (c :: cl :: o :: (A ++ B)).Perm (o :: cl :: (A ++ (B ++ [c]))) := by
  have h1 : (c :: cl :: o :: (A ++ B)).Perm ([o, cl] ++ (A ++ B) ++ [c]) := by
    refine (List.perm_append_comm (l₁ := [c]) (l₂ := cl :: o :: (A ++ B))).trans ?_
    exact (List.Perm.swap _ _ _).append_right [c]
  rw [List.append_assoc, List.append_assoc] at h1
  exact h1
theorem _root_.Go.Fw.pmEb {s o cl : HItem} {A : List HItem} {B : List HItem} : (s :: o :: cl :: (A ++ B)).Perm (cl :: o :: ((A ++ [s]) ++ B)) := by
  have h1 : (s :: o :: cl :: (A ++ B)).Perm (cl :: o :: (s :: (A ++ B))) := by
    refine (List.perm_append_comm (l₁ := [s]) (l₂ := o :: cl :: (A ++ B))).trans ?_
    refine (List.Perm.swap _ _ _).trans ?_
    exact ((List.perm_append_comm (l₁ := A ++ B) (l₂ := [s])).cons o).cons cl
  refine h1.trans (((?_ : (s :: (A ++ B)).Perm ((A ++ [s]) ++ B)).cons o).cons cl)
  rw [List.append_assoc]; exact List.perm_append_comm_assoc [s] A B
theorem e_add3 (I : Imm) (u : Tri (List UInt8)) (s : List UInt8) (hs : Sp.Srt u.1) (hn : u.1.length ≤ 1000000000) :
    CalM Tryz.prog 136 #[triV u, str s] I [triS u] (fun v _ H' => ∃ u' : Tri (List UInt8), u'.1 = Sp.addE u.1 s ∧ (s = [] ∨ s ∈ u.1 → u' = u) ∧ v = triV u' ∧ H' = [triS u']) := by
  by_cases h0 : s = [] ∨ s ∈ u.1
  · refine (e_add2 I u.1 u.2.1 u.2.2 s hs hn h0).mono (fun v J H' _ hp => ?_)
    obtain ⟨rfl, rfl⟩ := hp
    exact ⟨u, (Sp.addE_same h0).symm, fun _ => rfl, rfl, rfl⟩
  · refine (e_add I u.1 u.2.1 u.2.2 s hs hn).mono (fun v J H' _ hp => ?_)
    obtain ⟨a, cp, rfl, rfl⟩ := hp
    exact ⟨(Sp.addE u.1 s, a, cp), rfl, fun h => absurd h h0, rfl, rfl⟩
theorem frzU {E : Ent} {w : World} {R : List HItem} : ∀ (U : List (Tri Nat)) {I : Imm}, Mem E I (U.map triN ++ R) w → ∃ J, Le I J ∧ Mem E J R w ∧ ∀ t ∈ U, RowI J 3 1 (triV t) t.1.length (t.1.flatMap encInt)
  | [], I, hm => ⟨I, Le.refl _, hm, fun _ h => by cases h⟩
  | t :: U, I, hm => by
    obtain ⟨I1, l1, m1, r1⟩ := Mem.freeze (H := U.map triN ++ R) hm
    obtain ⟨I2, l2, m2, h2⟩ := frzU U m1
    refine ⟨I2, l1.trans l2, m2, fun x hx => ?_⟩
    rcases List.mem_cons.1 hx with rfl | hx
    · exact r1.le l2
    · exact h2 x hx
structure ErX where
  I : Imm
  T : List (Tri (List UInt8))
  b : Bool
structure EiX where
  k : Nat
  I : Imm
  T : List (Tri (List UInt8))
  b : Bool
structure EjX where
  k : Nat
  I : Imm
  t : Tri (List UInt8)
set_option maxHeartbeats 16000000 in
theorem e_all {its : List Sp.Itm} (I : Imm) (a : Option Addr) (cp : Nat) (xs : List Value) (hfe : FE I its a cp xs) (hsm : ∀ it ∈ its, it.fit ∧ Sp.stmsCnt it.body ≤ 400000000) (hN : (Sp.namesE its).length ≤ 1000000000) :
    CalM Tryz.prog 112 #[.agg [.slice a its.length cp].toArray] I [] (fun v _ H' => ∃ (ob : Nat) (T : List (Tri (List UInt8))), T.map (·.1) = Sp.allsE its ∧ v = .slice (some ⟨ob, 0, none⟩) its.length its.length ∧ H' = OutR ob its.length (T.map triV) :: T.map triS) := by
  refine CalM.of fun w E hm => enter (N := 122) Tryz.func112 rfl [(0, .agg [.slice a its.length cp].toArray)] args1 rfl ?_
  have hfew := hfe.few
  repeat' (first|refine wc_hold 1 ?_|(refine m_box (d:=1) hm (k:=?_); clear hm; intro b1 _ hm)|refine op_assign (k:=?_)|refine wl_nil ?_|refine at_then_normal ?_|refine wc_seq ?_|refine wc_region ?_)
  all_goals try (exfalso; omega)
  obtain ⟨I1, hle1, hm1, hpf⟩ := hm.freezeO
  clear hm
  have hm := hm1
  clear hm1
  have hpf1 := hpf
  refine ⟨?_⟩
  repeat' (first|(refine m_makeSlice (d := 22) sl0 z_strs hm (by rfl) (by rfl) (by rfl) (by rfl) (by omega) (by rfl) ?_; clear hm; intro ob _ hm)|(refine m_makeSlice (d := 26) sl0 z_ints hm (by rfl) (by rfl) (by rfl) (by rfl) (by omega) (by rfl) ?_; clear hm; intro cb _ hm)|refine i_load1 hm (k:=?_)|refine op_move (k:=?_)|refine op_assign (k:=?_)|refine op_len_slice (k:=?_)|refine op_fieldAddr (k:=?_)|refine wl_nil ?_|refine at_then_normal ?_|refine wc_seq ?_|refine wc_region ?_|refine wc_block ?_)
  all_goals try (exfalso; omega)
  have hm := hm.swap
  refine wc_loop (fun x : EaX => [(1, ptr b1), (3, .slice (some ⟨ob, 0, none⟩) its.length its.length), (4, .slice (some ⟨cb, 0, none⟩) its.length its.length), (28, .slice a its.length cp), (29, nt its.length), (30, nt x.k)])
    (fun x w' => Mem E x.I (OutR ob its.length (padV (x.T.map triV) (its.length - x.k)) :: ClsR cb its.length (padV (x.U.map triV) (its.length - x.k)) :: (x.T.map triS ++ x.U.map triN)) w' ∧ Le I1 x.I ∧
      x.T.map (·.1) = (List.range x.k).map (Sp.initE its) ∧ x.U.map (·.1) = (List.range x.k).map (Sp.callsE its) ∧ x.k ≤ its.length)
    (fun x => its.length - x.k) ⟨0, I1, [], []⟩ (by exact ⟨rfl, rfl, rfl, rfl, rfl, rfl, trivial⟩) ⟨by simpa [padV] using hm, Le.refl _, rfl, rfl, Nat.zero_le _⟩ ?_
  clear hm hpf
  rintro ⟨k, I2, T, U⟩ w2 ⟨hm, hle2, hT, hU, hk⟩
  dsimp only at hm hle2 hT hU hk ⊢
  have hTl : T.length = k := by have := congrArg List.length hT; simpa using this
  have hUl : U.length = k := by have := congrArg List.length hU; simpa using this
  have hpf2 := hpf1.le hle2
  by_cases hlt : k < its.length
  · obtain ⟨m, hmm⟩ : ∃ m, its.length - k = m + 1 := ⟨its.length - k - 1, by omega⟩
    have hmm2 : its.length - (k + 1) = m := by omega
    rw [hmm] at hm
    have hg : its[k]? = some its[k] := List.getElem?_eq_getElem hlt
    have hno : Sp.itNo its k = its[k] := by rw [Sp.itNo, List.getD_eq_getElem?_getD, hg]; rfl
    obtain ⟨hs1, hs2⟩ := hsm _ (List.getElem_mem hlt)
    obtain ⟨cs, hcs, hat, hl10⟩ := ((hfe.le hle1).le hle2).get hg
    have hri := ((hfe.le hle1).le hle2).row
    generalize its[k] = it at hg hno hs1 hs2 hat
    have hiE : Sp.initE its k = if it.kind = 2 then (Sp.ownE it).1 else [] := by rw [Sp.initE, hno]
    have hcE : Sp.callsE its k = if it.kind = 2 then Sp.findsE its (Sp.ownE it).2 else [] := by rw [Sp.callsE, hno]
    have hO := e_own it hs1 hs2 I2 cs hat
    have hol := Sp.ownE_len it
    obtain ⟨ap, cp', as_, cs', ab, cb', ad, cd, xb, rfl, _, _, _, _, _⟩ := hat
    have hfo : (0 : Nat) + (k : Int).toNat * 1 = k := by rw [Int.toNat_natCast]; omega
    by_cases k2 : it.kind = 2
    · rw [if_pos k2] at hiE hcE
      repeat' (first|(refine i_indexAddr (d:=33) (hr:=hri) (k:=?_); intro bt ot hpt; rw [show ((k : Int).toNat * 10) = k * 10 from rfl, hcs] at hpt)|(refine i_loadN (d:=34) hm (hp:=hpt) (hc:=by exact hl10) (k:=?_))|(refine m_call (d:=40) hm (hc:=hO) (k:=?_); clear hm; rintro _ I3 _ _ ⟨sa, sp, ca, cq, rfl, rfl⟩ hle hm; have hleI3 := hle; try simp only [setn] at hm)|(refine mi_storeRow (i := 3) hm (by rfl) (by rfl) (by rfl) (by rfl) (by rfl) (by rfl) (by rfl) (by simp; omega) ?_; clear hm; intro w3 hm; rw [hfo] at hm; simp only [setn] at hm)|refine wc_hold 9 ?_|(refine m_allocS (d:=6) hm (k:=?_); clear hm; intro b6 _ hm)|refine m_load1 hm (k:=?_)|refine m_loadAll hm (k:=?_)|(refine m_storeAll hm (k:=?_); clear hm; intro _ hm; try simp only [setn] at hm)|refine op_move (k:=?_)|refine op_assign (k:=?_)|refine op_lss (k:=?_)|refine op_neq (k:=?_)|refine op_extract (k:=?_)|refine op_fieldAddr (k:=?_)|refine op_indexAddr (k:=?_)|refine wl_nil ?_|refine at_then_normal ?_|refine wc_seq ?_|refine wc_region ?_|refine wc_block ?_|refine wc_skip ?_|(refine wc_cond_dec (ht:=fun _ => ?_) (hf:=fun _ => ?_)<;> (try first | contradiction | (exfalso; omega))))
      all_goals try (exfalso; omega)
      obtain ⟨I4, hle4, hm4, hrc⟩ := hm.swap.freeze
      have hm5 := (hm4.swap.tl.perm pmEb).nil 3 1
      clear hm hm4
      rw [padV_set (by rw [List.length_map, hTl])] at hm5
      obtain ⟨T', hT'⟩ : ∃ T', T' = T ++ [((Sp.ownE it).1, sa, sp)] := ⟨_, rfl⟩
      have hT2 : T'.map (·.1) = (List.range (k + 1)).map (Sp.initE its) := by rw [hT', List.map_append, hT, Sp.range_step, hiE]; rfl
      have hm : Mem E I4 (triN Tri.nil :: ClsR cb its.length (U.map triV ++ (triV (α := Nat) Tri.nil :: List.replicate m sl0)) :: OutR ob its.length (padV (T'.map triV) m) :: (T'.map triS ++ U.map triN)) w3 := by
        rw [hT', List.map_append, List.map_append]; exact hm5
      clear hm5 hT'
      have hpf3 := hpf2.le (hleI3.trans hle4)
      have hfe3 := ((hfe.le hle1).le hle2).le (hleI3.trans hle4)
      generalize (Sp.ownE it).2 = called at hrc hcE hol
      refine ⟨?_⟩
      repeat' (first|refine op_move (k:=?_)|refine op_len_slice (k:=?_)|refine wl_nil ?_|refine at_then_normal ?_|refine wc_region ?_|refine wc_block ?_)
      all_goals try (exfalso; omega)
      refine wc_loop (fun x : EcX => [(1, ptr b1), (3, .slice (some ⟨ob, 0, none⟩) its.length its.length), (4, .slice (some ⟨cb, 0, none⟩) its.length its.length), (5, nt k), (28, .slice a its.length cp), (29, nt its.length), (30, nt k), (47, .slice ca called.length cq), (48, nt called.length), (49, nt x.k)])
        (fun x w' => Mem E x.I (triN x.c :: ClsR cb its.length (U.map triV ++ (triV x.c :: List.replicate m sl0)) :: OutR ob its.length (padV (T'.map triV) m) :: (T'.map triS ++ U.map triN)) w' ∧ Le I4 x.I ∧ x.c.1 = Sp.findsE its (called.take x.k) ∧ x.k ≤ called.length)
        (fun x => called.length - x.k) ⟨0, I4, Tri.nil⟩ (by exact ⟨rfl, rfl, rfl, rfl, rfl, rfl, rfl, rfl, rfl, rfl, trivial⟩) ⟨hm, Le.refl _, by dsimp only; rw [List.take_zero]; rfl, Nat.zero_le _⟩ ?_
      clear hm
      rintro ⟨j, I5, c, ca5, cq5⟩ w5 ⟨hm, hle5, hc, hj⟩
      dsimp only at hm hle5 hc hj ⊢
      have hpf4 := hpf3.le hle5
      change Mem E I5 (intRow c ca5 cq5 :: ClsR cb its.length (U.map triV ++ (.slice ca5 c.length cq5 :: List.replicate m sl0)) :: OutR ob its.length (padV (T'.map triV) m) :: (T'.map triS ++ U.map triN)) w5 at hm
      have hget := fun (v : Value) (r : List Value) => Go.Fw.mid1_get (v := v) (r := r) (show (U.map triV).length = k by rw [List.length_map, hUl])
      have hset := fun (v u : Value) (r : List Value) => Go.Fw.mid1_set (v := v) (u := u) (r := r) (show (U.map triV).length = k by rw [List.length_map, hUl])
      by_cases hjl : j < called.length
      · have hgj : called[j]? = some called[j] := List.getElem?_eq_getElem hjl
        have hst := Sp.findsE_step (its := its) hgj
        have hcl := Sp.findsE_len its (called.take j)
        rw [← hc, List.length_take] at hcl
        generalize called[j] = nm at hgj hst
        have hF := (n_find 2 nm its I5 a cp xs (hfe3.le hle5)).read
        have hrc5 := hrc.le hle5
        cases hf : Sp.findIt its 2 nm with
        | some i =>
          rw [show Sp.findV its 2 nm = (i : Int) by rw [Sp.findV, hf]] at hF
          repeat' (first|(refine i_indexFlat (d:=51) (enc:=encS) (z:=nm) (hr:=hrc5) (he:=fun _ => rfl) (hz:=by exact hgj) (k:=?_); intro bz oz hpz)|(refine m_readC (d:=55) hm (hc:=hF) (k:=?_); clear hm; intro _ hm)|(refine mi_loadRow (i := 1) (d := 63) hm (by rfl) (by rfl) (by rfl) (by rfl) (by rw [hfo]; exact hget _ _) ?_)|(refine mi_storeRow (i := 1) hm (by rfl) (by rfl) (by rfl) (by rfl) (by rfl) (by rfl) (by rfl) (by simp; omega) ?_; clear hm; intro _ hm; rw [hfo, hset] at hm; simp only [setn] at hm)|(refine m_push (d:=66) hm (k:=?_); clear hm; intro a66 cp66 _ _ hm; try simp only [setn] at hm)|refine i_loadN hm (k:=?_)|refine i_load1z hm (k:=?_)|refine op_move (k:=?_)|refine op_assign (k:=?_)|refine op_lss (k:=?_)|refine op_geq (k:=?_)|refine op_add (k:=?_)|refine op_indexAddr (k:=?_)|refine wl_nil ?_|refine at_then_normal ?_|refine at_block_normal ?_|refine wc_seq ?_|refine wc_region ?_|refine wc_block ?_|refine wc_skip ?_|refine wc_cond_true (ht:=?_)|(refine wc_cond_dec (ht:=fun _ => ?_) (hf:=fun _ => ?_)<;> (try first | contradiction | (exfalso; omega))))
          all_goals try (exfalso; omega)
          refine at_round (⟨j + 1, I5, c ++ [i], a66, cp66⟩ : EcX) (by exact ⟨rfl, rfl, rfl, rfl, rfl, rfl, rfl, rfl, rfl, rfl, trivial⟩) ⟨?_, hle5, ?_, by dsimp only; omega⟩ (by dsimp only; omega)
          · dsimp only [triN, triV, intRow]
            rw [List.flatMap_append, List.length_append]
            exact hm
          · dsimp only; rw [hst, hf, ← hc]; rfl
        | none =>
          rw [show Sp.findV its 2 nm = -1 by rw [Sp.findV, hf]] at hF
          repeat' (first|(refine i_indexFlat (d:=51) (enc:=encS) (z:=nm) (hr:=hrc5) (he:=fun _ => rfl) (hz:=by exact hgj) (k:=?_); intro bz oz hpz)|(refine m_readC (d:=55) hm (hc:=hF) (k:=?_); clear hm; intro _ hm)|refine i_loadN hm (k:=?_)|refine i_load1z hm (k:=?_)|refine op_move (k:=?_)|refine op_assign (k:=?_)|refine op_lss (k:=?_)|refine op_geq (k:=?_)|refine op_add (k:=?_)|refine wl_nil ?_|refine at_then_normal ?_|refine at_block_normal ?_|refine wc_seq ?_|refine wc_region ?_|refine wc_block ?_|refine wc_skip ?_|refine wc_cond_false (hf:=?_)|(refine wc_cond_dec (ht:=fun _ => ?_) (hf:=fun _ => ?_)<;> (try first | contradiction | (exfalso; omega))))
          all_goals try (exfalso; omega)
          refine at_round (⟨j + 1, I5, c, ca5, cq5⟩ : EcX) (by exact ⟨rfl, rfl, rfl, rfl, rfl, rfl, rfl, rfl, rfl, rfl, trivial⟩) ⟨hm, hle5, ?_, by dsimp only; omega⟩ (by dsimp only; omega)
          dsimp only; rw [hst, hf, ← hc]; simp
      · obtain rfl : j = called.length := by omega
        rw [List.take_length, ← hcE] at hc
        repeat' (first|refine op_move (k:=?_)|refine op_lss (k:=?_)|refine op_add (k:=?_)|refine wl_nil ?_|refine at_then_normal ?_|refine at_then_exit ?_|refine at_block_normal ?_|refine at_block_exit ?_|refine wc_seq ?_|refine wc_region ?_|refine wc_exit ?_|(refine wc_cond_dec (ht:=fun _ => ?_) (hf:=fun _ => ?_)<;> (try first | contradiction | (exfalso; omega))))
        all_goals try (exfalso; omega)
        refine at_round (⟨k + 1, I5, T', U ++ [(c, ca5, cq5)]⟩ : EaX) (by exact ⟨rfl, rfl, rfl, rfl, rfl, rfl, trivial⟩) ⟨?_, (hle2.trans (hleI3.trans hle4)).trans hle5, hT2, ?_, by dsimp only; omega⟩ (by dsimp only; omega)
        · dsimp only
          rw [hmm2]
          have h := hm.perm pmEc
          simp only [List.map_append]
          rw [show List.map (triV (α := Nat)) U ++ (triV (c, ca5, cq5) :: List.replicate m sl0) = padV (List.map triV U ++ [triV (c, ca5, cq5)]) m by rw [padV, List.append_assoc]; rfl] at h
          exact h
        · dsimp only; rw [List.map_append, hU, Sp.range_step, ← hc]; rfl
    · rw [if_neg k2] at hiE hcE
      repeat' (first|(refine i_indexAddr (d:=33) (hr:=hri) (k:=?_); intro bt ot hpt; rw [show ((k : Int).toNat * 10) = k * 10 from rfl, hcs] at hpt)|(refine i_loadN (d:=34) hm (hp:=hpt) (hc:=by exact hl10) (k:=?_))|(refine m_allocS (d:=6) hm (k:=?_); clear hm; intro b6 _ hm)|refine m_load1 hm (k:=?_)|(refine m_storeAll hm (k:=?_); clear hm; intro _ hm; try simp only [setn] at hm)|refine op_move (k:=?_)|refine op_assign (k:=?_)|refine op_lss (k:=?_)|refine op_neq (k:=?_)|refine op_add (k:=?_)|refine op_fieldAddr (k:=?_)|refine wl_nil ?_|refine at_then_normal ?_|refine at_then_exit ?_|refine at_block_exit ?_|refine wc_seq ?_|refine wc_region ?_|refine wc_block ?_|refine wc_skip ?_|refine wc_exit ?_|(refine wc_cond_dec (ht:=fun _ => ?_) (hf:=fun _ => ?_)<;> (try first | contradiction | (exfalso; omega))))
      all_goals try (exfalso; omega)
      refine at_round (⟨k + 1, I2, T ++ [Tri.nil], U ++ [Tri.nil]⟩ : EaX) (by exact ⟨rfl, rfl, rfl, rfl, rfl, rfl, trivial⟩) ⟨?_, hle2, ?_, ?_, by dsimp only; omega⟩ (by dsimp only; omega)
      · dsimp only
        rw [hmm2]
        have h := ((hm.tl.nil 3 1).nil 9 1).perm pmEa
        rw [padV_skip, padV_skip] at h
        simp only [List.map_append]
        exact h
      · dsimp only; rw [List.map_append, hT, Sp.range_step, hiE]; rfl
      · dsimp only; rw [List.map_append, hU, Sp.range_step, hcE]; rfl
  · obtain rfl : k = its.length := by omega
    rw [Nat.sub_self, padV, padV, List.replicate_zero, List.append_nil, List.append_nil] at hm
    repeat' (first|refine op_assign (k:=?_)|refine op_lss (k:=?_)|refine wl_nil ?_|refine at_then_normal ?_|refine at_then_exit ?_|refine at_block_exit ?_|refine wc_seq ?_|refine wc_region ?_|refine wc_block ?_|refine wc_exit ?_|(refine wc_cond_dec (ht:=fun _ => ?_) (hf:=fun _ => ?_)<;> (try first | contradiction | (exfalso; omega))))
    all_goals try (exfalso; omega)
    have hT0 : T.map (·.1) = Sp.initsE its := by rw [hT, Sp.initsE]
    have hmU : Mem E I2 (ClsR cb its.length (U.map triV) :: (U.map triN ++ (OutR ob its.length (T.map triV) :: T.map triS))) w2 := hm.perm (by
      refine (List.Perm.swap _ _ _).trans (List.Perm.cons _ ?_)
      exact (List.perm_append_comm (l₁ := OutR ob its.length (T.map triV) :: T.map triS) (l₂ := U.map triN)))
    obtain ⟨I3, hle3, hm3, hcls⟩ := hmU.freeze
    obtain ⟨I4, hle4, hm4, hint⟩ := frzU U hm3
    clear hm hmU hm3
    replace hcls := hcls.le hle4
    have hmO := hm4
    clear hm4
    have hfe4 : Le I2 I4 := hle3.trans hle4
    refine wc_loop (fun x : ErX => [(3, .slice (some ⟨ob, 0, none⟩) its.length its.length), (4, .slice (some ⟨cb, 0, none⟩) its.length its.length), (12, .bool x.b)])
      (fun x w' => Mem E x.I (OutR ob its.length (x.T.map triV) :: x.T.map triS) w' ∧ Le I4 x.I ∧ Sp.RowsE its (x.T.map (·.1)) ∧ Sp.iterE its (Sp.topE its + 1) (x.T.map (·.1)) = Sp.allsE its ∧ (x.b = false → Sp.roundE its (x.T.map (·.1)) = x.T.map (·.1)))
      (fun x => if x.b then (Sp.topE its - Sp.sumE (x.T.map (·.1))) + 1 else 0) ⟨I4, T, true⟩ (by exact ⟨rfl, rfl, rfl, trivial⟩) ⟨hmO, Le.refl _, by dsimp only; rw [hT0]; exact Sp.rowsE_init its, by dsimp only; rw [hT0]; exact (Sp.allsE_eq its).symm, fun h => by cases h⟩ ?_
    clear hmO hT hT0 hTl T
    rintro ⟨I5, T, b⟩ w5 ⟨hm, hle5, hR, hit, hfix⟩
    dsimp only at hm hle5 hR hit hfix ⊢
    cases b with
    | false =>
      repeat' (first|refine op_move (k:=?_)|refine op_assign (k:=?_)|refine wl_nil ?_|refine at_then_normal ?_|refine at_then_exit ?_|refine at_block_exit ?_|refine wc_seq ?_|refine wc_region ?_|refine wc_exit ?_|refine wc_ret ?_|refine at_ret1 (h:=?_)|refine wc_cond_false (hf:=?_))
      all_goals try (exfalso; omega)
      refine ⟨I5, _, ⟨ob, T, ?_, rfl, rfl⟩, hm⟩
      rw [← hit, Sp.iterE_fix (hfix rfl)]
    | true =>
      repeat' (first|refine op_move (k:=?_)|refine op_assign (k:=?_)|refine op_len_slice (k:=?_)|refine wl_nil ?_|refine at_then_normal ?_|refine wc_seq ?_|refine wc_region ?_|refine wc_block ?_|refine wc_skip ?_|refine wc_cond_true (ht:=?_))
      all_goals try (exfalso; omega)
      have hclsT : RowI I4 39 1 (.slice (some ⟨cb, 0, none⟩) its.length its.length) its.length (U.flatMap (fun t => [triV t])) := by rw [flat_tri]; exact hcls
      refine wc_loop (fun x : EiX => [(3, .slice (some ⟨ob, 0, none⟩) its.length its.length), (4, .slice (some ⟨cb, 0, none⟩) its.length its.length), (12, .bool x.b), (72, nt its.length), (73, nt x.k)])
        (fun x w' => Mem E x.I (OutR ob its.length (x.T.map triV) :: x.T.map triS) w' ∧ Le I5 x.I ∧ x.T.map (·.1) = (List.range x.k).foldl (Sp.stepE its) (T.map (·.1)) ∧ (x.b = true ↔ x.T.map (·.1) ≠ T.map (·.1)) ∧ x.k ≤ its.length)
        (fun x => its.length - x.k) ⟨0, I5, T, false⟩ (by exact ⟨rfl, rfl, rfl, rfl, rfl, trivial⟩) ⟨hm, Le.refl _, rfl, by simp, Nat.zero_le _⟩ ?_
      clear hm
      rintro ⟨i, I6, S, b⟩ w6 ⟨hm, hle6, hS, hb, hi⟩
      dsimp only at hm hle6 hS hb hi ⊢
      obtain ⟨hRS, hLS⟩ : Sp.RowsE its (S.map (·.1)) ∧ Sp.LeE (T.map (·.1)) (S.map (·.1)) := by rw [hS]; exact hR.folds _
      have hSl : S.length = its.length := by have := hRS.len; simpa using this
      by_cases hil : i < its.length
      · have hgS : S[i]? = some S[i] := List.getElem?_eq_getElem (by omega)
        have hset0 : S.set i S[i] = S := List.set_getElem_self _
        have hgU : U[i]? = some U[i] := List.getElem?_eq_getElem (by omega)
        have hUi : U[i].1 = Sp.callsE its i := by
          have h := congrArg (·[i]?) hU
          simp only [List.getElem?_map, hgU, List.getElem?_range hil, Option.map_some, Option.some.injEq] at h
          exact h
        have hUin := hint _ (List.getElem_mem (show i < U.length by omega))
        have hcb : (Sp.callsE its i).length ≤ 400000000 := by
          rw [Sp.callsE]
          split
          · refine Nat.le_trans (Sp.findsE_len its _) ?_
            have h1 := Sp.ownE_len (Sp.itNo its i)
            have h2 : Sp.itNo its i ∈ its := Sp.getD_mem hil
            have h3 := (hsm _ h2).2
            omega
          · simp
        rw [← hUi] at hcb
        generalize U[i] = q at hcb hgU hUi hUin
        generalize S[i] = t0 at hgS hset0
        obtain ⟨c, ca, cq⟩ := q
        dsimp only at hUi hUin hcb
        have hrow : (S.map (·.1)).getD i [] = t0.1 := by rw [List.getD_eq_getElem?_getD, List.getElem?_map, hgS]; rfl
        have hfo : ∀ k : Nat, (0 : Nat) + (k : Int).toNat * 1 = k := fun k => by rw [Int.toNat_natCast]; omega
        have hcell : (S.map triV)[i]? = some (triV t0) := by rw [List.getElem?_map, hgS]; rfl
        have hcls6 := hclsT.le (hle5.trans hle6)
        have hUin6 := hUin.le (hle5.trans hle6)
        repeat' (first|(refine mi_loadRow (i := 0) (d := 79) hm (by rfl) (by rfl) (by rfl) (by rfl) (by rw [hfo]; exact hcell) ?_)|(refine i_indexFlat (d:=83) (enc:=fun t => [triV t]) (z:=(c, ca, cq)) (hr:=hcls6) (he:=fun _ => rfl) (hz:=by exact hgU) (k:=?_); intro bz oz hpz)|refine i_load1z hm (k:=?_)|refine op_move (k:=?_)|refine op_assign (k:=?_)|refine op_lss (k:=?_)|refine op_len_slice (k:=?_)|refine op_indexAddr (k:=?_)|refine wl_nil ?_|refine at_then_normal ?_|refine wc_seq ?_|refine wc_region ?_|refine wc_block ?_|refine wc_skip ?_|(refine wc_cond_dec (ht:=fun _ => ?_) (hf:=fun _ => ?_)<;> (try first | contradiction | (exfalso; omega))))
        all_goals try (exfalso; omega)
        refine wc_loop (fun x : EjX => [(3, .slice (some ⟨ob, 0, none⟩) its.length its.length), (4, .slice (some ⟨cb, 0, none⟩) its.length its.length), (12, .bool b), (13, nt i), (14, nt t0.1.length), (72, nt its.length), (73, nt i), (84, .slice ca c.length cq), (85, nt c.length), (86, nt x.k)])
          (fun x w' => Mem E x.I (OutR ob its.length ((S.set i x.t).map triV) :: (S.set i x.t).map triS) w' ∧ Le I6 x.I ∧ x.t.1 = (c.take x.k).foldl (fun a k => Sp.joinE a ((S.map (·.1)).getD k [])) t0.1 ∧ x.k ≤ c.length)
          (fun x => c.length - x.k) ⟨0, I6, t0⟩ (by exact ⟨rfl, rfl, rfl, rfl, rfl, rfl, rfl, rfl, rfl, rfl, trivial⟩) ⟨by dsimp only; rw [hset0]; exact hm, Le.refl _, rfl, Nat.zero_le _⟩ ?_
        clear hm
        rintro ⟨j, I7, t⟩ w7 ⟨hm, hle7, ht, hj⟩
        dsimp only at hm hle7 ht hj ⊢
        have hsr := hRS.getD i
        rw [hrow] at hsr
        obtain ⟨hmem, hsrt⟩ := Sp.rowE_fold (S.map (·.1)) (c.take j) t0.1 hsr.1
        rw [← ht] at hmem hsrt
        have hnam : ∀ x ∈ t.1, x ∈ Sp.namesE its := fun x hx => by
          rcases (hmem x).1 hx with h | ⟨k, _, h, _⟩
          · exact hsr.2.1 x h
          · exact (hRS.getD k).2.1 x h
        have hgi : (S.set i t)[i]? = some t := List.getElem?_set_self (by omega)
        by_cases hjl : j < c.length
        · have hgj : c[j]? = some c[j] := List.getElem?_eq_getElem hjl
          obtain ⟨hkl, _⟩ := Sp.callsE_lt (i := i) (k := c[j]) (by rw [← hUi]; exact List.getElem_mem hjl)
          have htk : c.take (j + 1) = c.take j ++ [c[j]] := Sp.take_succ_get hgj
          generalize c[j] = k at hgj hkl htk
          obtain ⟨⟨tl, ta, tc⟩, hgk⟩ : ∃ tk, (S.set i t)[k]? = some tk := ⟨_, List.getElem?_eq_getElem (by rw [List.length_set]; omega)⟩
          have htt : i = k → (tl, ta, tc) = t := fun e => by
            subst e; rw [hgi] at hgk; exact (Option.some.inj hgk).symm
          have hjoin : Sp.joinE t.1 tl = Sp.joinE t.1 ((S.map (·.1)).getD k []) := by
            by_cases e : i = k
            · have h := htt e
              subst e
              rw [hrow, Sp.joinE_same t0.1 (fun x hx => (hmem x).2 (.inl hx)), ← h, Sp.joinE_same tl (fun _ h => h)]
            · rw [List.getElem?_set_ne e] at hgk
              rw [List.getD_eq_getElem?_getD, List.getElem?_map, hgk]; rfl
          have htlb : tl.length ≤ 1000000000 := by
            refine Nat.le_trans (show tl.length ≤ (Sp.namesE its).length from Sp.srt_len ?_ ?_) hN
            · by_cases e : i = k
              · have h := hsrt; rw [← htt e] at h; exact h
              · have h := (hRS.getD k).1
                rw [List.getElem?_set_ne e] at hgk
                rw [List.getD_eq_getElem?_getD, List.getElem?_map, hgk] at h
                exact h
            · by_cases e : i = k
              · have h := hnam; rw [← htt e] at h; exact h
              · have h := (hRS.getD k).2.1
                rw [List.getElem?_set_ne e] at hgk
                rw [List.getD_eq_getElem?_getD, List.getElem?_map, hgk] at h
                exact h
          have hcell7 : ((S.set i t).map triV)[k]? = some (triV (tl, ta, tc)) := by rw [List.getElem?_map, hgk]; rfl
          have hUin7 := hUin6.le hle7
          repeat' (first|(refine i_indexFlat (d:=88) (enc:=encInt) (z:=k) (hr:=hUin7) (he:=fun _ => rfl) (hz:=by exact hgj) (k:=?_); intro bz oz hpz)|(refine mi_loadRow (i := 0) (d := 93) hm (by rfl) (by rfl) (by rfl) (by rfl) (by rw [hfo]; exact hcell7) ?_)|refine i_load1z hm (k:=?_)|refine op_move (k:=?_)|refine op_assign (k:=?_)|refine op_lss (k:=?_)|refine op_len_slice (k:=?_)|refine op_indexAddr (k:=?_)|refine wl_nil ?_|refine at_then_normal ?_|refine wc_seq ?_|refine wc_region ?_|refine wc_block ?_|refine wc_skip ?_|(refine wc_cond_dec (ht:=fun _ => ?_) (hf:=fun _ => ?_)<;> (try first | contradiction | (exfalso; omega))))
          all_goals try (exfalso; omega)
          refine wc_loop (fun x : EjX => [(3, .slice (some ⟨ob, 0, none⟩) its.length its.length), (4, .slice (some ⟨cb, 0, none⟩) its.length its.length), (12, .bool b), (13, nt i), (14, nt t0.1.length), (72, nt its.length), (73, nt i), (84, .slice ca c.length cq), (85, nt c.length), (86, nt j), (93, .slice ta tl.length tc), (94, nt tl.length), (95, nt x.k)])
            (fun x w' => Mem E x.I (OutR ob its.length ((S.set i x.t).map triV) :: (S.set i x.t).map triS) w' ∧ Le I7 x.I ∧ x.t.1 = Sp.joinE t.1 (tl.take x.k) ∧ (i = k → x.t = t) ∧ x.k ≤ tl.length)
            (fun x => tl.length - x.k) ⟨0, I7, t⟩ (by exact ⟨rfl, rfl, rfl, rfl, rfl, rfl, rfl, rfl, rfl, rfl, rfl, rfl, rfl, trivial⟩) ⟨hm, Le.refl _, by dsimp only; rw [List.take_zero]; rfl, fun _ => rfl, Nat.zero_le _⟩ ?_
          clear hm
          rintro ⟨l, I8, u⟩ w8 ⟨hm, hle8, hu, hut, hl⟩
          dsimp only at hm hle8 hu hut hl ⊢
          by_cases hll : l < tl.length
          · have hgl : tl[l]? = some tl[l] := List.getElem?_eq_getElem hll
            have hst := Sp.joinE_step (a := t.1) hgl
            generalize tl[l] = s at hgl hst
            have hgu : (S.set i u)[i]? = some u := List.getElem?_set_self (by omega)
            have hgk8 : (S.set i u)[k]? = some (tl, ta, tc) := by
              by_cases e : i = k
              · rw [hut e]; exact hgk
              · rw [List.getElem?_set_ne e]; rw [List.getElem?_set_ne e] at hgk; exact hgk
            have hidx : (OutR ob its.length ((S.set i u).map triV) :: (S.set i u).map triS)[k + 1]? = some (triS (tl, ta, tc)) := by
              rw [List.getElem?_cons_succ, List.getElem?_map, hgk8]; rfl
            obtain ⟨g, rfl⟩ := (hm.front (k + 1) hidx).rowAddr (by dsimp only; omega)
            have hsu : Sp.Srt u.1 := by rw [hu]; exact Sp.joinE_srt _ hsrt
            have hnu : ∀ x ∈ u.1, x ∈ Sp.namesE its := fun x hx => by
              rw [hu, Sp.joinE_mem] at hx
              rcases hx with h | ⟨h, h2⟩
              · exact hnam x h
              · by_cases e : i = k
                · exact hnam x (by rw [← htt e]; exact List.mem_of_mem_take h)
                · have h3 := (hRS.getD k).2.1 x
                  rw [List.getElem?_set_ne e] at hgk
                  rw [List.getD_eq_getElem?_getD, List.getElem?_map, hgk] at h3
                  exact h3 (List.mem_of_mem_take h)
            have hlu : u.1.length ≤ 1000000000 := Nat.le_trans (Sp.srt_len hsu hnu) hN
            have hA := e_add3 I8 u s hsu hlu
            have hpm : (OutR ob its.length ((S.set i u).map triV) :: (S.set i u).map triS).Perm ([triS u] ++ (OutR ob its.length ((S.set i u).map triV) :: ((S.set i u).eraseIdx i).map triS)) :=
              ((tri_perm (g := triS) hgu).cons _).trans (.swap _ _ _)
            have hcell8 : ((S.set i u).map triV)[i]? = some (triV u) := by rw [List.getElem?_map, hgu]; rfl
            have hsc : (tl.flatMap encS)[l]? = some (str s) := flatS_get hgl
            repeat' (first|(refine mi_loadRow (i := k + 1) (d := 98) hm (by rfl) (by rfl) (by rfl) (by exact hidx) (by rw [hfo]; exact hsc) ?_)|(refine mi_loadRow (i := 0) (d := 104) hm (by rfl) (by rfl) (by rfl) (by rfl) (by rw [hfo]; exact hcell8) ?_)|(refine m_call (d:=106) hm (hp:=hpm) (hc:=hA) (k:=?_); clear hm; rintro _ I9 _ _ ⟨u2, hu1, hu2, rfl, rfl⟩ hleI9 hm)|(refine mi_storeRow (i := 1) hm (by rfl) (by rfl) (by rfl) (by rfl) (by rfl) (by rfl) (by rfl) (by simp; omega) ?_; clear hm; intro _ hm; rw [hfo, map_set_tri, List.set_set] at hm; simp only [setn] at hm)|refine op_move (k:=?_)|refine op_assign (k:=?_)|refine op_lss (k:=?_)|refine op_add (k:=?_)|refine op_indexAddr (k:=?_)|refine wl_nil ?_|refine at_then_normal ?_|refine at_block_normal ?_|refine wc_seq ?_|refine wc_region ?_|refine wc_block ?_|refine wc_skip ?_|(refine wc_cond_dec (ht:=fun _ => ?_) (hf:=fun _ => ?_)<;> (try first | contradiction | (exfalso; omega))))
            all_goals try (exfalso; omega)
            refine at_round (⟨l + 1, I9, u2⟩ : EjX) (by exact ⟨rfl, rfl, rfl, rfl, rfl, rfl, rfl, rfl, rfl, rfl, rfl, rfl, rfl, trivial⟩) ⟨?_, hle8.trans hleI9, ?_, fun e => ?_, by dsimp only; omega⟩ (by dsimp only; omega)
            · dsimp only
              have h := tri_set (g := triS) (T := S.set i u) (i := i) (u := u2) (by rw [List.length_set]; omega)
              rw [List.set_set] at h
              exact hm.perm ((List.Perm.swap _ _ _).trans (List.Perm.cons _ (h.symm)))
            · dsimp only; rw [hst, hu1, hu]
            · dsimp only
              have hx : s ∈ u.1 := by
                rw [hut e, ← htt e]; exact List.mem_of_getElem? hgl
              rw [hu2 (.inr hx)]; exact hut e
          · obtain rfl : l = tl.length := by omega
            rw [List.take_length, hjoin] at hu
            repeat' (first|refine op_move (k:=?_)|refine op_lss (k:=?_)|refine op_add (k:=?_)|refine wl_nil ?_|refine at_then_normal ?_|refine at_then_exit ?_|refine at_block_normal ?_|refine at_block_exit ?_|refine wc_seq ?_|refine wc_region ?_|refine wc_exit ?_|(refine wc_cond_dec (ht:=fun _ => ?_) (hf:=fun _ => ?_)<;> (try first | contradiction | (exfalso; omega))))
            all_goals try (exfalso; omega)
            refine at_round (⟨j + 1, I8, u⟩ : EjX) (by exact ⟨rfl, rfl, rfl, rfl, rfl, rfl, rfl, rfl, rfl, rfl, trivial⟩) ⟨hm, hle7.trans hle8, ?_, by dsimp only; omega⟩ (by dsimp only; omega)
            dsimp only
            rw [htk, List.foldl_append, ← ht, hu]; rfl
        · obtain rfl : j = c.length := by omega
          rw [List.take_length, hUi] at ht
          have htr : Sp.rowE its (S.map (·.1)) i = t.1 := by rw [Sp.rowE, hrow, ht]
          have hcell9 : ((S.set i t).map triV)[i]? = some (triV t) := by rw [List.getElem?_map, hgi]; rfl
          have hbn := Sp.more_iff hR hRS hLS (i := i) (by rw [List.length_map]; omega) hb
          have hstp : (S.set i t).map (·.1) = Sp.stepE its (S.map (·.1)) i := by rw [Sp.stepE, htr, List.map_set]
          rw [hrow, htr, ← hstp] at hbn
          have hfold : (S.set i t).map (·.1) = (List.range (i + 1)).foldl (Sp.stepE its) (T.map (·.1)) := by
            rw [hstp, List.range_succ, List.foldl_append, ← hS]; rfl
          cases b with
          | true =>
            repeat' (first|refine op_move (k:=?_)|refine op_assign (k:=?_)|refine op_pick_true (k:=?_)|refine op_lss (k:=?_)|refine op_add (k:=?_)|refine wl_skip (k:=?_)|refine wl_nil ?_|refine at_then_normal ?_|refine at_then_exit ?_|refine at_block_normal ?_|refine at_block_exit ?_|refine wc_seq ?_|refine wc_region ?_|refine wc_exit ?_|(refine wc_cond_dec (ht:=fun _ => ?_) (hf:=fun _ => ?_)<;> (try first | contradiction | (exfalso; omega))))
            all_goals try (exfalso; omega)
            exact at_round (⟨i + 1, I7, S.set i t, true⟩ : EiX) (by exact ⟨rfl, rfl, rfl, rfl, rfl, trivial⟩) ⟨hm, hle6.trans hle7, hfold, hbn, by dsimp only; omega⟩ (by dsimp only; omega)
          | false =>
            repeat' (first|(refine mi_loadRow (i := 0) (d := 115) hm (by rfl) (by rfl) (by rfl) (by rfl) (by rw [hfo]; exact hcell9) ?_)|refine op_move (k:=?_)|refine op_assign (k:=?_)|refine op_pick_false (k:=?_)|refine op_lss (k:=?_)|refine op_gtr (k:=?_)|refine op_len_slice (k:=?_)|refine op_add (k:=?_)|refine op_indexAddr (k:=?_)|refine wl_nil ?_|refine at_then_normal ?_|refine at_then_exit ?_|refine at_block_normal ?_|refine at_block_exit ?_|refine wc_seq ?_|refine wc_region ?_|refine wc_exit ?_|(refine wc_cond_dec (ht:=fun _ => ?_) (hf:=fun _ => ?_)<;> (try first | contradiction | (exfalso; omega))))
            all_goals try (exfalso; omega)
            exact at_round (⟨i + 1, I7, S.set i t, (false || decide ((t0.1.length : Int) < (t.1.length : Int)))⟩ : EiX) (by exact ⟨rfl, rfl, rfl, rfl, rfl, trivial⟩) ⟨hm, hle6.trans hle7, hfold, hbn, by dsimp only; omega⟩ (by dsimp only; omega)
      · obtain rfl : i = its.length := by omega
        have hS2 : S.map (·.1) = Sp.roundE its (T.map (·.1)) := hS
        rw [hS2] at hb hRS
        repeat' (first|refine op_lss (k:=?_)|refine wl_nil ?_|refine at_then_normal ?_|refine at_then_exit ?_|refine at_block_normal ?_|refine at_block_exit ?_|refine wc_seq ?_|refine wc_region ?_|refine wc_exit ?_|(refine wc_cond_dec (ht:=fun _ => ?_) (hf:=fun _ => ?_)<;> (try first | contradiction | (exfalso; omega))))
        all_goals try (exfalso; omega)
        refine at_round (⟨I6, S, b⟩ : ErX) (by exact ⟨rfl, rfl, rfl, trivial⟩) ⟨hm, hle5.trans hle6, by dsimp only; rw [hS2]; exact hRS, ?_, fun h => ?_⟩ ?_
        · dsimp only
          rw [hS2, ← hit]
          by_cases e : Sp.roundE its (T.map (·.1)) = T.map (·.1)
          · rw [e]
          · exact (Sp.iterE_next hR e).symm
        · dsimp only at h ⊢
          have e : Sp.roundE its (T.map (·.1)) = T.map (·.1) := Classical.byContradiction fun e => by
            rw [hb.2 e] at h; cases h
          rw [hS2, e, e]
        · dsimp only
          rw [hS2]
          cases b with
          | false => simp
          | true =>
            have h1 := Sp.round_more hR (hb.1 rfl)
            have h2 := Sp.sumE_top hRS
            simp only [if_true]
            have e0 : Sp.topE its = its.length * (Sp.namesE its).length := rfl
            omega
end Go.Proofs.YthmdffgiockcbaaGreatDoor
end
