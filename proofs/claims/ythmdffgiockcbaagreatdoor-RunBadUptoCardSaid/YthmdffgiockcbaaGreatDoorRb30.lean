/- Own work: texts EfD, SpecEff3, EfE, Label, FlA, FlB, one behind the other. -/
import Derived.Test.YthmdffgiockcbaaGreatDoorRb29
section
namespace Go.Sp
theorem filt_step {l : List Nm} {k : Nat} {c : Nm} {p : Nm → Bool} (h : l[k]? = some c) : ((l.take (k + 1)).filter p).map diagE = ((l.take k).filter p).map diagE ++ (if p c then [diagE c] else []) := by
  rw [take_succ_get h, List.filter_append, List.map_append]
  cases hp : p c <;> simp [hp]
theorem allE_len {its : List Itm} (i : Nat) : (allE its i).length ≤ (namesE its).length := srt_len (allE_srt its i) (((allsE_end its).2.1.getD i).2.1)
end Go.Sp
namespace Go.Proofs.YthmdffgiockcbaaGreatDoor
open Go.Fw
theorem e_saidC (I : Imm) (b : Nat) (c : List UInt8) (hb : PtrI I b 0 9 [str c]) (x : Sp.Rf) :
    CalM Tryz.prog 113 #[.agg (encRf x).toArray, ptr b] I [] (fun v _ H' => v = .bool (decide (x.name = c)) ∧ H' = []) := by
  refine CalM.of fun w E hm => enter (N := 8) Tryz.func113 rfl [(0, .agg (encRf x).toArray), (1, ptr b)] args2 rfl ?_
  repeat' (first|(refine m_box (d:=2) hm (k:=?_); clear hm; intro b2 _ hm)|refine m_load1 hm (k:=?_)|refine i_load1z hm (k:=?_)|refine op_assign (k:=?_)|refine op_eql_str (k:=?_)|refine op_fieldAddr (k:=?_)|refine wl_nil ?_|refine at_then_normal ?_|refine wc_seq ?_|refine wc_region ?_|refine wc_ret ?_|refine at_ret1 (h:=?_))
  exact ⟨I, [], ⟨rfl, rfl⟩, hm.left (H := [])⟩
theorem tri_at {its : List Sp.Itm} {i : Nat} {T : List (Tri (List UInt8))} (hT : T.map (·.1) = Sp.allsE its) (hi : i < its.length) :
    ∃ a cp, T[i]? = some (Sp.allE its i, a, cp) ∧ (T.map triV)[i]? = some (.slice a (Sp.allE its i).length cp) := by
  have hl : T.length = its.length := by
    have := congrArg List.length hT
    rw [Sp.allsE_len] at this
    simpa using this
  have hg : T[i]? = some T[i] := List.getElem?_eq_getElem (by omega)
  have h1 : Sp.allE its i = T[i].1 := by
    rw [Sp.allE, ← hT, List.getD_eq_getElem?_getD, List.getElem?_map, hg]; rfl
  generalize T[i] = t at hg h1
  obtain ⟨l, a, cp⟩ := t
  dsimp only at h1
  subst h1
  exact ⟨a, cp, hg, by rw [List.getElem?_map, hg]; rfl⟩
structure EdX where
  k : Nat
  I : Imm
  a : Option Addr
  cp : Nat
abbrev dgRw (l : List Sp.Dg) (a : Option Addr) (cp : Nat) : HItem := .row (.slice a l.length cp) 154 4 l.length (l.flatMap encDg)
set_option maxHeartbeats 16000000 in
theorem e_diags {its : List Sp.Itm} (i : Nat) (hi : i < its.length) (I : Imm) (a : Option Addr) (cp : Nat) (xs : List Value) (hfe : FE I its a cp xs) (hsm : ∀ it ∈ its, it.fit ∧ Sp.stmsCnt it.body ≤ 400000000) (hN : (Sp.namesE its).length ≤ 1000000000) :
    CalM Tryz.prog 84 #[.agg [.slice a its.length cp].toArray, nt i] I [] (fun v I' H' => H' = [] ∧ ∃ da dp, v = .slice da (Sp.effD its i).length dp ∧ RowI I' 154 4 (.slice da (Sp.effD its i).length dp) (Sp.effD its i).length ((Sp.effD its i).flatMap encDg)) := by
  refine CalM.of fun w E hm => enter (N := 52) Tryz.func84 rfl [(0, .agg [.slice a its.length cp].toArray), (1, nt i)] args2 rfl ?_
  have hfew := hfe.few
  have hg : its[i]? = some its[i] := List.getElem?_eq_getElem hi
  have hno : Sp.itNo its i = its[i] := by rw [Sp.itNo, List.getD_eq_getElem?_getD, hg]; rfl
  have hss := (hsm _ (List.getElem_mem hi)).1
  repeat' (first|refine wc_hold 1 ?_|(refine m_box (d:=2) hm (k:=?_); clear hm; intro b2 _ hm)|refine op_assign (k:=?_)|refine wl_nil ?_|refine at_then_normal ?_|refine wc_seq ?_|refine wc_region ?_)
  all_goals try (exfalso; omega)
  obtain ⟨I1, hle1, hm1, hpf⟩ := hm.freezeO
  clear hm
  have hm := hm1
  clear hm1
  have hfe1 := hfe.le hle1
  obtain ⟨cs, hcs, hat, hl10⟩ := hfe1.get hg
  have hri := hfe1.row
  have hA := e_all (its := its) I1 a cp xs hfe1 hsm hN
  rw [← hno] at hat hss
  have hk2 := fun h => Sp.allE_none (its := its) (i := i) h
  generalize hit : Sp.itNo its i = it at hat hss hk2
  obtain ⟨ap, cp', as_, cs', ab, cb', ad, cd, xb, rfl, _, hsd, _, _, _⟩ := hat
  have hfo : ∀ k : Nat, (0 : Nat) + (k : Int).toNat * 1 = k := fun k => by rw [Int.toNat_natCast]; omega
  refine ⟨?_⟩
  by_cases k2 : it.kind = 2
  · skip
    repeat' (first|(refine i_indexAddr (d:=21) (hr:=hri) (k:=?_); intro bt ot hpt; rw [show ((i : Int).toNat * 10) = i * 10 from rfl, hcs] at hpt)|refine wc_hold 4 ?_|refine i_load1 hm (k:=?_)|refine op_move (k:=?_)|refine op_assign (k:=?_)|refine op_pick_false (k:=?_)|refine op_lss (k:=?_)|refine op_geq (k:=?_)|refine op_neq (k:=?_)|refine op_len_slice (k:=?_)|refine op_fieldAddr (k:=?_)|(refine wl_split_dec (h1:=fun _ => ?_) (h0:=fun _ => ?_)<;> (try first | contradiction | (exfalso; omega)))|refine wl_nil ?_|refine at_then_normal ?_|refine wc_seq ?_|refine wc_region ?_|refine wc_skip ?_|(refine wc_cond_dec (ht:=fun _ => ?_) (hf:=fun _ => ?_)<;> (try first | contradiction | (exfalso; omega))))
    all_goals try (exfalso; omega)
    have hal := Nat.le_trans (Sp.allE_len (its := its) i) hN
    refine ⟨?_⟩
    repeat' (first|(refine m_call (d:=27) hm (hp:=pm0) (hc:=hA) (k:=?_); clear hm; rintro _ I2 _ w2 ⟨ob, T, hT, rfl, rfl⟩ hleI2 hm; rw [List.append_nil] at hm; obtain ⟨ta, tc, hti, hcell⟩ := tri_at hT hi)|(refine mi_loadRow (i := 0) (d := 30) hm (by rfl) (by rfl) (by rfl) (by rfl) (by rw [hfo]; exact hcell) ?_)|refine i_loadN hm (k:=?_)|refine op_move (k:=?_)|refine op_len_slice (k:=?_)|refine op_indexAddr (k:=?_)|refine wl_nil ?_|refine at_then_normal ?_|refine wc_region ?_|refine wc_block ?_)
    all_goals try (exfalso; omega)
    obtain ⟨I3, hle3, hm3, hrow⟩ := (hm.front (i + 1) (by rw [List.getElem?_cons_succ, List.getElem?_map, hti]; rfl)).freeze
    clear hm
    have hm := (hm3.left (H := [])).nil 154 4
    clear hm3
    have hle13 : Le I1 I3 := hleI2.trans hle3
    have heD : Sp.effD its i = ((Sp.allE its i).filter (fun c => !Sp.saidE it c)).map Sp.diagE := by rw [Sp.effD, hit]
    generalize Sp.allE its i = al at *
    refine wc_loop (fun x : EdX => [(1, nt i), (2, ptr b2), (5, .slice x.a (((al.take x.k).filter (fun c => !Sp.saidE it c)).map Sp.diagE).length x.cp), (30, .slice ta al.length tc), (31, nt al.length), (32, nt x.k)])
      (fun x w' => Mem E x.I [dgRw (((al.take x.k).filter (fun c => !Sp.saidE it c)).map Sp.diagE) x.a x.cp] w' ∧ Le I3 x.I ∧ x.k ≤ al.length)
      (fun x => al.length - x.k) ⟨0, I3, none, 0⟩ (by exact ⟨rfl, rfl, rfl, rfl, rfl, rfl, trivial⟩) ⟨hm, Le.refl _, Nat.zero_le _⟩ ?_
    clear hm
    rintro ⟨k, I4, da, dp⟩ w4 ⟨hm, hle4, hk⟩
    dsimp only at hm hle4 hk ⊢
    by_cases hlt : k < al.length
    · have hgk : al[k]? = some al[k] := List.getElem?_eq_getElem hlt
      have hst := Sp.filt_step (p := fun c => !Sp.saidE it c) hgk
      have hdl : (((al.take k).filter (fun c => !Sp.saidE it c)).map Sp.diagE).length ≤ 1000000000 := by
        rw [List.length_map]
        refine Nat.le_trans (List.length_filter_le _ _) ?_
        rw [List.length_take]; omega
      generalize al[k] = c at hgk hst
      generalize ((al.take k).filter (fun c => !Sp.saidE it c)).map Sp.diagE = ds at hm hst hdl ⊢
      have hrow4 := hrow.le hle4
      have hri4 := (hri.le hle13).le hle4
      have hpf4 := (hpf.le hle13).le hle4
      repeat' (first|(refine i_indexFlat (d:=34) (enc:=encS) (z:=c) (hr:=hrow4) (he:=fun _ => rfl) (hz:=by exact hgk) (k:=?_); intro bz oz hpz)|refine wc_hold 7 ?_|(refine m_var1 (d:=7) hm (k:=?_); clear hm; intro b7 _ hm)|refine i_load1z hm (k:=?_)|refine op_lss (k:=?_)|refine wl_nil ?_|refine at_then_normal ?_|refine wc_seq ?_|refine wc_region ?_|refine wc_block ?_|refine wc_skip ?_|(refine wc_cond_dec (ht:=fun _ => ?_) (hf:=fun _ => ?_)<;> (try first | contradiction | (exfalso; omega))))
      all_goals try (exfalso; omega)
      obtain ⟨I5, hle5, hm5, hpc⟩ := hm.freezeO
      clear hm
      have hm := hm5
      clear hm5
      have hri5 := hri4.le hle5
      have hpf5 := hpf4.le hle5
      have hsd5 := ((hsd.le hle13).le hle4).le hle5
      have hE := n_contains 113 [ptr b7] (fun x => decide (x.name = c)) it.sends (by have := hss.sends; omega) I5 as_ cs' hsd5 (fun J m x => e_saidC J b7 c (hpc.le m) x)
      rw [show it.sends.any (fun x => decide (x.name = c)) = Sp.saidE it c from rfl] at hE
      refine ⟨?_⟩
      cases hc : Sp.saidE it c with
      | true =>
        rw [hc] at hE hst
        repeat' (first|(refine i_indexAddr (d:=39) (hr:=hri5) (k:=?_); intro bt ot hpt; rw [show ((i : Int).toNat * 10) = i * 10 from rfl, hcs] at hpt)|(refine m_call (d:=43) hm (hc:=hE) (k:=?_); clear hm; rintro _ I6 _ _ ⟨rfl, rfl⟩ hle hm; have hleI6 := hle; try simp only [setn] at hm)|refine i_load1 hm (k:=?_)|refine op_move (k:=?_)|refine op_not (k:=?_)|refine op_makeFunc (k:=?_)|refine op_add (k:=?_)|refine op_fieldAddr (k:=?_)|refine wl_nil ?_|refine at_then_normal ?_|refine at_block_normal ?_|refine wc_region ?_|refine wc_skip ?_|refine wc_cond_false (hf:=?_))
        all_goals try (exfalso; omega)
        refine at_round (⟨k + 1, I6, da, dp⟩ : EdX) (by dsimp only; rw [hst, if_neg (by simp), List.append_nil]; exact ⟨rfl, rfl, rfl, rfl, rfl, rfl, trivial⟩) ⟨?_, (hle4.trans hle5).trans hleI6, by dsimp only; omega⟩ (by dsimp only; omega)
        dsimp only; rw [hst, if_neg (by simp), List.append_nil]; exact hm
      | false =>
        rw [hc] at hE hst
        repeat' (first|(refine i_indexAddr (d:=39) (hr:=hri5) (k:=?_); intro bt ot hpt; rw [show ((i : Int).toNat * 10) = i * 10 from rfl, hcs] at hpt)|(refine m_call (d:=43) hm (hc:=hE) (k:=?_); clear hm; rintro _ I6 _ _ ⟨rfl, rfl⟩ hle hm; have hleI6 := hle; try simp only [setn] at hm; replace hpc := hpc.le hleI6)|(refine m_push (d:=49) hm (k:=?_); clear hm; intro a49 cp49 _ _ hm; try simp only [setn] at hm)|refine i_load1 hm (k:=?_)|refine i_load1z hm (k:=?_)|refine op_move (k:=?_)|refine op_assign (k:=?_)|refine op_not (k:=?_)|refine op_makeFunc (k:=?_)|refine op_add (k:=?_)|refine op_fieldAddr (k:=?_)|refine op_struct (k:=?_)|refine wl_nil ?_|refine at_then_normal ?_|refine at_block_normal ?_|refine wc_region ?_|refine wc_cond_true (ht:=?_))
        all_goals try (exfalso; omega)
        rw [if_pos (by simp)] at hst
        refine at_round (⟨k + 1, I6, a49, cp49⟩ : EdX) (by dsimp only; rw [hst, List.length_append]; exact ⟨rfl, rfl, rfl, rfl, rfl, rfl, trivial⟩) ⟨?_, (hle4.trans hle5).trans hleI6, by dsimp only; omega⟩ (by dsimp only; omega)
        dsimp only [dgRw]
        rw [hst, List.flatMap_append, List.length_append]
        exact hm
    · obtain rfl : k = al.length := by omega
      rw [List.take_length, ← heD] at hm
      repeat' (first|refine op_move (k:=?_)|refine op_assign (k:=?_)|refine op_lss (k:=?_)|refine wl_nil ?_|refine at_then_normal ?_|refine at_then_exit ?_|refine at_block_exit ?_|refine wc_seq ?_|refine wc_region ?_|refine wc_exit ?_|refine wc_ret ?_|refine at_ret1 (h:=?_)|(refine wc_cond_dec (ht:=fun _ => ?_) (hf:=fun _ => ?_)<;> (try first | contradiction | (exfalso; omega))))
      all_goals try (exfalso; omega)
      rw [List.take_length, ← heD]
      obtain ⟨I5, hle5, hm5, hr5⟩ := hm.freeze
      exact ⟨I5, [], ⟨rfl, da, dp, rfl, hr5⟩, hm5⟩
  · skip
    repeat' (first|(refine i_indexAddr (d:=21) (hr:=hri) (k:=?_); intro bt ot hpt; rw [show ((i : Int).toNat * 10) = i * 10 from rfl, hcs] at hpt)|refine i_load1 hm (k:=?_)|refine op_move (k:=?_)|refine op_assign (k:=?_)|refine op_pick_false (k:=?_)|refine op_lss (k:=?_)|refine op_geq (k:=?_)|refine op_neq (k:=?_)|refine op_len_slice (k:=?_)|refine op_fieldAddr (k:=?_)|(refine wl_split_dec (h1:=fun _ => ?_) (h0:=fun _ => ?_)<;> (try first | contradiction | (exfalso; omega)))|refine wl_nil ?_|refine at_then_normal ?_|refine at_then_ret ?_|refine wc_seq ?_|refine wc_region ?_|refine wc_ret ?_|refine at_ret1 (h:=?_)|(refine wc_cond_dec (ht:=fun _ => ?_) (hf:=fun _ => ?_)<;> (try first | contradiction | (exfalso; omega))))
    all_goals try (exfalso; omega)
    have he : Sp.effD its i = [] := by rw [Sp.effD, hk2 k2]; rfl
    rw [he]
    obtain ⟨I4, hle4, hm4, hrow⟩ := (hm.nil 154 4).freeze
    exact ⟨I4, [], ⟨rfl, none, 0, rfl, hrow⟩, hm4.left (H := [])⟩
end Go.Proofs.YthmdffgiockcbaaGreatDoor
end
section
namespace Go.Sp
structure SameB (its jts : List Itm) : Prop where
  len : jts.length = its.length
  kind : ∀ k, (itNo jts k).kind = (itNo its k).kind
  body : ∀ k, (itNo jts k).body = (itNo its k).body
  find : ∀ n, findIt jts 2 n = findIt its 2 n
theorem SameB.init {its jts : List Itm} (h : SameB its jts) (k : Nat) : initE jts k = initE its k := by
  rw [initE, initE, ownE, ownE, h.kind, h.body]
theorem SameB.calls {its jts : List Itm} (h : SameB its jts) (k : Nat) : callsE jts k = callsE its k := by
  have hf : findsE jts = findsE its := by
    funext l
    rw [findsE, findsE, show findIt jts 2 = findIt its 2 from funext h.find]
  rw [callsE, callsE, ownE, ownE, h.kind, h.body, hf]
theorem SameB.inits {its jts : List Itm} (h : SameB its jts) : initsE jts = initsE its := by
  rw [initsE, initsE, h.len, show initE jts = initE its from funext h.init]
theorem SameB.round {its jts : List Itm} (h : SameB its jts) : roundE jts = roundE its := by
  have hs : stepE jts = stepE its := by
    funext r i
    rw [stepE, stepE, rowE, rowE, h.calls]
  funext r
  rw [roundE, roundE, h.len, hs]
theorem SameB.iter {its jts : List Itm} (h : SameB its jts) : ∀ (n : Nat) (r : List (List Nm)), iterE jts n r = iterE its n r
  | 0, r => rfl
  | n + 1, r => by rw [iterE, iterE, h.round, h.iter n]
theorem SameB.alls {its jts : List Itm} (h : SameB its jts) : allsE jts = allsE its := by
  rw [allsE, allsE, namesE, namesE, h.inits, h.len, h.iter]
theorem SameB.all {its jts : List Itm} (h : SameB its jts) (i : Nat) : allE jts i = allE its i := by rw [allE, allE, h.alls]
theorem findIdx_map {α : Type} {p : α → Bool} : ∀ {l m : List α}, l.map p = m.map p → l.findIdx? p = m.findIdx? p
  | [], [], _ => rfl
  | [], _ :: _, h => by cases h
  | _ :: _, [], h => by cases h
  | a :: l, b :: m, h => by
    simp only [List.map_cons, List.cons.injEq] at h
    rw [List.findIdx?_cons, List.findIdx?_cons, h.1, findIdx_map h.2]
theorem SameB.set {its : List Itm} {i : Nat} {it : Itm} (hg : its[i]? = some it) (l : List Rf) : SameB its (its.set i { it with sends := l }) := by
  have hi := (List.getElem?_eq_some_iff.1 hg).1
  have key : ∀ k, itNo (its.set i { it with sends := l }) k = if i = k then { it with sends := l } else itNo its k := fun k => by
    by_cases e : i = k
    · subst e
      rw [if_pos rfl, itNo, List.getD_eq_getElem?_getD, List.getElem?_set_self hi]; rfl
    · rw [if_neg e, itNo, itNo, List.getD_eq_getElem?_getD, List.getD_eq_getElem?_getD, List.getElem?_set_ne e]
  have hit : itNo its i = it := by rw [itNo, List.getD_eq_getElem?_getD, hg]; rfl
  refine ⟨by rw [List.length_set], fun k => ?_, fun k => ?_, fun n => ?_⟩
  · rw [key]; split
    · rename_i e; subst e; rw [hit]
    · rfl
  · rw [key]; split
    · rename_i e; subst e; rw [hit]
    · rfl
  · rw [findIt, findIt]
    refine findIdx_map ?_
    apply List.ext_getElem?
    intro k
    rw [List.getElem?_map, List.getElem?_map, List.getElem?_set]
    by_cases e : i = k
    · subst e
      rw [if_pos rfl, if_pos hi, hg]; rfl
    · rw [if_neg e]
end Go.Sp
end
section
namespace Go.Sp
theorem flat_len {α : Type} {c : Nat} : ∀ (L : List (List α)), (∀ a ∈ L, a.length ≤ c) → L.flatten.length ≤ L.length * c
  | [], _ => by simp
  | a :: L, h => by
    have h1 := h a List.mem_cons_self
    have h2 := flat_len L (fun b hb => h b (List.mem_cons_of_mem _ hb))
    rw [List.flatten_cons, List.length_append, List.length_cons, Nat.add_mul]; omega
theorem file_eff (s : List UInt8) : (∀ x ∈ fileItems s, x.small ∧ stmsCnt x.body ≤ 32000) ∧ (fileItems s).length ≤ 30 := by
  by_cases h0 : fileErr s = 0
  · have hl : s.length ≤ 4000 ∧ (cuts s).length ≤ 30 := by
      rw [fileErr] at h0
      split at h0
      · cases h0
      · split at h0
        · cases h0
        · omega
    rw [fileItems, if_pos h0]
    refine ⟨fun x hx => ?_, by simp [items, hl.2]⟩
    obtain ⟨j, _, rfl⟩ := List.mem_map.1 hx
    have hp : (piece s (cuts s) j).length ≤ 4000 := by rw [piece, List.length_take, List.length_drop]; omega
    have hc := item_cnt (piece s (cuts s) j) ((cuts s).getD j 0)
    exact ⟨item_small _ _ (by omega), by rw [itemAt]; omega⟩
  · rw [fileItems, if_neg h0]
    exact ⟨fun x hx => (by cases hx), Nat.zero_le _⟩
theorem names_len {its : List Itm} (h : ∀ x ∈ its, x.small ∧ stmsCnt x.body ≤ 32000) (h2 : its.length ≤ 30) : (namesE its).length ≤ 960000 := by
  have h3 := flat_len (c := 32000) (initsE its) (fun a ha => by
    obtain ⟨j, hj, rfl⟩ := List.mem_map.1 ha
    rw [initE]
    split
    · have h4 := ownE_len (itNo its j)
      have h5 := (h (itNo its j) (by rw [itNo, List.getD_eq_getElem?_getD, List.getElem?_eq_getElem (List.mem_range.1 hj)]; exact List.getElem_mem (List.mem_range.1 hj))).2
      omega
    · exact Nat.zero_le _)
  rw [initsE_len] at h3
  have : its.length * 32000 ≤ 30 * 32000 := Nat.mul_le_mul_right _ h2
  exact Nat.le_trans h3 (by omega)
end Go.Sp
namespace Go.Proofs.YthmdffgiockcbaaGreatDoor
open Go.Fw
end Go.Proofs.YthmdffgiockcbaaGreatDoor
namespace Go.Proofs.YthmdffgiockcbaaGreatDoor
open Go.Fw
end Go.Proofs.YthmdffgiockcbaaGreatDoor
end
section
namespace Go.Proofs.YthmdffgiockcbaaGreatDoor
open Go.Fw

theorem c_right (a : Int) (w : World) : Cal Tryz.prog 32 #[.int .i64 a] w fun v w' => v = .bool (decide (0 ≤ a ∧ a ≤ 255)) ∧ w' = w := by
  refine enter (N := 9) Tryz.func32 rfl [(0, .int .i64 a)] args1 rfl ?_
  repeat' (first|refine op_move (k:=?_)|refine op_assign (k:=?_)|refine op_pick_true (k:=?_)|refine op_pick_false (k:=?_)|refine op_leq (k:=?_)|refine op_geq (k:=?_)|refine wl_skip (k:=?_)|(refine wl_split_dec (h1:=fun _ => ?_) (h0:=fun _ => ?_)<;> (try first | contradiction | (exfalso; omega)))|(refine wl_split (h1:=fun _ => ?_) (h0:=fun _ => ?_)<;> (fail_if_success contradiction))|refine wl_nil ?_|refine at_then_normal ?_|refine at_then_ret ?_|refine wc_seq ?_|refine wc_region ?_|refine wc_skip ?_|refine wc_ret ?_|refine at_ret1 (h:=?_))
  all_goals (refine ⟨congrArg Value.bool ?_, rfl⟩; rw [Bool.eq_iff_iff]; simp; omega)
theorem c_flows (a b : Nat) (ha : a < 256) (hb : b < 256) (w : World) : Cal Tryz.prog 28 #[.int .i64 a, .int .i64 b] w fun v w' => v = .bool (Sp.flows a b) ∧ w' = w := by
  refine enter (N := 9) Tryz.func28 rfl [(0, .int .i64 a), (1, .int .i64 b)] args2 rfl ?_
  repeat' (first|refine op_move (k:=?_)|refine op_assign (k:=?_)|refine op_eql (k:=?_)|refine op_eql_str (k:=?_)|refine op_eql_bool (k:=?_)|refine op_eql_flat (k:=?_)|refine op_andNot (k:=?_)|refine wl_nil ?_|refine at_then_normal ?_|refine at_then_ret ?_|refine wc_seq ?_|refine wc_region ?_|refine wc_skip ?_|refine wc_ret ?_|refine at_ret1 (h:=?_))
  refine ⟨congrArg Value.bool ?_, rfl⟩
  rw [Bool.eq_iff_iff, decide_eq_true_eq, Int.toNat_natCast, Int.toNat_natCast, ← Sp.andNot_zero ha hb]
  omega
theorem c_join (a b : Nat) (ha : a < 256) (hb : b < 256) (w : World) : Cal Tryz.prog 78 #[.int .i64 a, .int .i64 b] w fun v w' => v = .int .i64 ((a ||| b : Nat) : Int) ∧ w' = w := by
  refine enter (N := 8) Tryz.func78 rfl [(0, .int .i64 a), (1, .int .i64 b)] args2 rfl ?_
  repeat' (first|refine op_move (k:=?_)|refine op_assign (k:=?_)|refine op_or (k:=?_)|refine wl_nil ?_|refine at_then_normal ?_|refine at_then_ret ?_|refine wc_seq ?_|refine wc_region ?_|refine wc_skip ?_|refine wc_ret ?_|refine at_ret1 (h:=?_))
  exact ⟨rfl, rfl⟩
theorem c_meet (a b : Nat) (ha : a < 256) (hb : b < 256) (w : World) : Cal Tryz.prog 35 #[.int .i64 a, .int .i64 b] w fun v w' => v = .int .i64 ((a &&& b : Nat) : Int) ∧ w' = w := by
  refine enter (N := 8) Tryz.func35 rfl [(0, .int .i64 a), (1, .int .i64 b)] args2 rfl ?_
  repeat' (first|refine op_move (k:=?_)|refine op_assign (k:=?_)|refine op_and (k:=?_)|refine wl_nil ?_|refine at_then_normal ?_|refine at_then_ret ?_|refine wc_seq ?_|refine wc_region ?_|refine wc_skip ?_|refine wc_ret ?_|refine at_ret1 (h:=?_))
  exact ⟨rfl, rfl⟩
end Go.Proofs.YthmdffgiockcbaaGreatDoor
end
section
namespace Go.Sp
theorem findLc_cut (n : List UInt8) {l : List Lc} {k : Nat} {x : Lc} (h : l[k]? = some x) : findLc (l.take (k + 1)) n = if x.name = n then some x else findLc (l.take k) n := by
  rw [take_succ_get h, findLc_snoc]
end Go.Sp
namespace Go.Proofs.YthmdffgiockcbaaGreatDoor
open Go.Fw
abbrev encLc (l : Sp.Lc) : List Value := [str l.name, nt l.at_]
abbrev lcRow (sc : List Sp.Lc) (sa : Option Addr) (sp : Nat) : HItem := .row (.slice sa sc.length sp) 194 2 sc.length (sc.flatMap encLc)
abbrev fCells (bf : Nat) (pi : Value) (sc : List Sp.Lc) (sa : Option Addr) (sp : Nat) (s : Sp.FW) (da : Option Addr) (dp : Nat) (vf : Value) (at_ : Int) : List Value :=
  [ptr bf, pi, .slice sa sc.length sp, .slice da s.ds.length dp, vf, .int .i64 at_, .bool s.hv.isSome, nt (s.hv.getD 0)]
abbrev fObj (bc bf : Nat) (pi : Value) (sc : List Sp.Lc) (sa : Option Addr) (sp : Nat) (s : Sp.FW) (da : Option Addr) (dp : Nat) (vf : Value) (at_ : Int) : HItem :=
  .obj bc (.cells (fCells bf pi sc sa sp s da dp vf at_).toArray 164 (0, 0))
abbrev FSt (bc bf : Nat) (pi : Value) (sc : List Sp.Lc) (sa : Option Addr) (sp : Nat) (s : Sp.FW) (da : Option Addr) (dp : Nat) (vf : Value) (at_ : Int) : List HItem :=
  [fObj bc bf pi sc sa sp s da dp vf at_, lcRow sc sa sp, dgRow s.ds da dp]
abbrev ToF (bc bf : Nat) (pi : Value) (vf : Value) (at_ : Int) (sc : List Sp.Lc) (s : Sp.FW) (val : Value) : Value → Imm → List HItem → Prop :=
  fun v _ H' => v = val ∧ ∃ sa sp da dp, H' = FSt bc bf pi sc sa sp s da dp vf at_
structure FRd (J : Imm) (bc bf : Nat) (pi : Value) (sc : List Sp.Lc) (sa : Option Addr) (sp : Nat) (v3 v4 v5 v6 v7 : Value) : Prop where
  ptr : PtrI J bc 0 164 [ptr bf, pi, .slice sa sc.length sp, v3, v4, v5, v6, v7]
  row : RowI J 194 2 (.slice sa sc.length sp) sc.length (sc.flatMap encLc)
theorem FRd.le {I J : Imm} (m : Le I J) {bc bf : Nat} {pi : Value} {sc : List Sp.Lc} {sa : Option Addr} {sp : Nat} {v3 v4 v5 v6 v7 : Value} (h : FRd I bc bf pi sc sa sp v3 v4 v5 v6 v7) : FRd J bc bf pi sc sa sp v3 v4 v5 v6 v7 := ⟨h.ptr.le m, h.row.le m⟩
section
variable {I : Imm} {bc bf sp dp : Nat} {pi vf : Value} {sc : List Sp.Lc} {sa da : Option Addr} {s : Sp.FW} {at_ : Int}
theorem CalR.flow {f : FuncId} {args : Array Value} {v : Value} (h : ∀ J, Le I J → FRd J bc bf pi sc sa sp (.slice da s.ds.length dp) vf (.int .i64 at_) (.bool s.hv.isSome) (nt (s.hv.getD 0)) → CalR Tryz.prog f args J [] v) :
    CalR Tryz.prog f args I (FSt bc bf pi sc sa sp s da dp vf at_) v :=
  CalR.of fun w J hm hl hH hJ => by
    have h1 := immOf_ptr (hH (fObj bc bf pi sc sa sp s da dp vf at_) (by simp))
    have h2 := immOf_row (hH (lcRow sc sa sp) (by simp))
    rw [← hJ] at h1 h2
    exact (h J hl ⟨h1, h2⟩).run w hm.inv (fun _ h => by cases h)
theorem f_get0 {J : Imm} {v3 v4 v5 v6 v7 : Value} (n : List UInt8) (hs : sc.length ≤ 1099511627776) (h : FRd J bc bf pi sc sa sp v3 v4 v5 v6 v7) : CalR Tryz.prog 174 #[ptr bc, str n] J [] (nt (Sp.getF sc n)) := by
  refine CalR.of fun w K hm hl _ _ => enter (N := 34) Tryz.func174 rfl [(0, ptr bc), (1, str n)] args2 rfl ?_
  obtain ⟨hp, hr⟩ := h.le hl
  repeat' (first|refine i_load1 hm (k:=?_)|refine op_move (k:=?_)|refine op_assign (k:=?_)|refine op_len_slice (k:=?_)|refine op_nilCheck (k:=?_)|refine op_sub (k:=?_)|refine op_fieldAddr (k:=?_)|refine wl_nil ?_|refine at_then_normal ?_|refine wc_seq ?_|refine wc_region ?_|refine wc_block ?_)
  refine wc_loop (fun k : Nat => [(0, ptr bc), (1, str n), (5, .int .i64 ((k : Int) - 1))]) (fun k w' => Mem ⟨w, [], K⟩ K [] w' ∧ k ≤ sc.length ∧ Sp.findLc sc n = Sp.findLc (sc.take k) n) (fun k => k) sc.length (by exact ⟨rfl, rfl, rfl, trivial⟩) ⟨hm, Nat.le_refl _, by rw [List.take_length]⟩ ?_
  clear hm
  rintro k w1 ⟨hm, hk, hf⟩
  try dsimp only at hm hk hf ⊢
  by_cases h0 : 0 < k
  · have hg : sc[k - 1]? = some sc[k - 1] := List.getElem?_eq_getElem (by omega)
    have hcut := Sp.findLc_cut n hg
    rw [show k - 1 + 1 = k by omega] at hcut
    generalize sc[k - 1] = x at hg hcut
    rw [hcut] at hf
    have hi : sc[((k : Int) - 1).toNat]? = some x := by rw [show ((k : Int) - 1).toNat = k - 1 by omega]; exact hg
    by_cases hx : x.name = n
    · rw [if_pos hx] at hf
      repeat' (first|(refine i_indexFlat (d:=21) (enc:=encLc) (z:=x) (hr:=hr) (he:=fun _ => rfl) (hz:=hi) (k:=?_); intro b1 o1 p1)|(refine i_indexFlat (d:=31) (enc:=encLc) (z:=x) (hr:=hr) (he:=fun _ => rfl) (hz:=hi) (k:=?_); intro b2 o2 p2)|refine i_load1 hm (k:=?_)|refine op_move (k:=?_)|refine op_assign (k:=?_)|refine op_geq (k:=?_)|refine op_eql_str (k:=?_)|refine op_nilCheck (k:=?_)|refine op_fieldAddr (k:=?_)|refine wl_nil ?_|refine at_then_normal ?_|refine at_then_ret ?_|refine at_block_ret ?_|refine wc_seq ?_|refine wc_region ?_|refine wc_block ?_|refine wc_skip ?_|refine wc_ret ?_|refine at_ret1 (h:=?_)|(refine wc_cond_dec (ht:=fun _ => ?_) (hf:=fun _ => ?_)<;> (try first | contradiction | (exfalso; omega))))
      all_goals try (exfalso; first | omega | contradiction)
      exact ⟨by rw [Sp.getF, hf], hm.kept⟩
    · rw [if_neg hx] at hf
      repeat' (first|(refine i_indexFlat (d:=21) (enc:=encLc) (z:=x) (hr:=hr) (he:=fun _ => rfl) (hz:=hi) (k:=?_); intro b1 o1 p1)|refine i_load1 hm (k:=?_)|refine op_move (k:=?_)|refine op_assign (k:=?_)|refine op_geq (k:=?_)|refine op_eql_str (k:=?_)|refine op_nilCheck (k:=?_)|refine op_sub (k:=?_)|refine op_fieldAddr (k:=?_)|refine wl_nil ?_|refine at_then_normal ?_|refine at_block_normal ?_|refine wc_seq ?_|refine wc_region ?_|refine wc_block ?_|refine wc_skip ?_|(refine wc_cond_dec (ht:=fun _ => ?_) (hf:=fun _ => ?_)<;> (try first | contradiction | (exfalso; omega))))
      all_goals try (exfalso; first | omega | contradiction)
      refine at_round (k - 1 : Nat) (by exact ⟨rfl, rfl, by rw [show (((k - 1 : Nat) : Int) - 1) = (k : Int) - 1 - 1 by omega]; rfl, trivial⟩) ⟨hm, by omega, hf⟩ (by omega)
  · obtain rfl : k = 0 := by omega
    repeat' (first|refine op_move (k:=?_)|refine op_assign (k:=?_)|refine op_geq (k:=?_)|refine wl_nil ?_|refine at_then_normal ?_|refine at_then_exit ?_|refine at_block_exit ?_|refine wc_seq ?_|refine wc_region ?_|refine wc_exit ?_|refine wc_ret ?_|refine at_ret1 (h:=?_)|refine wc_cond_false (hf:=?_))
    all_goals try (exfalso; omega)
    exact ⟨by rw [Sp.getF, hf]; rfl, hm.kept⟩
theorem FSt_tell (bc bf : Nat) (pi : Value) (sc : List Sp.Lc) (sa : Option Addr) (sp : Nat) (s : Sp.FW) (f t : Nat) (n : List UInt8) (da : Option Addr) (dp : Nat) (vf : Value) (at_ : Int) :
    [.obj bc (.cells [ptr bf, pi, .slice sa sc.length sp, .slice da (s.ds.length + 1) dp, vf, .int .i64 at_, .bool s.hv.isSome, nt (s.hv.getD 0)].toArray 164 (0, 0)), lcRow sc sa sp, .row (.slice da (s.ds.length + 1) dp) 154 4 (s.ds.length + 1) (s.ds.flatMap encDg ++ encDg ⟨f, t, 9, n⟩)] = FSt bc bf pi sc sa sp (s.tell f t n) da dp vf at_ := by
  simp [Sp.FW.tell, List.flatMap_append]
theorem f_tell (n : List UInt8) (f t : Nat) (hd : s.ds.length < 1099511627776) :
    CalM Tryz.prog 192 #[ptr bc, nt f, nt t, str n] I (FSt bc bf pi sc sa sp s da dp vf at_) (ToF bc bf pi vf at_ sc (s.tell f t n) (.tuple #[])) := by
  refine CalM.of fun w E hm => enter (N := 21) Tryz.func192 rfl [(0, ptr bc), (1, nt f), (2, nt t), (3, str n)] args4 rfl ?_
  repeat' (first|(refine m_push (d:=18) hm (k:=?_); clear hm; intro a18 cp18 _ _ hm; try simp only [setn] at hm)|refine m_load1 hm (k:=?_)|(refine m_store1 hm (k:=?_); clear hm; intro _ hm; try simp only [setn] at hm)|refine op_move (k:=?_)|refine op_nilCheck (k:=?_)|refine op_fieldAddr (k:=?_)|refine op_struct (k:=?_)|refine wl_nil ?_|refine wc_region ?_|refine at_end0 (h:=?_))
  exact ⟨I, _, ⟨rfl, _, _, _, _, FSt_tell _ _ _ _ _ _ s f t n _ _ _ _⟩, hm⟩
theorem f_to (x : Sp.Stm) (b o tc : Nat) (cs : List Value) (hp : PtrI I b o tc cs) (hx : StAt I x cs) (a c : Nat) (ha : a < 256) (hc : c < 256) (hd : s.ds.length < 1099511627776) :
    CalM Tryz.prog 173 #[ptr bc, .pointer (some ⟨b, o, none⟩), nt a, nt c] I (FSt bc bf pi sc sa sp s da dp vf at_) (ToF bc bf pi vf at_ sc (s.ask a c x.fr x.to x.name) (.tuple #[])) := by
  refine CalM.of fun w E hm => enter (N := 26) Tryz.func173 rfl [(0, ptr bc), (1, .pointer (some ⟨b, o, none⟩)), (2, nt a), (3, nt c)] args4 rfl ?_
  obtain ⟨ea, ec, ex, a1, c1, xs1, a2, c2, xs2, rfl, _⟩ := hx.out
  have hF := fun w => c_flows a c ha hc w
  rw [Sp.FW.ask]
  cases hb : Sp.flows a c with
  | true =>
    rw [hb] at hF
    repeat' (first|(refine op_call (d:=10) (hc:=by exact hF _) (k:=?_); rintro _ _ ⟨rfl, rfl⟩)|refine op_move (k:=?_)|refine op_not (k:=?_)|refine wl_nil ?_|refine at_then_normal ?_|refine wc_seq ?_|refine wc_region ?_|refine wc_skip ?_|refine at_end0 (h:=?_)|refine wc_cond_false (hf:=?_))
    all_goals try (exfalso; first | omega | contradiction)
    exact ⟨I, _, ⟨rfl, _, _, _, _, rfl⟩, hm⟩
  | false =>
    rw [hb] at hF
    have hT := fun J => f_tell (I := J) (bc := bc) (bf := bf) (pi := pi) (sc := sc) (sa := sa) (sp := sp) (s := s) (da := da) (dp := dp) (vf := vf) (at_ := at_) x.name x.fr x.to hd
    repeat' (first|(refine op_call (d:=10) (hc:=by exact hF _) (k:=?_); rintro _ _ ⟨rfl, rfl⟩)|(refine wc_quiet_tail (id:=1) 13 (h:=?_))|(refine m_call (d:=25) hm (hc:=hT _) (k:=?_); clear hm; rintro _ I2 _ _ ⟨rfl, sa2, sp2, da2, dp2, rfl⟩ hle hm; have hleI2 := hle; try simp only [setn] at hm)|refine iq_load1 hm (k:=?_)|refine op_move (k:=?_)|refine op_not (k:=?_)|refine wl_nil ?_|refine at_then_normal ?_|refine wc_seq ?_|refine wc_region ?_|refine at_end0 (h:=?_)|(refine wq_nil_tail ?_; intro _ hkq; replace hm := hm.kept0 hkq; clear hkq)|refine wc_cond_true (ht:=?_)|refine q_move (k:=?_)|refine q_nilCheck (k:=?_)|refine q_fieldAddr (k:=?_))
    all_goals try (exfalso; first | omega | contradiction)
    exact ⟨I2, _, ⟨rfl, _, _, _, _, rfl⟩, hm⟩
end
structure FC (I : Imm) (its : List Sp.Itm) (it : Sp.Itm) (bf : Nat) (a : Option Addr) (cp : Nat) (xs : List Value) (pi vf : Value) : Prop where
  file : PtrI I bf 0 25 [.slice a its.length cp]
  fe : FE I its a cp xs
  item : ∃ bi oi tc ci, pi = .pointer (some ⟨bi, oi, none⟩) ∧ PtrI I bi oi tc ci ∧ ItAt I it ci
  floors : ∃ fa fp, vf = .slice fa its.length fp ∧ RowI I 3 1 (.slice fa its.length fp) its.length ((Sp.floorsF its).flatMap encInt)
  lab : Sp.itLab its
  own : it.label < 256
theorem FC.le {I J : Imm} (m : Le I J) {its : List Sp.Itm} {it : Sp.Itm} {bf : Nat} {a : Option Addr} {cp : Nat} {xs : List Value} {pi vf : Value} (h : FC I its it bf a cp xs pi vf) : FC J its it bf a cp xs pi vf := by
  obtain ⟨h1, h2, ⟨bi, oi, tc, ci, e, h3, h4⟩, ⟨fa, fp, e2, h5⟩, h6, h7⟩ := h
  exact ⟨h1.le m, h2.le m, ⟨bi, oi, tc, ci, e, h3.le m, h4.le m⟩, ⟨fa, fp, e2, h5.le m⟩, h6, h7⟩
end Go.Proofs.YthmdffgiockcbaaGreatDoor
end
section
namespace Go.Sp
theorem plainF_eq (its : List Itm) (sc : List Lc) (e : Ex) : plainF its sc e = if e.kind = 2 then getF sc e.name else if e.kind = 3 then plainsF its sc e.args 0 else if e.kind = 4 then callLab its e.name else 0 := by
  cases e; rw [plainF]; rfl
theorem findV_some {its : List Itm} {k : Int} {n : List UInt8} {j : Nat} (h : findIt its k n = some j) : findV its k n = j := by rw [findV, h]
theorem findV_none {its : List Itm} {k : Int} {n : List UInt8} (h : findIt its k n = none) : findV its k n = -1 := by rw [findV, h]
end Go.Sp
namespace Go.Proofs.YthmdffgiockcbaaGreatDoor
open Go.Fw
set_option maxHeartbeats 8000000 in
theorem f_plain0 {its : List Sp.Itm} {it : Sp.Itm} {bc bf sp : Nat} {a : Option Addr} {cp : Nat} {xs : List Value} {pi vf v3 v5 v6 v7 : Value} {sc : List Sp.Lc} {sa : Option Addr} (hs : sc.length ≤ 1099511627776) (hsl : Sp.scLab sc) :
    ∀ (n : Nat) (e : Sp.Ex), SizeOf.sizeOf e ≤ n → e.small → ∀ (J : Imm) (b o tc : Nat) (ea : Option Addr) (ec : Nat) (ys : List Value), FRd J bc bf pi sc sa sp v3 vf v5 v6 v7 → FC J its it bf a cp xs pi vf →
      PtrI J b o tc (exCells e ea ec) → RowI J 102 6 (.slice ea e.args.length ec) e.args.length ys → ExsAt J e.args ys →
      CalR Tryz.prog 171 #[ptr bc, .pointer (some ⟨b, o, none⟩)] J [] (nt (Sp.plainF its sc e)) := by
  intro n
  induction n with
  | zero => intro e h; cases e; simp at h
  | succ n ih =>
  intro e hsz hsm J b o tc ea ec ys hR0 hC0 hp0 hr0 hx0
  obtain ⟨hal, hasm⟩ := Sp.small_args hsm
  refine CalR.of fun w K hm hl _ _ => enter (N := 68) Tryz.func171 rfl [(0, ptr bc), (1, .pointer (some ⟨b, o, none⟩))] args2 rfl ?_
  have hR := hR0.le hl
  have hC := hC0.le hl
  have hp := hp0.le hl
  have hr := hr0.le hl
  have hx := ExsAt.le hl _ _ hx0
  clear hR0 hC0 hp0 hr0 hx0
  obtain ⟨hRp, hRr⟩ := hR
  have hCf := hC.file
  rw [Sp.plainF_eq]
  by_cases k2 : e.kind = 2
  · rw [if_pos k2]
    repeat' (first|(refine m_readC (d:=19) hm (hc:=f_get0 e.name hs ⟨hRp, hRr⟩) (k:=?_); clear hm; intro _ hm)|refine i_load1 hm (k:=?_)|refine op_move (k:=?_)|refine op_assign (k:=?_)|refine op_eql (k:=?_)|refine op_nilCheck (k:=?_)|refine op_fieldAddr (k:=?_)|refine wl_nil ?_|refine at_then_normal ?_|refine at_block_normal ?_|refine wc_seq ?_|refine wc_region ?_|refine wc_block ?_|refine wc_ret ?_|refine at_ret1 (h:=?_)|(refine wc_cond_dec (ht:=fun _ => ?_) (hf:=fun _ => ?_)<;> (try first | contradiction | (exfalso; omega))))
    all_goals try (exfalso; omega)
    exact ⟨rfl, hm.kept⟩
  rw [if_neg k2]
  by_cases k3 : e.kind = 3
  · rw [if_pos k3]
    repeat' (first|refine i_load1 hm (k:=?_)|refine op_move (k:=?_)|refine op_assign (k:=?_)|refine op_eql (k:=?_)|refine op_len_slice (k:=?_)|refine op_nilCheck (k:=?_)|refine op_fieldAddr (k:=?_)|refine wl_nil ?_|refine at_then_normal ?_|refine wc_seq ?_|refine wc_region ?_|refine wc_block ?_|(refine wc_cond_dec (ht:=fun _ => ?_) (hf:=fun _ => ?_)<;> (try first | contradiction | (exfalso; omega))))
    all_goals try (exfalso; omega)
    refine wc_loop (fun k : Nat => [(0, ptr bc), (1, .pointer (some ⟨b, o, none⟩)), (5, nt (Sp.plainsF its sc (e.args.take k) 0)), (26, nt e.args.length), (27, nt k)]) (fun k w' => Mem ⟨w, [], K⟩ K [] w' ∧ k ≤ e.args.length) (fun k => e.args.length - k) 0
      (by exact ⟨rfl, rfl, by rw [List.take_zero, Sp.plainsF]; rfl, rfl, rfl, trivial⟩) ⟨hm, Nat.zero_le _⟩ ?_
    clear hm
    rintro k w1 ⟨hm, hk⟩
    try dsimp only at hm hk ⊢
    by_cases hlt : k < e.args.length
    · have hg : e.args[k]? = some e.args[k] := List.getElem?_eq_getElem hlt
      have hsz2 := Sp.size_args (List.getElem_mem hlt)
      have hsm2 := Sp.exsSmall_get hasm hg
      obtain ⟨ea2, ec2, ys2, hc2, hr2, hx2⟩ := (hx.get hg).out
      generalize e.args[k] = y at hg hsz2 hsm2 hc2 hr2 hx2
      have hst := Sp.plainsF_step its sc hg 0
      have hl1 := Sp.plainsF_lt hC.lab hsl (e.args.take k) 0 (by omega)
      have hl2 := Sp.plainF_lt hC.lab hsl y
      repeat' (first|(refine i_indexAddr (d:=37) (hr:=hr) (k:=?_); intro bt ot hpt; rw [show ((k : Int).toNat * 6) = k * 6 from rfl, hc2] at hpt)|(refine m_readC (d:=38) hm (hc:=ih y (by omega) hsm2 K _ _ _ ea2 ec2 ys2 ⟨hRp, hRr⟩ hC hpt hr2 hx2) (k:=?_); clear hm; intro _ hm)|(refine op_call (d:=39) (hc:=by exact c_join _ _ hl1 hl2 _) (k:=?_); rintro _ _ ⟨rfl, rfl⟩)|refine i_load1 hm (k:=?_)|refine op_move (k:=?_)|refine op_assign (k:=?_)|refine op_lss (k:=?_)|refine op_nilCheck (k:=?_)|refine op_add (k:=?_)|refine op_fieldAddr (k:=?_)|refine wl_nil ?_|refine at_then_normal ?_|refine at_block_normal ?_|refine wc_seq ?_|refine wc_region ?_|refine wc_block ?_|refine wc_skip ?_|(refine wc_cond_dec (ht:=fun _ => ?_) (hf:=fun _ => ?_)<;> (try first | contradiction | (exfalso; omega))))
      all_goals try (exfalso; omega)
      refine at_round (k + 1 : Nat) (by exact ⟨rfl, rfl, by rw [hst]; rfl, rfl, rfl, trivial⟩) ⟨hm, by omega⟩ (by omega)
    · obtain rfl : k = e.args.length := by omega
      repeat' (first|refine op_move (k:=?_)|refine op_assign (k:=?_)|refine op_lss (k:=?_)|refine wl_nil ?_|refine at_then_normal ?_|refine at_then_exit ?_|refine at_block_normal ?_|refine at_block_exit ?_|refine wc_seq ?_|refine wc_region ?_|refine wc_exit ?_|refine wc_ret ?_|refine at_ret1 (h:=?_)|(refine wc_cond_dec (ht:=fun _ => ?_) (hf:=fun _ => ?_)<;> (try first | contradiction | (exfalso; omega))))
      all_goals try (exfalso; omega)
      exact ⟨by rw [List.take_length], hm.kept⟩
  rw [if_neg k3]
  by_cases k4 : e.kind = 4
  · rw [if_pos k4]
    have hfind := (n_find 2 e.name its K a cp xs hC.fe).read
    cases hf : Sp.findIt its 2 e.name with
    | some j =>
      obtain ⟨hj, _, _, _, _⟩ := Sp.findIt_lt hf
      obtain ⟨ci, hci, hat, hlc⟩ := hC.fe.get (Sp.itNo_get hj)
      obtain ⟨pa, pc, sa1, sc1, ba, bc1, da, dc, xb, rfl, _⟩ := hat
      have hri := hC.fe.row
      rw [Sp.callLab, hf]
      rw [Sp.findV_some hf] at hfind
      repeat' (first|(refine mq_readC (d:=53) hm (hc:=hfind) (k:=?_))|(refine i_indexAddr (d:=64) (hr:=hri) (k:=?_); intro bt ot hpt; rw [show ((j : Int).toNat * 10) = j * 10 from rfl, hci] at hpt)|refine i_load1 hm (k:=?_)|refine iq_load1 hm (k:=?_)|refine iq_loadN hm (k:=?_)|refine op_move (k:=?_)|refine op_assign (k:=?_)|refine op_geq (k:=?_)|refine op_eql (k:=?_)|refine op_nilCheck (k:=?_)|refine op_fieldAddr (k:=?_)|refine wl_nil ?_|refine at_then_normal ?_|refine at_block_normal ?_|refine wc_seq ?_|refine wc_region ?_|refine wc_block ?_|refine wc_ret ?_|refine at_ret1 (h:=?_)|refine wc_quiet (h:=?_)|(refine wq_nil ?_; intro _ hkq; replace hm := hm.kept0 hkq; clear hkq)|refine wc_cond_true (ht:=?_)|(refine wc_cond_dec (ht:=fun _ => ?_) (hf:=fun _ => ?_)<;> (try first | contradiction | (exfalso; omega)))|refine q_move (k:=?_)|refine q_assign (k:=?_)|refine q_nilCheck (k:=?_)|refine q_fieldAddr (k:=?_))
      all_goals try (exfalso; omega)
      exact ⟨rfl, hm.kept⟩
    | none =>
      rw [Sp.callLab, hf]
      rw [Sp.findV_none hf] at hfind
      repeat' (first|(refine mq_readC (d:=53) hm (hc:=hfind) (k:=?_))|refine i_load1 hm (k:=?_)|refine iq_load1 hm (k:=?_)|refine iq_loadN hm (k:=?_)|refine op_move (k:=?_)|refine op_assign (k:=?_)|refine op_geq (k:=?_)|refine op_eql (k:=?_)|refine op_nilCheck (k:=?_)|refine op_fieldAddr (k:=?_)|refine wl_nil ?_|refine at_then_normal ?_|refine at_block_normal ?_|refine wc_seq ?_|refine wc_region ?_|refine wc_block ?_|refine wc_skip ?_|refine wc_ret ?_|refine at_ret1 (h:=?_)|refine wc_quiet (h:=?_)|(refine wq_nil ?_; intro _ hkq; replace hm := hm.kept0 hkq; clear hkq)|refine wc_cond_false (hf:=?_)|(refine wc_cond_dec (ht:=fun _ => ?_) (hf:=fun _ => ?_)<;> (try first | contradiction | (exfalso; omega)))|refine q_move (k:=?_)|refine q_assign (k:=?_)|refine q_nilCheck (k:=?_)|refine q_fieldAddr (k:=?_))
      all_goals try (exfalso; omega)
      exact ⟨rfl, hm.kept⟩
  · rw [if_neg k4]
    repeat' (first|refine i_load1 hm (k:=?_)|refine op_move (k:=?_)|refine op_assign (k:=?_)|refine op_eql (k:=?_)|refine op_nilCheck (k:=?_)|refine op_fieldAddr (k:=?_)|refine wl_nil ?_|refine at_then_normal ?_|refine at_block_normal ?_|refine wc_seq ?_|refine wc_region ?_|refine wc_block ?_|refine wc_skip ?_|refine wc_ret ?_|refine at_ret1 (h:=?_)|(refine wc_cond_dec (ht:=fun _ => ?_) (hf:=fun _ => ?_)<;> (try first | contradiction | (exfalso; omega))))
    all_goals try (exfalso; omega)
    exact ⟨rfl, hm.kept⟩
end Go.Proofs.YthmdffgiockcbaaGreatDoor
end
