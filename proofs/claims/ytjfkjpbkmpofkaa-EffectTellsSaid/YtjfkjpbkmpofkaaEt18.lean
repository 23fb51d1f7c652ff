/- Own work: texts ReG, ReH, one behind the other. -/
import Derived.Test.YtjfkjpbkmpofkaaEt17
section
namespace Go.Fw
/-- a map that is the set of these numbers. -/
structure HadZ (zs : EntsZ) (had : List Nat) : Prop where
  nodup : (zs.map (·.1)).Nodup
  get : ∀ n : Nat, mgetZ zs (n : Int) = if n ∈ had then some (.bool true) else none
theorem HadZ.nil : HadZ [] [] := ⟨List.nodup_nil, fun n => by simp [mgetZ]⟩
theorem HadZ.look {zs : EntsZ} {had : List Nat} (h : HadZ zs had) (k : Nat) : mlookZ zs (k : Int) (.bool false) = .bool (decide (k ∈ had)) := by
  show (mgetZ zs (k : Int)).getD _ = _
  rw [h.get]
  by_cases e : k ∈ had
  · rw [if_pos e, decide_eq_true e]; rfl
  · rw [if_neg e, decide_eq_false e]; rfl
theorem HadZ.put {zs : EntsZ} {had : List Nat} (h : HadZ zs had) (k : Nat) : HadZ (mputZ zs (k : Int) (.bool true)) (k :: had) := by
  refine ⟨mput_nodupZ h.nodup, fun n => ?_⟩
  rw [mget_mputZ _ h.nodup, h.get]
  by_cases e : n = k
  · subst e
    rw [if_pos rfl, if_pos List.mem_cons_self]
  · have e2 : ¬ ((n : Int) = (k : Int)) := fun h => e (by omega)
    rw [if_neg e2]
    by_cases e3 : n ∈ had
    · rw [if_pos e3, if_pos (List.mem_cons_of_mem _ e3)]
    · rw [if_neg e3, if_neg (fun h => by rcases List.mem_cons.1 h with h | h; exact e h; exact e3 h)]
theorem pmRh {x y z : HItem} : [x, y, z].Perm [x, z, y] := .cons _ (.swap _ _ _)
theorem pmRh2 {x y z : HItem} : [x, y, z].Perm [z, x, y] := List.perm_append_comm (l₁ := [x, y]) (l₂ := [z])
end Go.Fw
namespace Go.Proofs.Ytjfkjpbkmpofkaa
open Go.Fw
theorem zero_bool (w : World) : (zeroValue 4).run Try.prog w = .ok (.bool false) w := by kernel_rfl
structure RhX where
  todo : List Nat
  had : List Nat
  snd : List (List UInt8)
  es : Ents
  zs : EntsZ
  I : Imm
  b : Nat
  off : Nat
  cap : Nat
  cur : List Value
structure RhJ where
  j : Nat
  es : Ents
structure RhK where
  j : Nat
  todo : List Nat
  I : Imm
  b : Nat
  off : Nat
  cap : Nat
  cur : List Value
set_option maxHeartbeats 64000000 in
theorem r_reach {its : List Sp.Itm} (i : Nat) (hi : i < its.length) (I : Imm) (a : Option Addr) (cp : Nat) (xs : List Value) (hfe : FE I its a cp xs) (hsm : ∀ it ∈ its, it.small ∧ Sp.stmsCnt it.body ≤ 400000000) (hN : (Sp.namesE its).length ≤ 1000000000) :
    CalM Try.prog 13 #[.agg [.slice a its.length cp].toArray, nt i] I [] (fun v J H' => H' = [] ∧ ∃ ra rp, v = .slice ra (Sp.allE its i).length rp ∧ StrI J (Sp.allE its i) ra rp) := by
  refine CalM.of fun w E hm => enter (N := 78) Try.func13 rfl [(0, .agg [.slice a its.length cp].toArray), (1, nt i)] args2 rfl ?_
  have hfew := hfe.few
  repeat' (first
  | refine wc_hold 1 ?_
  | (refine m_box (d:=2) hm (k:=?_); clear hm; intro b2 _ hm)
  | refine op_assign (k:=?_)
  | refine wl_nil ?_
  | refine at_then_normal ?_
  | refine wc_seq ?_
  | refine wc_region ?_)
  all_goals try (exfalso; omega)
  obtain ⟨I1, hle1, hm1, hpf⟩ := hm.freezeO
  clear hm
  have hm := hm1
  clear hm1
  have hfe1 := hfe.le hle1
  refine ⟨?_⟩
  repeat' (first
  | (refine m_makeMap (d:=17) hm (k:=?_); have := b16; clear hm; intro b17 _ hm)
  | (refine m_makeMap (d:=16) hm (k:=?_); clear hm; intro b16 _ hm)
  | (refine m_buildO (d := 19) hm (by rfl) (by rfl) (by rfl) (by rfl) (by rfl) (by rfl) (by rfl) ?_; clear hm; intro b19 _ hm)
  | refine op_move (k:=?_)
  | refine op_assign (k:=?_)
  | refine wl_nil ?_
  | refine at_then_normal ?_
  | refine wc_seq ?_
  | refine wc_region ?_
  | refine wc_block ?_)
  refine wc_loop (fun x : RhX => [(2, ptr b2), (5, .map (some b16)), (6, .map (some b17)), (7, .slice (some ⟨x.b, x.off, none⟩) x.todo.length x.cap)])
    (fun x w' => Mem E x.I [.obj x.b (.cells x.cur.toArray 3 (0, 0)), .mz b16 x.zs, .mp b17 x.es] w' ∧ Le I1 x.I ∧ Sp.Bfs its i x.todo x.had x.snd ∧ Sp.SetE x.es x.snd ∧ HadZ x.zs x.had ∧ Que x.off x.cap x.cur (x.todo.map (fun k => nt k)) ∧ x.todo.length ≤ 1 + x.had.length * 400000000)
    (fun x => (its.length - x.had.length) * 400000002 + x.todo.length) ⟨[i], [], [], [], [], I1, b19, 0, 1, [nt i]⟩
    (by exact ⟨rfl, rfl, rfl, rfl, trivial⟩) ⟨hm.perm pmRh, Le.refl _, Sp.Bfs.init hi, Sp.SetE.nil, HadZ.nil, Que.one _, by simp⟩ ?_
  clear hm
  rintro ⟨todo, had, snd, es, zs, I2, b, off, cap, cur⟩ w2 ⟨hm, hle2, hB, hS, hZ, hq, htl⟩
  dsimp only at hm hle2 hB hS hZ hq htl ⊢
  have hfe2 := hfe1.le hle2
  have hpf2 := hpf.le hle2
  have hri := hfe2.row
  have hhl := hB.had_le
  cases todo with
  | nil =>
    obtain rfl := hB.done hi
    have hln := Nat.le_trans (Sp.allE_len (its := its) i) hN
    repeat' (first
    | refine wc_hold 21 ?_
    | refine op_move (k:=?_)
    | refine op_gtr (k:=?_)
    | refine op_len_slice (k:=?_)
    | refine wl_nil ?_
    | refine at_then_normal ?_
    | refine at_then_exit ?_
    | refine at_block_exit ?_
    | refine wc_seq ?_
    | refine wc_region ?_
    | refine wc_exit ?_
    | refine wc_cond_false (hf:=?_))
    all_goals try (exfalso; first | omega | contradiction)
    obtain ⟨I3, hle3, hm3, hM3⟩ := Mem.freezeM (hm.perm pmRh2) hS.nodup
    clear hm
    have hm := hm3.left (H := [])
    clear hm3
    have hR := r_rising (b := b17) hS hB.srt hln I3 hM3
    refine ⟨?_⟩
    repeat' (first
    | (refine m_call (d:=77) hm (hp:=pm0) (hc:=hR) (k:=?_); clear hm; rintro _ I4 _ _ ⟨ra, rp, rfl, rfl, hr4⟩ hleI4 hm; try simp only [setn] at hm)
    | refine op_move (k:=?_)
    | refine op_assign (k:=?_)
    | refine wl_nil ?_
    | refine at_then_normal ?_
    | refine wc_region ?_
    | refine wc_ret ?_
    | refine at_ret1 (h:=?_))
    all_goals try (exfalso; omega)
    exact ⟨I4, [], ⟨rfl, ra, rp, rfl, hr4⟩, hm⟩
  | cons k td =>
    obtain ⟨_, hk⟩ := hB.from_ k (.inl List.mem_cons_self)
    have hcl : (k :: td).length = td.length + 1 := rfl
    have hqf := hq.fits
    rw [List.length_map] at hqf
    have hhd := hq.head
    obtain ⟨off1, ho1⟩ : ∃ o, o = if cap = 1 then off else off + 1 := ⟨_, rfl⟩
    have hq1 : Que off1 (cap - 1) cur (td.map (fun k => nt k)) := by rw [ho1]; exact hq.cut
    have hg : its[k]? = some its[k] := List.getElem?_eq_getElem hk
    have hno : Sp.itNo its k = its[k] := by rw [Sp.itNo, List.getD_eq_getElem?_getD, hg]; rfl
    have hss := hsm _ (List.getElem_mem hk)
    obtain ⟨cs, hcs, hat, hl10⟩ := hfe2.get hg
    rw [← hno] at hat hss
    have hvis := fun (h1 : k ∉ had) (h2 : (Sp.itNo its k).kind = 2) => hB.visit h1 h2
    have hskp := fun h => hB.skip (k := k) h
    have hce : (Sp.itNo its k).kind = 2 → Sp.callsE its k = Sp.findsE its (Sp.ownE (Sp.itNo its k)).2 := fun h => by rw [Sp.callsE, if_pos h]
    generalize Sp.itNo its k = it at hat hss hvis hskp hce
    have hOw := r_own it hss.1 hss.2 I2 cs hat
    obtain ⟨ap, cp', as_, cs', ab, cb', ad, cd, xb, rfl, _⟩ := hat
    have hlk := hZ.look k
    by_cases h1 : k ∈ had
    · have hB1 := hskp (.inl h1)
      rw [decide_eq_true h1] at hlk
      repeat' (first
      | (refine m_load1 (d:=25) hm (hb:=gt0) (hc:=by exact hhd) (k:=?_))
      | (refine op_cutQ (d := 27) (by rfl) (by rfl) (by rfl) (by rfl) (by rfl) (by rfl) hqf ?_; rw [← ho1])
      | (refine m_lookupZ (d := 30) hm (by rfl) (by rfl) (by rfl) (by rfl) gt1 hZ.nodup zero_bool ?_; rw [hlk])
      | refine op_move (k:=?_)
      | refine op_assign (k:=?_)
      | refine op_pick_true (k:=?_)
      | refine op_gtr (k:=?_)
      | refine op_len_slice (k:=?_)
      | refine op_indexAddr (k:=?_)
      | refine wl_skip (k:=?_)
      | refine wl_nil ?_
      | refine at_then_normal ?_
      | refine at_then_exit ?_
      | refine at_block_exit ?_
      | refine wc_seq ?_
      | refine wc_region ?_
      | refine wc_block ?_
      | refine wc_skip ?_
      | refine wc_exit ?_
      | refine wc_cond_true (ht:=?_)
      | (refine wc_cond_dec (ht:=fun _ => ?_) (hf:=fun _ => ?_)<;> (try first | contradiction | (exfalso; omega))))
      all_goals try (exfalso; first | omega | contradiction)
      exact at_round (⟨td, had, snd, es, zs, I2, b, off1, cap - 1, cur⟩ : RhX) (by exact ⟨rfl, rfl, rfl, rfl, trivial⟩) ⟨hm, hle2, hB1, hS, hZ, hq1, by dsimp only; omega⟩ (by dsimp only; omega)
    rw [decide_eq_false h1] at hlk
    by_cases h2 : it.kind = 2
    · have hB1 := hvis h1 h2
      rw [hce h2] at hB1
      have hZ1 := hZ.put k
      have hne := (Sp.ownE_ne it).1
      have hln := Sp.ownE_len it
      have hhl1 : had.length + 1 ≤ its.length := hB1.had_le
      have hmem : ∀ x ∈ (Sp.ownE it).1, x ≠ [] := fun x hx e => hne (e ▸ hx)
      clear hvis hskp hce hne
      generalize Sp.ownE it = r at hOw hB1 hln hmem
      obtain ⟨rs, rc⟩ := r
      dsimp only at hOw hB1 hln hmem
      have hcn := hss.2
      repeat' (first
      | (refine m_load1 (d:=25) hm (hb:=gt0) (hc:=by exact hhd) (k:=?_))
      | (refine op_cutQ (d := 27) (by rfl) (by rfl) (by rfl) (by rfl) (by rfl) (by rfl) hqf ?_; rw [← ho1])
      | (refine m_lookupZ (d := 30) hm (by rfl) (by rfl) (by rfl) (by rfl) gt1 hZ.nodup zero_bool ?_; rw [hlk])
      | (refine i_indexAddr (d:=35) (hr:=hri) (k:=?_); intro bt ot hpt; rw [show ((k : Int).toNat * 10) = k * 10 from rfl, hcs] at hpt)
      | (refine wl_mapUpdate ?_; refine m_putZ hm (by rfl) (by rfl) (by rfl) (by rfl) (by rfl) gt1 hZ.nodup ?_; clear hm; intro _ hm; try simp only [setn] at hm)
      | (refine i_indexAddr (d:=46) (hr:=hri) (k:=?_); intro bu ou hpu; rw [show ((k : Int).toNat * 10) = k * 10 from rfl, hcs] at hpu)
      | (refine i_loadN (d:=47) hm (hp:=hpu) (k:=?_))
      | (refine m_call (d:=48) hm (hp:=pm0) (hc:=hOw) (k:=?_); clear hm; rintro _ I3 _ _ ⟨rfl, sa, sp, ca, cp3, rfl, hrs, hrc⟩ hleI3 hm; try simp only [setn] at hm)
      | refine i_load1 hm (k:=?_)
      | refine op_move (k:=?_)
      | refine op_assign (k:=?_)
      | refine op_pick_false (k:=?_)
      | refine op_gtr (k:=?_)
      | refine op_neq (k:=?_)
      | refine op_len_slice (k:=?_)
      | refine op_extract (k:=?_)
      | refine op_fieldAddr (k:=?_)
      | refine op_indexAddr (k:=?_)
      | refine wl_nil ?_
      | refine at_then_normal ?_
      | refine wc_seq ?_
      | refine wc_region ?_
      | refine wc_block ?_
      | refine wc_skip ?_
      | (refine wc_cond_dec (ht:=fun _ => ?_) (hf:=fun _ => ?_)<;> (try first | contradiction | (exfalso; omega))))
      all_goals try (exfalso; first | omega | contradiction)
      refine wc_loop (fun x : RhJ => [(2, ptr b2), (5, .map (some b16)), (6, .map (some b17)), (7, .slice (some ⟨b, off1, none⟩) td.length (cap - 1)), (10, .slice ca rc.length cp3), (51, .slice sa rs.length sp), (52, nt rs.length), (53, nt x.j)])
        (fun x w' => Mem E I3 [.obj b (.cells cur.toArray 3 (0, 0)), .mz b16 (mputZ zs k (.bool true)), .mp b17 x.es] w' ∧ Sp.SetE x.es (Sp.joinE snd (rs.take x.j)) ∧ x.j ≤ rs.length)
        (fun x => rs.length - x.j) ⟨0, es⟩ (by exact ⟨rfl, rfl, rfl, rfl, rfl, rfl, rfl, rfl, trivial⟩) ⟨hm, hS, Nat.zero_le _⟩ ?_
      clear hm hS
      rintro ⟨j, es3⟩ w3 ⟨hm, hS, hj⟩
      dsimp only at hm hS hj ⊢
      by_cases hlt : j < rs.length
      · have hgj : rs[j]? = some rs[j] := List.getElem?_eq_getElem hlt
        have hnj := hmem _ (List.getElem_mem hlt)
        have hst := Sp.joinE_step (a := snd) hgj
        generalize rs[j] = nm at hgj hnj hst
        repeat' (first
        | (refine i_indexFlat (d:=55) (enc:=encS) (z:=nm) (hr:=hrs) (he:=fun _ => rfl) (hz:=by exact hgj) (k:=?_); intro bz oz hpz)
        | (refine wl_mapUpdate ?_; refine m_put hm (by rfl) (by rfl) (by rfl) (by rfl) (by rfl) gt2 hS.nodup ?_; clear hm; intro _ hm; try simp only [setn] at hm)
        | refine i_load1z hm (k:=?_)
        | refine op_move (k:=?_)
        | refine op_assign (k:=?_)
        | refine op_lss (k:=?_)
        | refine op_add (k:=?_)
        | refine wl_nil ?_
        | refine at_then_normal ?_
        | refine at_block_normal ?_
        | refine wc_seq ?_
        | refine wc_region ?_
        | refine wc_block ?_
        | refine wc_skip ?_
        | (refine wc_cond_dec (ht:=fun _ => ?_) (hf:=fun _ => ?_)<;> (try first | contradiction | (exfalso; omega))))
        all_goals try (exfalso; first | omega | contradiction)
        exact at_round (⟨j + 1, mput es3 nm (.bool true)⟩ : RhJ) (by exact ⟨rfl, rfl, rfl, rfl, rfl, rfl, rfl, rfl, trivial⟩) ⟨hm, by dsimp only; rw [hst]; exact hS.put hnj, by dsimp only; omega⟩ (by dsimp only; omega)
      · obtain rfl : j = rs.length := by omega
        rw [List.take_length] at hS
        repeat' (first
        | refine op_move (k:=?_)
        | refine op_lss (k:=?_)
        | refine op_len_slice (k:=?_)
        | refine wl_nil ?_
        | refine at_then_normal ?_
        | refine at_then_exit ?_
        | refine at_block_exit ?_
        | refine wc_seq ?_
        | refine wc_region ?_
        | refine wc_block ?_
        | refine wc_exit ?_
        | (refine wc_cond_dec (ht:=fun _ => ?_) (hf:=fun _ => ?_)<;> (try first | contradiction | (exfalso; omega))))
        all_goals try (exfalso; first | omega | contradiction)
        refine wc_loop (fun x : RhK => [(2, ptr b2), (5, .map (some b16)), (6, .map (some b17)), (7, .slice (some ⟨x.b, x.off, none⟩) x.todo.length x.cap), (60, .slice ca rc.length cp3), (61, nt rc.length), (62, nt x.j)])
          (fun x w' => Mem E x.I [.obj x.b (.cells x.cur.toArray 3 (0, 0)), .mz b16 (mputZ zs k (.bool true)), .mp b17 es3] w' ∧ Le I3 x.I ∧ x.todo = td ++ Sp.findsE its (rc.take x.j) ∧ Que x.off x.cap x.cur (x.todo.map (fun k => nt k)) ∧ x.j ≤ rc.length)
          (fun x => rc.length - x.j) ⟨0, td, I3, b, off1, cap - 1, cur⟩ (by exact ⟨rfl, rfl, rfl, rfl, rfl, rfl, rfl, trivial⟩) ⟨hm, Le.refl _, by simp [Sp.findsE], hq1, Nat.zero_le _⟩ ?_
        clear hm hq1 hq hqf hhd ho1
        rintro ⟨j, td4, I4, b4, off4, cap4, cur4⟩ w4 ⟨hm, hle4, htd, hq4, hj4⟩
        dsimp only at hm hle4 htd hq4 hj4 ⊢
        have hfl := Sp.findsE_len its (rc.take j)
        have htl4 : td4.length ≤ td.length + j := by
          rw [htd, List.length_append]
          rw [List.length_take] at hfl
          omega
        by_cases hlt4 : j < rc.length
        · have hgj : rc[j]? = some rc[j] := List.getElem?_eq_getElem hlt4
          have hst := Sp.findsE_step (its := its) hgj
          generalize rc[j] = nm at hgj hst
          have hrc4 := hrc.le hle4
          have hpf4 := (hpf2.le hleI3).le hle4
          have hF := r_find 2 nm its I4 a cp xs ((hfe2.le hleI3).le hle4)
          cases hf : Sp.findIt its 2 nm with
          | some m =>
            rw [show Sp.findV its 2 nm = (m : Int) by rw [Sp.findV, hf]] at hF
            rw [hf] at hst
            repeat' (first
            | (refine i_indexFlat (d:=64) (enc:=encS) (z:=nm) (hr:=hrc4) (he:=fun _ => rfl) (hz:=by exact hgj) (k:=?_); intro bz oz hpz)
            | (refine i_loadN (d:=66) hm (hp:=hpf4) (k:=?_))
            | (refine m_call (d:=68) hm (hp:=pm0) (hc:=hF) (k:=?_); clear hm; rintro _ I5 _ _ ⟨rfl, rfl⟩ hleI5 hm; try simp only [setn] at hm)
            | (refine m_pushQ (d1 := 73) (d := 74) hm (by rfl) (by rfl) (by rfl) (by rfl) (by rfl) gt0 hq4 (by rw [List.length_map]) (by rfl) (by rfl) (by omega) (by omega) ?_; clear hm; intro b5 off5 cap5 cur5 _ _ hq5 hm; try simp only [setn] at hm)
            | refine i_load1z hm (k:=?_)
            | refine op_move (k:=?_)
            | refine op_assign (k:=?_)
            | refine op_lss (k:=?_)
            | refine op_geq (k:=?_)
            | refine op_add (k:=?_)
            | refine wl_nil ?_
            | refine at_then_normal ?_
            | refine at_block_normal ?_
            | refine wc_seq ?_
            | refine wc_region ?_
            | refine wc_block ?_
            | refine wc_skip ?_
            | refine wc_cond_true (ht:=?_)
            | (refine wc_cond_dec (ht:=fun _ => ?_) (hf:=fun _ => ?_)<;> (try first | contradiction | (exfalso; omega))))
            all_goals try (exfalso; first | omega | contradiction)
            have e5 : td4 ++ [m] = td ++ Sp.findsE its (rc.take (j + 1)) := by rw [hst, htd, List.append_assoc]; rfl
            have e6 : td4.length + 1 = (td4 ++ [m]).length := by simp
            rw [e6]
            exact at_round (⟨j + 1, td4 ++ [m], I5, b5, off5, cap5, cur5⟩ : RhK) (by exact ⟨rfl, rfl, rfl, rfl, rfl, rfl, rfl, trivial⟩) ⟨hm, hle4.trans hleI5, e5, by dsimp only; rw [List.map_append]; exact hq5, by dsimp only; omega⟩ (by dsimp only; omega)
          | none =>
            rw [show Sp.findV its 2 nm = -1 by rw [Sp.findV, hf]] at hF
            rw [hf] at hst
            repeat' (first
            | (refine i_indexFlat (d:=64) (enc:=encS) (z:=nm) (hr:=hrc4) (he:=fun _ => rfl) (hz:=by exact hgj) (k:=?_); intro bz oz hpz)
            | (refine i_loadN (d:=66) hm (hp:=hpf4) (k:=?_))
            | (refine m_call (d:=68) hm (hp:=pm0) (hc:=hF) (k:=?_); clear hm; rintro _ I5 _ _ ⟨rfl, rfl⟩ hleI5 hm; try simp only [setn] at hm)
            | refine i_load1z hm (k:=?_)
            | refine op_move (k:=?_)
            | refine op_assign (k:=?_)
            | refine op_lss (k:=?_)
            | refine op_geq (k:=?_)
            | refine op_add (k:=?_)
            | refine wl_nil ?_
            | refine at_then_normal ?_
            | refine at_block_normal ?_
            | refine wc_seq ?_
            | refine wc_region ?_
            | refine wc_block ?_
            | refine wc_skip ?_
            | refine wc_cond_false (hf:=?_)
            | (refine wc_cond_dec (ht:=fun _ => ?_) (hf:=fun _ => ?_)<;> (try first | contradiction | (exfalso; omega))))
            all_goals try (exfalso; first | omega | contradiction)
            exact at_round (⟨j + 1, td4, I5, b4, off4, cap4, cur4⟩ : RhK) (by exact ⟨rfl, rfl, rfl, rfl, rfl, rfl, rfl, trivial⟩) ⟨hm, hle4.trans hleI5, by dsimp only; rw [hst, htd]; simp, hq4, by dsimp only; omega⟩ (by dsimp only; omega)
        · obtain rfl : j = rc.length := by omega
          rw [List.take_length] at htd
          rw [← htd] at hB1
          repeat' (first
          | refine op_lss (k:=?_)
          | refine wl_nil ?_
          | refine at_then_normal ?_
          | refine at_then_exit ?_
          | refine at_block_normal ?_
          | refine at_block_exit ?_
          | refine wc_seq ?_
          | refine wc_region ?_
          | refine wc_exit ?_
          | (refine wc_cond_dec (ht:=fun _ => ?_) (hf:=fun _ => ?_)<;> (try first | contradiction | (exfalso; omega))))
          all_goals try (exfalso; first | omega | contradiction)
          exact at_round (⟨td4, k :: had, Sp.joinE snd rs, es3, mputZ zs k (.bool true), I4, b4, off4, cap4, cur4⟩ : RhX) (by exact ⟨rfl, rfl, rfl, rfl, trivial⟩) ⟨hm, (hle2.trans hleI3).trans hle4, hB1, hS, hZ1, hq4, by dsimp only; rw [List.length_cons]; omega⟩ (by dsimp only; rw [List.length_cons]; omega)
    · have hB1 := hskp (.inr h2)
      repeat' (first
      | (refine m_load1 (d:=25) hm (hb:=gt0) (hc:=by exact hhd) (k:=?_))
      | (refine op_cutQ (d := 27) (by rfl) (by rfl) (by rfl) (by rfl) (by rfl) (by rfl) hqf ?_; rw [← ho1])
      | (refine m_lookupZ (d := 30) hm (by rfl) (by rfl) (by rfl) (by rfl) gt1 hZ.nodup zero_bool ?_; rw [hlk])
      | (refine i_indexAddr (d:=35) (hr:=hri) (k:=?_); intro bt ot hpt; rw [show ((k : Int).toNat * 10) = k * 10 from rfl, hcs] at hpt)
      | refine i_load1 hm (k:=?_)
      | refine op_move (k:=?_)
      | refine op_assign (k:=?_)
      | refine op_pick_false (k:=?_)
      | refine op_gtr (k:=?_)
      | refine op_neq (k:=?_)
      | refine op_len_slice (k:=?_)
      | refine op_fieldAddr (k:=?_)
      | refine op_indexAddr (k:=?_)
      | refine wl_nil ?_
      | refine at_then_normal ?_
      | refine at_then_exit ?_
      | refine at_block_exit ?_
      | refine wc_seq ?_
      | refine wc_region ?_
      | refine wc_block ?_
      | refine wc_skip ?_
      | refine wc_exit ?_
      | (refine wc_cond_dec (ht:=fun _ => ?_) (hf:=fun _ => ?_)<;> (try first | contradiction | (exfalso; omega))))
      all_goals try (exfalso; first | omega | contradiction)
      exact at_round (⟨td, had, snd, es, zs, I2, b, off1, cap - 1, cur⟩ : RhX) (by exact ⟨rfl, rfl, rfl, rfl, trivial⟩) ⟨hm, hle2, hB1, hS, hZ, hq1, by dsimp only; omega⟩ (by dsimp only; omega)
end Go.Proofs.Ytjfkjpbkmpofkaa
end
section
namespace Go.Sp
theorem any_step {α : Type} {l : List α} {j : Nat} {x : α} {p : α → Bool} (h : l[j]? = some x) : (l.take (j + 1)).any p = ((l.take j).any p || p x) := by
  rw [take_succ_get h, List.any_append]; simp
end Go.Sp
namespace Go.Proofs.Ytjfkjpbkmpofkaa
open Go.Fw
set_option maxHeartbeats 32000000 in
theorem r_effects {its : List Sp.Itm} (i : Nat) (hi : i < its.length) (I : Imm) (a : Option Addr) (cp : Nat) (xs : List Value) (hfe : FE I its a cp xs) (hsm : ∀ it ∈ its, it.small ∧ Sp.stmsCnt it.body ≤ 400000000) (hN : (Sp.namesE its).length ≤ 1000000000) :
    CalM Try.prog 16 #[.agg [.slice a its.length cp].toArray, nt i] I [] (fun v I' H' => H' = [] ∧ ∃ da dp, v = .slice da (Sp.effD its i).length dp ∧ RowI I' 82 4 (.slice da (Sp.effD its i).length dp) (Sp.effD its i).length ((Sp.effD its i).flatMap encDg)) := by
  refine CalM.of fun w E hm => enter (N := 47) Try.func16 rfl [(0, .agg [.slice a its.length cp].toArray), (1, nt i)] args2 rfl ?_
  have hfew := hfe.few
  have hg : its[i]? = some its[i] := List.getElem?_eq_getElem hi
  have hno : Sp.itNo its i = its[i] := by rw [Sp.itNo, List.getD_eq_getElem?_getD, hg]; rfl
  have hss := (hsm _ (List.getElem_mem hi)).1
  repeat' (first
  | refine wc_hold 1 ?_
  | (refine m_box (d:=2) hm (k:=?_); clear hm; intro b2 _ hm)
  | refine op_assign (k:=?_)
  | refine wl_nil ?_
  | refine at_then_normal ?_
  | refine wc_seq ?_
  | refine wc_region ?_)
  all_goals try (exfalso; omega)
  obtain ⟨I1, hle1, hm1, hpf⟩ := hm.freezeO
  clear hm
  have hm := hm1
  clear hm1
  have hfe1 := hfe.le hle1
  obtain ⟨cs, hcs, hat, hl10⟩ := hfe1.get hg
  have hri := hfe1.row
  have hA := r_reach (its := its) i hi I1 a cp xs hfe1 hsm hN
  rw [← hno] at hat hss
  have hal := Nat.le_trans (Sp.allE_len (its := its) i) hN
  have heD : Sp.effD its i = ((Sp.allE its i).filter (fun c => !Sp.saidE (Sp.itNo its i) c)).map Sp.diagE := rfl
  generalize Sp.itNo its i = it at hat hss heD
  obtain ⟨ap, cp', as_, cs', ab, cb', ad, cd, xb, rfl, _, hsd, _, _, _⟩ := hat
  have hsl := hss.sends
  refine ⟨?_⟩
  repeat' (first
  | (refine m_call (d:=13) hm (hp:=pm0) (hc:=hA) (k:=?_); clear hm; rintro _ I2 _ w2 ⟨rfl, ta, tc, rfl, hrow⟩ hleI2 hm; try simp only [setn] at hm)
  | refine i_loadN hm (k:=?_)
  | refine op_move (k:=?_)
  | refine op_assign (k:=?_)
  | refine op_len_slice (k:=?_)
  | refine wl_nil ?_
  | refine at_then_normal ?_
  | refine wc_seq ?_
  | refine wc_region ?_
  | refine wc_block ?_)
  all_goals try (exfalso; omega)
  have hm := (hm.left (H := [])).nil 82 4
  generalize Sp.allE its i = al at *
  refine wc_loop (fun x : EdX => [(1, nt i), (2, ptr b2), (5, .slice x.a (((al.take x.k).filter (fun c => !Sp.saidE it c)).map Sp.diagE).length x.cp), (13, .slice ta al.length tc), (14, nt al.length), (15, nt x.k)])
    (fun x w' => Mem E x.I [dgRw (((al.take x.k).filter (fun c => !Sp.saidE it c)).map Sp.diagE) x.a x.cp] w' ∧ Le I2 x.I ∧ x.k ≤ al.length)
    (fun x => al.length - x.k) ⟨0, I2, none, 0⟩ (by exact ⟨rfl, rfl, rfl, rfl, rfl, rfl, trivial⟩) ⟨hm, Le.refl _, Nat.zero_le _⟩ ?_
  clear hm
  rintro ⟨k, I4, da, dp⟩ w4 ⟨hm, hle4, hk⟩
  dsimp only at hm hle4 hk ⊢
  by_cases hlt : k < al.length
  · have hgk : al[k]? = some al[k] := List.getElem?_eq_getElem hlt
    have hst := Sp.filt_step (p := fun c => !Sp.saidE it c) hgk
    have hdl : (((al.take k).filter (fun c => !Sp.saidE it c)).map Sp.diagE).length ≤ 1000000000 := by
      rw [List.length_map]
      refine Nat.le_trans (List.length_filter_le _ _) ?_
      rw [List.length_take]; omega
    generalize al[k] = c at hgk hst
    generalize ((al.take k).filter (fun c => !Sp.saidE it c)).map Sp.diagE = ds at hm hst hdl ⊢
    have hrow4 := hrow.le hle4
    have hri4 := (hri.le hleI2).le hle4
    have hpf4 := (hpf.le hleI2).le hle4
    have hsd4 := (hsd.le hleI2).le hle4
    repeat' (first
    | (refine i_indexFlat (d:=17) (enc:=encS) (z:=c) (hr:=hrow4) (he:=fun _ => rfl) (hz:=by exact hgk) (k:=?_); intro bz oz hpz)
    | (refine i_indexAddr (d:=22) (hr:=hri4) (k:=?_); intro bt ot hpt; rw [show ((i : Int).toNat * 10) = i * 10 from rfl, hcs] at hpt)
    | refine i_load1 hm (k:=?_)
    | refine i_load1z hm (k:=?_)
    | refine op_move (k:=?_)
    | refine op_assign (k:=?_)
    | refine op_lss (k:=?_)
    | refine op_len_slice (k:=?_)
    | refine op_fieldAddr (k:=?_)
    | refine wl_nil ?_
    | refine at_then_normal ?_
    | refine wc_seq ?_
    | refine wc_region ?_
    | refine wc_block ?_
    | refine wc_skip ?_
    | (refine wc_cond_dec (ht:=fun _ => ?_) (hf:=fun _ => ?_)<;> (try first | contradiction | (exfalso; omega))))
    all_goals try (exfalso; omega)
    refine wc_loop (fun j : Nat => [(1, nt i), (2, ptr b2), (5, .slice da ds.length dp), (7, str c), (8, .bool ((it.sends.take j).any (fun x => decide (x.name = c)))), (13, .slice ta al.length tc), (14, nt al.length), (15, nt k), (24, .slice as_ it.sends.length cs'), (25, nt it.sends.length), (26, nt j)])
      (fun j w' => Mem E I4 [dgRw ds da dp] w' ∧ j ≤ it.sends.length) (fun j => it.sends.length - j) 0 (by exact ⟨rfl, rfl, rfl, rfl, rfl, rfl, rfl, rfl, rfl, rfl, rfl, trivial⟩) ⟨hm, Nat.zero_le _⟩ ?_
    clear hm
    rintro j w5 ⟨hm, hj⟩
    try dsimp only at hm hj ⊢
    by_cases hlj : j < it.sends.length
    · have hgj : it.sends[j]? = some it.sends[j] := List.getElem?_eq_getElem hlj
      have hsj := Sp.any_step (p := fun x : Sp.Rf => decide (x.name = c)) hgj
      generalize it.sends[j] = z at hgj hsj
      cases hsa : (it.sends.take j).any (fun x => decide (x.name = c)) with
      | true =>
        rw [hsa, Bool.true_or] at hsj
        repeat' (first
        | (refine i_indexFlat (d:=28) (enc:=encRf) (z:=z) (hr:=hsd4) (he:=fun _ => rfl) (hz:=by exact hgj) (k:=?_); intro by_ oy hpy)
        | (refine m_varS (d:=10) hm (k:=?_); clear hm; intro b10 _ hm)
        | refine i_loadN hm (k:=?_)
        | refine op_move (k:=?_)
        | refine op_assign (k:=?_)
        | refine op_pick_true (k:=?_)
        | refine op_lss (k:=?_)
        | refine op_add (k:=?_)
        | refine wl_skip (k:=?_)
        | refine wl_nil ?_
        | refine at_then_normal ?_
        | refine at_block_normal ?_
        | refine wc_seq ?_
        | refine wc_region ?_
        | refine wc_block ?_
        | refine wc_skip ?_
        | (refine wc_cond_dec (ht:=fun _ => ?_) (hf:=fun _ => ?_)<;> (try first | contradiction | (exfalso; omega))))
        all_goals try (exfalso; first | omega | contradiction)
        exact at_round (j + 1 : Nat) (by rw [hsj]; exact ⟨rfl, rfl, rfl, rfl, rfl, rfl, rfl, rfl, rfl, rfl, rfl, trivial⟩) ⟨hm.tl, by omega⟩ (by omega)
      | false =>
        rw [hsa, Bool.false_or] at hsj
        repeat' (first
        | (refine i_indexFlat (d:=28) (enc:=encRf) (z:=z) (hr:=hsd4) (he:=fun _ => rfl) (hz:=by exact hgj) (k:=?_); intro by_ oy hpy)
        | (refine m_varS (d:=10) hm (k:=?_); clear hm; intro b10 _ hm)
        | refine m_load1 hm (k:=?_)
        | refine i_loadN hm (k:=?_)
        | refine op_move (k:=?_)
        | refine op_assign (k:=?_)
        | refine op_pick_false (k:=?_)
        | refine op_lss (k:=?_)
        | refine op_eql_str (k:=?_)
        | refine op_add (k:=?_)
        | refine op_fieldAddr (k:=?_)
        | refine wl_nil ?_
        | refine at_then_normal ?_
        | refine at_block_normal ?_
        | refine wc_seq ?_
        | refine wc_region ?_
        | refine wc_block ?_
        | refine wc_skip ?_
        | (refine wc_cond_dec (ht:=fun _ => ?_) (hf:=fun _ => ?_)<;> (try first | contradiction | (exfalso; omega))))
        all_goals try (exfalso; first | omega | contradiction)
        exact at_round (j + 1 : Nat) (by rw [hsj]; exact ⟨rfl, rfl, rfl, rfl, rfl, rfl, rfl, rfl, rfl, rfl, rfl, trivial⟩) ⟨hm.tl, by omega⟩ (by omega)
    · obtain rfl : j = it.sends.length := by omega
      rw [List.take_length]
      rw [show it.sends.any (fun x => decide (x.name = c)) = Sp.saidE it c from rfl]
      cases hc : Sp.saidE it c with
      | true =>
        rw [hc] at hst
        repeat' (first
        | refine op_move (k:=?_)
        | refine op_lss (k:=?_)
        | refine op_not (k:=?_)
        | refine op_add (k:=?_)
        | refine wl_nil ?_
        | refine at_then_normal ?_
        | refine at_then_exit ?_
        | refine at_block_normal ?_
        | refine at_block_exit ?_
        | refine wc_seq ?_
        | refine wc_region ?_
        | refine wc_skip ?_
        | refine wc_exit ?_
        | refine wc_cond_false (hf:=?_)
        | (refine wc_cond_dec (ht:=fun _ => ?_) (hf:=fun _ => ?_)<;> (try first | contradiction | (exfalso; omega))))
        all_goals try (exfalso; first | omega | contradiction)
        refine at_round (⟨k + 1, I4, da, dp⟩ : EdX) (by dsimp only; rw [hst, if_neg (by simp), List.append_nil]; exact ⟨rfl, rfl, rfl, rfl, rfl, rfl, trivial⟩) ⟨?_, hle4, by dsimp only; omega⟩ (by dsimp only; omega)
        dsimp only; rw [hst, if_neg (by simp), List.append_nil]; exact hm
      | false =>
        rw [hc] at hst
        repeat' (first
        | (refine m_push (d:=44) hm (k:=?_); clear hm; intro a44 cp44 _ _ hm; try simp only [setn] at hm)
        | refine op_move (k:=?_)
        | refine op_assign (k:=?_)
        | refine op_lss (k:=?_)
        | refine op_not (k:=?_)
        | refine op_add (k:=?_)
        | refine op_struct (k:=?_)
        | refine wl_nil ?_
        | refine at_then_normal ?_
        | refine at_then_exit ?_
        | refine at_block_normal ?_
        | refine at_block_exit ?_
        | refine wc_seq ?_
        | refine wc_region ?_
        | refine wc_exit ?_
        | refine wc_cond_true (ht:=?_)
        | (refine wc_cond_dec (ht:=fun _ => ?_) (hf:=fun _ => ?_)<;> (try first | contradiction | (exfalso; omega))))
        all_goals try (exfalso; first | omega | contradiction)
        rw [if_pos (by simp)] at hst
        refine at_round (⟨k + 1, I4, a44, cp44⟩ : EdX) (by dsimp only; rw [hst, List.length_append]; exact ⟨rfl, rfl, rfl, rfl, rfl, rfl, trivial⟩) ⟨?_, hle4, by dsimp only; omega⟩ (by dsimp only; omega)
        dsimp only [dgRw]
        rw [hst, List.flatMap_append, List.length_append]
        exact hm
  · obtain rfl : k = al.length := by omega
    rw [List.take_length, ← heD] at hm
    repeat' (first
    | refine op_move (k:=?_)
    | refine op_assign (k:=?_)
    | refine op_lss (k:=?_)
    | refine wl_nil ?_
    | refine at_then_normal ?_
    | refine at_then_exit ?_
    | refine at_block_exit ?_
    | refine wc_seq ?_
    | refine wc_region ?_
    | refine wc_exit ?_
    | refine wc_ret ?_
    | refine at_ret1 (h:=?_)
    | (refine wc_cond_dec (ht:=fun _ => ?_) (hf:=fun _ => ?_)<;> (try first | contradiction | (exfalso; omega))))
    all_goals try (exfalso; omega)
    rw [List.take_length, ← heD]
    obtain ⟨I5, hle5, hm5, hr5⟩ := hm.freeze
    exact ⟨I5, [], ⟨rfl, da, dp, rfl, hr5⟩, hm5⟩
end Go.Proofs.Ytjfkjpbkmpofkaa
end
