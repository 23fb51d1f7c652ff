/- Own work: texts InfI, PsA, one behind the other. -/
import Derived.Test.YtjfkjpbkmpofkaaIt20
section
namespace Go.Proofs.Ytjfkjpbkmpofkaa
open Go.Fw
structure GbR where
  I : Imm
  o : Sp.Lab
  more : Bool
  zs : EntsZ
structure GbP where
  j : Nat
  es : Ents
theorem parsI_step {l : List Sp.Par} {j : Nat} {p : Sp.Par} (h : l[j]? = some p) : Sp.parsI (l.take (j + 1)) = Sp.parsI (l.take j) ++ [⟨p.name, p.label, none⟩] := by
  rw [Sp.take_succ_get h, Sp.parsI, List.map_append]; rfl
/-- what else is asked, where the reference finds labels. -/
structure _root_.Go.Sp.ItJ (x : Sp.Itm) : Prop extends Sp.ItI x where
  two : Sp.stmsAll Sp.twoP Sp.labS x.body
set_option maxHeartbeats 64000000 in
theorem g_labels {its : List Sp.Itm} (hlab : Sp.itLab its) (hI : ∀ x ∈ its, Sp.ItJ x) (I : Imm) (a : Option Addr) (cp : Nat) (xs : List Value) (hfe : FE I its a cp xs) :
    CalM Try.prog 8 #[.agg [.slice a its.length cp].toArray] I [] (ToLabs its) := by
  have hfew := hfe.few
  refine CalM.of fun w E hm => enter (N := 64) Try.func8 rfl [(0, .agg [.slice a its.length cp].toArray)] args1 rfl ?_
  repeat' (first
  | refine wc_hold 2 ?_
  | (refine m_box (d:=1) hm (k:=?_); clear hm; intro b1 _ hm)
  | (refine m_allocS (d:=2) hm (k:=?_); clear hm; intro b2 _ hm)
  | (refine m_allocS (d:=3) hm (k:=?_); clear hm; intro b3 _ hm)
  | refine wl_nil ?_
  | refine at_then_normal ?_
  | refine wc_seq ?_
  | refine wc_region ?_)
  all_goals try (exfalso; omega)
  obtain ⟨I1, hle1, hm1, hpf⟩ := (hm.perm (List.perm_append_comm (l₁ := [_, _]) (l₂ := [_]))).freezeO
  clear hm
  have hm := hm1
  clear hm1
  have hfe1 := hfe.le hle1
  refine ⟨?_⟩
  repeat' (first
  | refine i_load1 hm (k:=?_)
  | refine op_move (k:=?_)
  | refine op_len_slice (k:=?_)
  | refine op_fieldAddr (k:=?_)
  | refine wl_nil ?_
  | refine at_then_normal ?_
  | refine wc_region ?_
  | refine wc_block ?_)
  all_goals try (exfalso; omega)
  have hm := (hm.nil 38 10).swap
  refine wc_loop (fun x : LbX => [(1, ptr b1), (2, ptr b2), (3, ptr b3), (11, .slice a its.length cp), (12, nt its.length), (13, nt x.k)])
    (fun x w' => Mem E x.I [.cell b3 [.slice x.a x.r.length x.cp] 24, itRow x.r.length x.a x.cp x.xs, .cell b2 [.slice none 0 0] 24] w' ∧ Le I1 x.I ∧ x.k ≤ its.length ∧ Sp.AllTwo (Sp.Labd its) (its.take x.k) x.r ∧ ItsAt x.I x.r x.xs) (fun x => its.length - x.k) ⟨0, I1, none, 0, [], []⟩
    (by exact ⟨rfl, rfl, rfl, rfl, rfl, rfl, trivial⟩) ⟨hm, Le.refl _, Nat.zero_le _, .nil, rfl⟩ ?_
  clear hm
  rintro ⟨k, I4, ra, rp, rx, r⟩ w2 ⟨hm, hle2, hk, hall, hits⟩
  dsimp only at hm hle2 hk hall hits ⊢
  have hfe4 := hfe1.le hle2
  have hpf4 := hpf.le hle2
  have hri := hfe4.row
  have hrl := hall.len
  rw [List.length_take, Nat.min_eq_left hk] at hrl
  by_cases hlt : k < its.length
  · have hg : its[k]? = some its[k] := List.getElem?_eq_getElem hlt
    have htk := Sp.take_succ_get hg
    obtain ⟨cs, hcs, hat, hl10⟩ := hfe4.get hg
    have hIt := hI _ (List.getElem_mem hlt)
    have hpl := (hlab _ (List.getElem_mem hlt)).2
    generalize its[k] = it at hg hat hIt hpl htk
    have hpn := hIt.small.params
    have hbn := hIt.small.body
    have hat0 := hat
    obtain ⟨ap, cp', as_, cs', ab, cb, ad, cd, xb, rfl, hrp, hrs, hrb0, hxb0, hrd⟩ := hat
    by_cases k2 : it.kind = 2
    · skip
      repeat' (first
      | (refine i_indexAddr (d:=15) (hr:=hri) (k:=?_); intro bt ot hpt; rw [show ((k : Int).toNat * 10) = k * 10 from rfl, hcs] at hpt)
      | (refine i_loadN (d:=16) hm (hp:=hpt) (k:=?_))
      | (refine i_loadN (d:=20) hm (hp:=hpf4) (k:=?_))
      | (refine m_makeMap (d:=21) hm (k:=?_); clear hm; intro b21 _ hm)
      | (refine m_varS (d:=5) hm (k:=?_); clear hm; intro b5 _ hm)
      | (refine m_box (d:=23) hm (k:=?_); clear hm; intro b23 _ hm)
      | refine m_load1 hm (k:=?_)
      | refine op_assign (k:=?_)
      | refine op_lss (k:=?_)
      | refine op_eql (k:=?_)
      | refine op_fieldAddr (k:=?_)
      | refine op_struct (k:=?_)
      | refine wl_nil ?_
      | refine at_then_normal ?_
      | refine wc_seq ?_
      | refine wc_region ?_
      | refine wc_block ?_
      | refine wc_skip ?_
      | (refine wc_cond_dec (ht:=fun _ => ?_) (hf:=fun _ => ?_)<;> (try first | contradiction | (exfalso; omega))))
      all_goals try (exfalso; first | omega | contradiction)
      refine wc_loop (fun _ : GbR => [(1, ptr b1), (2, ptr b2), (3, ptr b3), (5, ptr b5), (6, ptr b23), (11, .slice a its.length cp), (12, nt its.length), (13, nt k)])
        (fun x w' => Mem E x.I (.cell b23 [.slice a its.length cp, .map (some b21), .bool x.more] 66 :: .mz b21 x.zs :: .cell b5 (itCells it.kind it.name it.label (.slice ap it.params.length cp') (.slice as_ it.sends.length cs') (.slice ab it.body.length cb) it.at_ it.size it.mark (.slice ad it.diags.length cd)) 38 :: .cell b3 [.slice ra r.length rp] 24 :: itRow r.length ra rp rx :: .cell b2 [.slice none 0 0] 24 :: []) w' ∧
          Le I4 x.I ∧ OpenN x.zs x.o ∧ x.o 0 = 0 ∧ (∃ kk, x.o = Sp.iterI its it kk) ∧ (x.more = false → Sp.roundI its it x.o = (x.o, false)))
        (fun x => 2 * Sp.potL (Sp.letsS it.body) x.o + (if x.more = true then 1 else 0)) ⟨I4, fun _ => 0, true, []⟩
        (by exact ⟨rfl, rfl, rfl, rfl, rfl, rfl, rfl, rfl, trivial⟩) ⟨hm, Le.refl _, OpenN.nil, rfl, ⟨0, rfl⟩, fun h => (by cases h)⟩ ?_
      clear hm
      rintro ⟨I5, o, more, zs⟩ w5 ⟨hm, hle5, hz, h00, ⟨kk, hkk⟩, hfix⟩
      dsimp only at hm hle5 hz h00 hkk hfix ⊢
      have hok : ∀ f, o f < 256 := fun f => by rw [hkk]; exact Sp.iter_lt hlab hIt.body hpl kk f
      obtain ⟨hr1, hr2, hr3⟩ := Sp.roundI_ok (o := o) hlab hIt.body hpl hok
      cases more with
      | false =>
        repeat' (first
        | refine wc_hold 16 ?_
        | refine m_load1 hm (k:=?_)
        | refine op_move (k:=?_)
        | refine op_nilCheck (k:=?_)
        | refine op_fieldAddr (k:=?_)
        | refine wl_nil ?_
        | refine at_then_normal ?_
        | refine at_then_exit ?_
        | refine at_block_exit ?_
        | refine wc_seq ?_
        | refine wc_region ?_
        | refine wc_exit ?_
        | refine wc_cond_false (hf:=?_))
        all_goals try (exfalso; first | omega | contradiction)
        obtain ⟨I6, hle6, hm6, hpd⟩ := hm.freezeO
        obtain ⟨I7, hle7, hm7, hmz⟩ := Mem.freezeMZ hm6
        clear hm hm6
        have hm := hm7
        clear hm7
        have hle47 : Le I4 I7 := (hle5.trans hle6).trans hle7
        have hF := g_put (bt := b23) (bo := b21) hz.toOpenZ _ it.body (Nat.le_refl _) (by omega) hIt.small.stms I7 ab cb xb (hpd.le hle7) hmz (hrb0.le hle47) (StsAt.le hle47 _ _ hxb0)
        refine ⟨?_⟩
        repeat' (first
        | (refine m_call (d:=54) hm (hp:=pm0) (hc:=hF) (k:=?_); clear hm; rintro _ I9 _ _ ⟨rfl, pa, pc, px, rfl, hrb, hxb⟩ hleI9 hm; try simp only [setn] at hm)
        | refine wc_hold 17 ?_
        | refine m_load1 hm (k:=?_)
        | (refine m_store1 hm (k:=?_); clear hm; intro _ hm; try simp only [setn] at hm)
        | refine op_move (k:=?_)
        | refine op_fieldAddr (k:=?_)
        | refine wl_nil ?_
        | refine at_then_normal ?_
        | refine wc_region ?_)
        all_goals try (exfalso; first | omega | contradiction)
        have hle49 : Le I4 I9 := hle47.trans hleI9
        have hit : ItAt I9 (Sp.itI o it) (itCells it.kind it.name it.label (.slice ap it.params.length cp') (.slice as_ it.sends.length cs') (.slice pa it.body.length pc) it.at_ it.size it.mark (.slice ad it.diags.length cd)) :=
          ⟨ap, cp', as_, cs', pa, pc, ad, cd, px, by show _ = itCells it.kind it.name it.label _ _ (.slice pa (Sp.fillL o it.body).length pc) it.at_ it.size it.mark _; rw [Sp.fillL_len]; rfl, hrp.le hle49, hrs.le hle49, by show RowI I9 _ 15 (.slice pa (Sp.fillL o it.body).length pc) (Sp.fillL o it.body).length px; rw [Sp.fillL_len]; exact hrb, hxb, hrd.le hle49⟩
        refine ⟨?_⟩
        repeat' (first
        | (refine m_push (d:=60) hm (k:=?_); clear hm; intro a60 cp60 _ _ hm; try simp only [setn] at hm)
        | refine m_load1 hm (k:=?_)
        | refine m_loadAll hm (k:=?_)
        | (refine m_store1 hm (k:=?_); clear hm; intro _ hm; try simp only [setn] at hm)
        | refine op_move (k:=?_)
        | refine op_add (k:=?_)
        | refine op_fieldAddr (k:=?_)
        | refine wl_nil ?_
        | refine at_then_normal ?_
        | refine at_block_normal ?_
        | refine wc_region ?_)
        all_goals try (exfalso; first | omega | contradiction)
        refine at_round (⟨k + 1, I9, a60, cp60, _, r ++ [Sp.itI o it]⟩ : LbX) (by exact ⟨rfl, rfl, rfl, rfl, rfl, rfl, trivial⟩) ⟨?_, hle2.trans hle49, by dsimp only; omega, by dsimp only; rw [htk]; exact hall.snoc ⟨fun _ => ⟨o, ⟨⟨kk, hkk⟩, hfix rfl⟩, rfl⟩, fun h => absurd k2 h⟩, (hits.le hle49).snoc hit⟩ (by dsimp only; omega)
        dsimp only [itRow]
        rw [List.length_append]
        exact hm.tl
      | true =>
        repeat' (first
        | (refine m_makeMap (d:=31) hm (k:=?_); clear hm; intro b31 _ hm)
        | refine m_load1 hm (k:=?_)
        | (refine m_store1 hm (k:=?_); clear hm; intro _ hm; try simp only [setn] at hm)
        | refine op_move (k:=?_)
        | refine op_assign (k:=?_)
        | refine op_len_slice (k:=?_)
        | refine op_nilCheck (k:=?_)
        | refine op_fieldAddr (k:=?_)
        | refine wl_nil ?_
        | refine at_then_normal ?_
        | refine wc_seq ?_
        | refine wc_region ?_
        | refine wc_block ?_
        | refine wc_skip ?_
        | refine wc_cond_true (ht:=?_))
        all_goals try (exfalso; first | omega | contradiction)
        have hrp5 := hrp.le hle5
        refine wc_loop (fun x : GbP => [(1, ptr b1), (2, ptr b2), (3, ptr b3), (5, ptr b5), (6, ptr b23), (7, .map (some b31)), (11, .slice a its.length cp), (12, nt its.length), (13, nt k), (33, .slice ap it.params.length cp'), (34, nt it.params.length), (35, nt x.j)])
          (fun x w' => Mem E I5 (.mp b31 x.es :: .cell b23 [.slice a its.length cp, .map (some b21), .bool false] 66 :: .mz b21 zs :: .cell b5 (itCells it.kind it.name it.label (.slice ap it.params.length cp') (.slice as_ it.sends.length cs') (.slice ab it.body.length cb) it.at_ it.size it.mark (.slice ad it.diags.length cd)) 38 :: .cell b3 [.slice ra r.length rp] 24 :: itRow r.length ra rp rx :: .cell b2 [.slice none 0 0] 24 :: []) w' ∧ x.j ≤ it.params.length ∧ (x.es.map (·.1)).Nodup ∧ EvAt (Sp.parsI (it.params.take x.j)) x.es)
          (fun x => it.params.length - x.j) ⟨0, []⟩ (by exact ⟨rfl, rfl, rfl, rfl, rfl, rfl, rfl, rfl, rfl, rfl, rfl, rfl, trivial⟩) ⟨hm, Nat.zero_le _, List.nodup_nil, fun m => rfl⟩ ?_
        clear hm
        rintro ⟨j, es⟩ w6 ⟨hm, hj, hnd, hev⟩
        dsimp only at hm hj hnd hev ⊢
        by_cases hlj : j < it.params.length
        · have hgp : it.params[j]? = some it.params[j] := List.getElem?_eq_getElem hlj
          have hstp := parsI_step hgp
          generalize it.params[j] = p at hgp hstp
          repeat' (first
          | (refine i_indexFlat (d:=37) (enc:=encPar) (z:=p) (hr:=hrp5) (he:=fun _ => rfl) (hz:=by exact hgp) (k:=?_); intro bz oz hpz)
          | (refine op_arr2 (d := 44) zero68 (by rfl) (by rfl) (by rfl) (by rfl) (by rfl) (by rfl) ?_)
          | (refine wl_mapUpdate ?_; refine m_put hm (by rfl) (by rfl) (by rfl) (by rfl) (by rfl) gt1 hnd ?_; clear hm; intro _ hm; try simp only [setn] at hm)
          | (refine m_varS (d:=9) hm (k:=?_); clear hm; intro b9 _ hm)
          | refine m_load1 hm (k:=?_)
          | refine i_loadN hm (k:=?_)
          | refine op_move (k:=?_)
          | refine op_lss (k:=?_)
          | refine op_add (k:=?_)
          | refine op_fieldAddr (k:=?_)
          | refine wl_nil ?_
          | refine at_then_normal ?_
          | refine at_block_normal ?_
          | refine wc_seq ?_
          | refine wc_region ?_
          | refine wc_block ?_
          | refine wc_skip ?_
          | (refine wc_cond_dec (ht:=fun _ => ?_) (hf:=fun _ => ?_)<;> (try first | contradiction | (exfalso; omega))))
          all_goals try (exfalso; first | omega | contradiction)
          exact at_round (⟨j + 1, mput es p.name (encEv ⟨p.name, p.label, none⟩)⟩ : GbP) (by exact ⟨rfl, rfl, rfl, rfl, rfl, rfl, rfl, rfl, rfl, rfl, rfl, rfl, trivial⟩) ⟨hm.tl, by dsimp only; omega, mput_nodup hnd, by dsimp only; rw [hstp]; exact hev.put hnd _ rfl⟩ (by dsimp only; omega)
        · obtain rfl : j = it.params.length := by omega
          rw [List.take_length] at hev
          have hB := CalM.borrow (I := I5) (b := b31) hnd (fun J m2 hmap => g_walk (bt := b23) (bo := b21) (a := a) (cp := cp) (xs := xs) hlab _ it.body (Nat.le_refl _) (by omega) hIt.small.stms hIt.two hIt.none J ab cb xb b31 es (Sp.parsI it.params) 0 (o, false) zs (by omega) hok h00 (Sp.parsI_ok hpl) (by rw [Sp.parsI_ops]; exact fun h => (by cases h)) hz hev ((hfe4.le hle5).le m2) hmap ((hrb0.le hle5).le m2) (StsAt.le m2 _ _ (StsAt.le hle5 _ _ hxb0)))
          rw [show (Sp.stmsI its it.body (Sp.parsI it.params) 0 (o, false)).2 = Sp.roundI its it o from rfl] at hB
          repeat' (first
          | (refine m_call (d:=50) hm (hp:=pm3_0) (hc:=hB) (k:=?_); clear hm; rintro _ I6 _ _ ⟨_, rfl, rfl, zs6, hz6, h06, rfl⟩ hleI6 hm; try simp only [setn] at hm)
          | refine m_load1 hm (k:=?_)
          | refine op_move (k:=?_)
          | refine op_lss (k:=?_)
          | refine op_fieldAddr (k:=?_)
          | refine wl_nil ?_
          | refine at_then_normal ?_
          | refine at_then_exit ?_
          | refine at_block_normal ?_
          | refine at_block_exit ?_
          | refine wc_seq ?_
          | refine wc_region ?_
          | refine wc_exit ?_
          | (refine wc_cond_dec (ht:=fun _ => ?_) (hf:=fun _ => ?_)<;> (try first | contradiction | (exfalso; omega))))
          all_goals try (exfalso; first | omega | contradiction)
          refine at_round (⟨I6, (Sp.roundI its it o).1, (Sp.roundI its it o).2, zs6⟩ : GbR) (by exact ⟨rfl, rfl, rfl, rfl, rfl, rfl, rfl, rfl, trivial⟩) ⟨hm.tl, hle5.trans hleI6, hz6, h06, ⟨kk + 1, by rw [hkk]; rfl⟩, fun h => ?_⟩ ?_
          · dsimp only at h ⊢
            have h3 := hr3 h
            rw [h3]
            exact Prod.ext h3 h
          · dsimp only
            cases hb : (Sp.roundI its it o).2 with
            | true => have := hr2 hb; rw [if_pos rfl]; omega
            | false => rw [hr3 hb, if_neg (by decide), if_pos rfl]; omega
    · skip
      repeat' (first
      | (refine i_indexAddr (d:=15) (hr:=hri) (k:=?_); intro bt ot hpt; rw [show ((k : Int).toNat * 10) = k * 10 from rfl, hcs] at hpt)
      | (refine i_loadN (d:=16) hm (hp:=hpt) (k:=?_))
      | (refine m_varS (d:=5) hm (k:=?_); clear hm; intro b5 _ hm)
      | (refine m_push (d:=60) hm (k:=?_); clear hm; intro a60 cp60 _ _ hm; try simp only [setn] at hm)
      | refine m_load1 hm (k:=?_)
      | refine m_loadAll hm (k:=?_)
      | (refine m_store1 hm (k:=?_); clear hm; intro _ hm; try simp only [setn] at hm)
      | refine op_move (k:=?_)
      | refine op_lss (k:=?_)
      | refine op_eql (k:=?_)
      | refine op_add (k:=?_)
      | refine op_fieldAddr (k:=?_)
      | refine wl_nil ?_
      | refine at_then_normal ?_
      | refine at_block_normal ?_
      | refine wc_seq ?_
      | refine wc_region ?_
      | refine wc_block ?_
      | refine wc_skip ?_
      | (refine wc_cond_dec (ht:=fun _ => ?_) (hf:=fun _ => ?_)<;> (try first | contradiction | (exfalso; omega))))
      all_goals try (exfalso; first | omega | contradiction)
      refine at_round (⟨k + 1, I4, a60, cp60, _, r ++ [it]⟩ : LbX) (by exact ⟨rfl, rfl, rfl, rfl, rfl, rfl, trivial⟩) ⟨?_, hle2, by dsimp only; omega, by dsimp only; rw [htk]; exact hall.snoc ⟨fun h => absurd h k2, fun _ => rfl⟩, hits.snoc hat0⟩ (by dsimp only; omega)
      dsimp only [itRow]
      rw [List.length_append]
      exact hm.tl
  · obtain rfl : k = its.length := by omega
    rw [List.take_length] at hall
    repeat' (first
    | refine m_loadAll hm (k:=?_)
    | (refine m_storeAll hm (k:=?_); clear hm; intro _ hm; try simp only [setn] at hm)
    | refine m_ret_agg hm (h:=?_)
    | refine op_lss (k:=?_)
    | refine wl_nil ?_
    | refine at_then_normal ?_
    | refine at_then_exit ?_
    | refine at_block_exit ?_
    | refine wc_seq ?_
    | refine wc_region ?_
    | refine wc_exit ?_
    | refine wc_ret ?_
    | (refine wc_cond_dec (ht:=fun _ => ?_) (hf:=fun _ => ?_)<;> (try first | contradiction | (exfalso; omega))))
    all_goals try (exfalso; omega)
    obtain ⟨I3, hle3, hm3, hrow3⟩ := (hm.perm pmSw).freeze
    exact ⟨I3, [], ⟨rfl, ra, rp, rx, r, hall, rfl, hrow3, hits.le hle3⟩, hm3.left (H := [])⟩
end Go.Proofs.Ytjfkjpbkmpofkaa
end
section
namespace Go.Proofs.Ytjfkjpbkmpofkaa
open Go.Fw
abbrev ToTrue : Value → Imm → List HItem → Prop := fun v _ H' => v = .bool true ∧ H' = []
structure KI where
  k : Nat
  I : Imm
theorem dg_same (x : Sp.Dg) : eqCells (encDg x) (encDg x) = true := by simp [eqCells, eqCell]
theorem par_same (x : Sp.Par) : eqCells (encPar x) (encPar x) = true := by simp [eqCells, eqCell]
theorem rf_same (x : Sp.Rf) : eqCells (encRf x) (encRf x) = true := by simp [eqCells, eqCell]
theorem p_sameDiags (I : Imm) (l : List Sp.Dg) (hl : l.length ≤ 40000000) (a b : Option Addr) (c d : Nat) (h1 : RowI I 82 4 (.slice a l.length c) l.length (l.flatMap encDg)) (h2 : RowI I 82 4 (.slice b l.length d) l.length (l.flatMap encDg)) :
    CalM Try.prog 14 #[.slice a l.length c, .slice b l.length d] I [] ToTrue := by
  refine CalM.of fun w E hm => enter (N := 26) Try.func14 rfl [(0, .slice a l.length c), (1, .slice b l.length d)] args2 rfl ?_
  repeat' (first
  | refine m_load1 hm (k:=?_)
  | refine i_load1 hm (k:=?_)
  | refine m_loadAll hm (k:=?_)
  | refine i_loadN hm (k:=?_)
  | refine i_load1z hm (k:=?_)
  | refine mq_load1 hm (k:=?_)
  | refine iq_load1 hm (k:=?_)
  | refine mq_loadAll hm (k:=?_)
  | refine iq_loadN hm (k:=?_)
  | refine iq_load1z hm (k:=?_)
  | refine m_ret_agg hm (h:=?_)
  | refine m_ret2_agg hm (h:=?_)
  | refine op_move (k:=?_)
  | refine op_assign (k:=?_)
  | refine op_lss (k:=?_)
  | refine op_neq (k:=?_)
  | refine op_neq_str (k:=?_)
  | refine op_neq_bool (k:=?_)
  | refine op_neq_flat (k:=?_)
  | refine op_len_str (k:=?_)
  | refine op_len_slice (k:=?_)
  | refine op_add (k:=?_)
  | refine op_add_u8 (k:=?_)
  | refine op_indexAddr_arr (k:=?_)
  | refine op_indexAddr (k:=?_)
  | refine op_load1 (k:=?_)
  | refine wl_nil ?_
  | refine at_then_normal ?_
  | refine at_then_ret ?_
  | refine at_then_exit ?_
  | refine at_block_normal ?_
  | refine at_block_ret ?_
  | refine at_block_exit ?_
  | refine at_block_other (h:=?_)
  | refine wc_seq ?_
  | refine wc_region ?_
  | refine wc_block ?_
  | refine wc_skip ?_
  | refine wc_exit ?_
  | refine wc_ret ?_
  | refine at_ret1 (h:=?_)
  | refine wc_quiet (h:=?_)
  | (refine wq_nil ?_; intro _ hkq; replace hm := hm.kept0 hkq; clear hkq)
  | (refine wq_nil_tail ?_; intro _ hkq; replace hm := hm.kept0 hkq; clear hkq)
  | refine wc_cond_true (ht:=?_)
  | refine wc_cond_false (hf:=?_)
  | (refine wc_cond_dec (ht:=fun _ => ?_) (hf:=fun _ => ?_)<;> (try first | contradiction | (exfalso; omega)))
  | refine wc_cond (ht:=fun _ => ?_) (hf:=fun _ => ?_)
  | refine q_move (k:=?_)
  | refine q_assign (k:=?_)
  | refine q_lss (k:=?_)
  | refine q_neq (k:=?_)
  | refine q_neq_str (k:=?_)
  | refine q_neq_bool (k:=?_)
  | refine q_neq_flat (k:=?_)
  | refine q_len_str (k:=?_)
  | refine q_len_slice (k:=?_)
  | refine q_add (k:=?_)
  | refine q_add_u8 (k:=?_)
  | refine q_indexAddr_arr (k:=?_)
  | refine q_indexAddr (k:=?_)
  | refine q_load1 (k:=?_))
  all_goals try (exfalso; omega)
  refine wc_loop (fun k : Nat => [(0, .slice a l.length c), (1, .slice b l.length d), (12, nt l.length), (13, nt k)]) (fun k w' => Mem E I [] w' ∧ k ≤ l.length) (fun k => l.length - k) 0 (by exact ⟨rfl, rfl, rfl, rfl, trivial⟩) ⟨hm, Nat.zero_le _⟩ ?_
  clear hm
  rintro k w2 ⟨hm, hk⟩
  by_cases hlt : k < l.length
  · have hg : l[k]? = some l[k] := List.getElem?_eq_getElem hlt
    generalize l[k] = x at hg
    repeat' (first
    | (refine iq_indexFlat (d:=18) (enc:=encDg) (z:=x) (hr:=h1) (he:=fun _ => rfl) (hz:=by exact hg) (k:=?_); intro b1 o1 p1)
    | (refine iq_indexFlat (d:=22) (enc:=encDg) (z:=x) (hr:=h2) (he:=fun _ => rfl) (hz:=by exact hg) (k:=?_); intro b2 o2 p2)
    | refine m_load1 hm (k:=?_)
    | refine i_load1 hm (k:=?_)
    | refine m_loadAll hm (k:=?_)
    | refine i_loadN hm (k:=?_)
    | refine i_load1z hm (k:=?_)
    | refine mq_load1 hm (k:=?_)
    | refine iq_load1 hm (k:=?_)
    | refine mq_loadAll hm (k:=?_)
    | refine iq_loadN hm (k:=?_)
    | refine iq_load1z hm (k:=?_)
    | refine m_ret_agg hm (h:=?_)
    | refine m_ret2_agg hm (h:=?_)
    | refine op_move (k:=?_)
    | refine op_assign (k:=?_)
    | refine op_lss (k:=?_)
    | refine op_neq (k:=?_)
    | refine op_neq_str (k:=?_)
    | refine op_neq_bool (k:=?_)
    | refine op_neq_flat (k:=?_)
    | refine op_len_str (k:=?_)
    | refine op_len_slice (k:=?_)
    | refine op_add (k:=?_)
    | refine op_add_u8 (k:=?_)
    | refine op_indexAddr_arr (k:=?_)
    | refine op_indexAddr (k:=?_)
    | refine op_load1 (k:=?_)
    | refine wl_nil ?_
    | refine at_then_normal ?_
    | refine at_then_ret ?_
    | refine at_then_exit ?_
    | refine at_block_normal ?_
    | refine at_block_ret ?_
    | refine at_block_exit ?_
    | refine at_block_other (h:=?_)
    | refine wc_seq ?_
    | refine wc_region ?_
    | refine wc_block ?_
    | refine wc_skip ?_
    | refine wc_exit ?_
    | refine wc_ret ?_
    | refine at_ret1 (h:=?_)
    | refine wc_quiet (h:=?_)
    | (refine wq_nil ?_; intro _ hkq; replace hm := hm.kept0 hkq; clear hkq)
    | (refine wq_nil_tail ?_; intro _ hkq; replace hm := hm.kept0 hkq; clear hkq)
    | refine wc_cond_true (ht:=?_)
    | refine wc_cond_false (hf:=?_)
    | (refine wc_cond_dec (ht:=fun _ => ?_) (hf:=fun _ => ?_)<;> (try first | contradiction | (exfalso; omega)))
    | refine wc_cond (ht:=fun _ => ?_) (hf:=fun _ => ?_)
    | refine q_move (k:=?_)
    | refine q_assign (k:=?_)
    | refine q_lss (k:=?_)
    | refine q_neq (k:=?_)
    | refine q_neq_str (k:=?_)
    | refine q_neq_bool (k:=?_)
    | refine q_neq_flat (k:=?_)
    | refine q_len_str (k:=?_)
    | refine q_len_slice (k:=?_)
    | refine q_add (k:=?_)
    | refine q_add_u8 (k:=?_)
    | refine q_indexAddr_arr (k:=?_)
    | refine q_indexAddr (k:=?_)
    | refine q_load1 (k:=?_))
    all_goals try (exfalso; omega)
    · exfalso
      have := dg_same x
      simp_all
    · exact at_round (k + 1 : Nat) (by exact ⟨rfl, rfl, rfl, rfl, trivial⟩) ⟨hm, by omega⟩ (by omega)
  · skip
    repeat' (first
    | refine m_load1 hm (k:=?_)
    | refine i_load1 hm (k:=?_)
    | refine m_loadAll hm (k:=?_)
    | refine i_loadN hm (k:=?_)
    | refine i_load1z hm (k:=?_)
    | refine mq_load1 hm (k:=?_)
    | refine iq_load1 hm (k:=?_)
    | refine mq_loadAll hm (k:=?_)
    | refine iq_loadN hm (k:=?_)
    | refine iq_load1z hm (k:=?_)
    | refine m_ret_agg hm (h:=?_)
    | refine m_ret2_agg hm (h:=?_)
    | refine op_move (k:=?_)
    | refine op_assign (k:=?_)
    | refine op_lss (k:=?_)
    | refine op_neq (k:=?_)
    | refine op_neq_str (k:=?_)
    | refine op_neq_bool (k:=?_)
    | refine op_neq_flat (k:=?_)
    | refine op_len_str (k:=?_)
    | refine op_len_slice (k:=?_)
    | refine op_add (k:=?_)
    | refine op_add_u8 (k:=?_)
    | refine op_indexAddr_arr (k:=?_)
    | refine op_indexAddr (k:=?_)
    | refine op_load1 (k:=?_)
    | refine wl_nil ?_
    | refine at_then_normal ?_
    | refine at_then_ret ?_
    | refine at_then_exit ?_
    | refine at_block_normal ?_
    | refine at_block_ret ?_
    | refine at_block_exit ?_
    | refine at_block_other (h:=?_)
    | refine wc_seq ?_
    | refine wc_region ?_
    | refine wc_block ?_
    | refine wc_skip ?_
    | refine wc_exit ?_
    | refine wc_ret ?_
    | refine at_ret1 (h:=?_)
    | refine wc_quiet (h:=?_)
    | (refine wq_nil ?_; intro _ hkq; replace hm := hm.kept0 hkq; clear hkq)
    | (refine wq_nil_tail ?_; intro _ hkq; replace hm := hm.kept0 hkq; clear hkq)
    | refine wc_cond_true (ht:=?_)
    | refine wc_cond_false (hf:=?_)
    | (refine wc_cond_dec (ht:=fun _ => ?_) (hf:=fun _ => ?_)<;> (try first | contradiction | (exfalso; omega)))
    | refine wc_cond (ht:=fun _ => ?_) (hf:=fun _ => ?_)
    | refine q_move (k:=?_)
    | refine q_assign (k:=?_)
    | refine q_lss (k:=?_)
    | refine q_neq (k:=?_)
    | refine q_neq_str (k:=?_)
    | refine q_neq_bool (k:=?_)
    | refine q_neq_flat (k:=?_)
    | refine q_len_str (k:=?_)
    | refine q_len_slice (k:=?_)
    | refine q_add (k:=?_)
    | refine q_add_u8 (k:=?_)
    | refine q_indexAddr_arr (k:=?_)
    | refine q_indexAddr (k:=?_)
    | refine q_load1 (k:=?_))
    all_goals try (exfalso; omega)
    exact ⟨I, [], ⟨rfl, rfl⟩, hm.left (H := [])⟩
set_option maxHeartbeats 8000000 in
theorem p_sameExpr : ∀ (n : Nat) (e : Sp.Ex), SizeOf.sizeOf e ≤ n → e.small → ∀ (I : Imm) (ea eb : Option Addr) (ec ed : Nat) (xs ys : List Value), RowI I 111 6 (.slice ea e.args.length ec) e.args.length xs → ExsAt I e.args xs →
    RowI I 111 6 (.slice eb e.args.length ed) e.args.length ys → ExsAt I e.args ys →
    CalM Try.prog 66 #[.agg (exCells e ea ec).toArray, .agg (exCells e eb ed).toArray] I [] ToTrue := by
  intro n
  induction n with
  | zero => intro e h; cases e; simp at h
  | succ n ih =>
  intro e hsz hsm I ea eb ec ed xs ys hr hx hr2 hy
  obtain ⟨hal, hasm⟩ := Sp.small_args hsm
  refine CalM.of fun w E hm => enter (N := 67) Try.func66 rfl [(0, .agg (exCells e ea ec).toArray), (1, .agg (exCells e eb ed).toArray)] args2 rfl ?_
  repeat' (first
  | (refine m_box (d:=2) hm (k:=?_); clear hm; intro b2 _ hm)
  | (refine m_box (d:=3) hm (k:=?_); clear hm; intro b3 _ hm)
  | refine m_load1 hm (k:=?_)
  | refine i_load1 hm (k:=?_)
  | refine m_loadAll hm (k:=?_)
  | refine i_loadN hm (k:=?_)
  | refine i_load1z hm (k:=?_)
  | refine mq_load1 hm (k:=?_)
  | refine iq_load1 hm (k:=?_)
  | refine mq_loadAll hm (k:=?_)
  | refine iq_loadN hm (k:=?_)
  | refine iq_load1z hm (k:=?_)
  | refine m_ret_agg hm (h:=?_)
  | refine m_ret2_agg hm (h:=?_)
  | refine op_move (k:=?_)
  | refine op_assign (k:=?_)
  | refine op_pick_true (k:=?_)
  | refine op_pick_false (k:=?_)
  | refine op_lss (k:=?_)
  | refine op_neq (k:=?_)
  | refine op_neq_str (k:=?_)
  | refine op_neq_bool (k:=?_)
  | refine op_neq_flat (k:=?_)
  | refine op_len_str (k:=?_)
  | refine op_len_slice (k:=?_)
  | refine op_not (k:=?_)
  | refine op_add (k:=?_)
  | refine op_add_u8 (k:=?_)
  | refine op_indexAddr_arr (k:=?_)
  | refine op_fieldAddr (k:=?_)
  | refine op_indexAddr (k:=?_)
  | refine op_load1 (k:=?_)
  | refine wl_skip (k:=?_)
  | (refine wl_split_dec (h1:=fun _ => ?_) (h0:=fun _ => ?_)<;> (try first | contradiction | (exfalso; omega)))
  | (refine wl_split (h1:=fun _ => ?_) (h0:=fun _ => ?_)<;> (fail_if_success contradiction))
  | refine wl_nil ?_
  | refine at_then_normal ?_
  | refine at_then_ret ?_
  | refine at_then_exit ?_
  | refine at_block_normal ?_
  | refine at_block_ret ?_
  | refine at_block_exit ?_
  | refine at_block_other (h:=?_)
  | refine wc_seq ?_
  | refine wc_region ?_
  | refine wc_block ?_
  | refine wc_skip ?_
  | refine wc_exit ?_
  | refine wc_ret ?_
  | refine at_ret1 (h:=?_)
  | refine wc_quiet (h:=?_)
  | (refine wq_nil ?_; intro _ hkq; replace hm := hm.kept0 hkq; clear hkq)
  | (refine wq_nil_tail ?_; intro _ hkq; replace hm := hm.kept0 hkq; clear hkq)
  | refine wc_cond_true (ht:=?_)
  | refine wc_cond_false (hf:=?_)
  | (refine wc_cond_dec (ht:=fun _ => ?_) (hf:=fun _ => ?_)<;> (try first | contradiction | (exfalso; omega)))
  | refine wc_cond (ht:=fun _ => ?_) (hf:=fun _ => ?_)
  | refine q_move (k:=?_)
  | refine q_assign (k:=?_)
  | refine q_pick_true (k:=?_)
  | refine q_pick_false (k:=?_)
  | refine q_lss (k:=?_)
  | refine q_neq (k:=?_)
  | refine q_neq_str (k:=?_)
  | refine q_neq_bool (k:=?_)
  | refine q_neq_flat (k:=?_)
  | refine q_len_str (k:=?_)
  | refine q_len_slice (k:=?_)
  | refine q_not (k:=?_)
  | refine q_add (k:=?_)
  | refine q_add_u8 (k:=?_)
  | refine q_indexAddr_arr (k:=?_)
  | refine q_fieldAddr (k:=?_)
  | refine q_indexAddr (k:=?_)
  | refine q_load1 (k:=?_)
  | refine wq_skip (k:=?_)
  | (refine wq_split_dec (h1:=fun _ => ?_) (h0:=fun _ => ?_)<;> (try first | contradiction | (exfalso; omega)))
  | (refine wq_split (h1:=fun _ => ?_) (h0:=fun _ => ?_)<;> (fail_if_success contradiction)))
  all_goals try (exfalso; first | omega | contradiction)
  refine wc_loop (fun x : KI => [(2, ptr b2), (3, ptr b3), (50, nt e.args.length), (51, nt x.k)])
    (fun x w' => Mem E x.I [.cell b3 (exCells e eb ed) 111, .cell b2 (exCells e ea ec) 111] w' ∧ Le I x.I ∧ x.k ≤ e.args.length)
    (fun x => e.args.length - x.k) ⟨0, I⟩ (by exact ⟨rfl, rfl, rfl, rfl, trivial⟩) ⟨hm, Le.refl _, Nat.zero_le _⟩ ?_
  clear hm
  rintro ⟨k, I1⟩ w2 ⟨hm, hle1, hk⟩
  dsimp only at hm hle1 hk ⊢
  by_cases hlt : k < e.args.length
  · have hg : e.args[k]? = some e.args[k] := List.getElem?_eq_getElem hlt
    have hme : e.args[k] ∈ e.args := List.getElem_mem hlt
    obtain ⟨ea2, ec2, xs2, hc2, hr3, hx2⟩ := (hx.get hg).out
    obtain ⟨eb2, ed2, ys2, hd2, hr4, hy2⟩ := (hy.get hg).out
    have hsm2 := Sp.exsSmall_get hasm hg
    have hsz2 := Sp.size_args hme
    generalize e.args[k] = y at hg hc2 hd2 hr3 hx2 hr4 hy2 hsm2 hsz2
    have hcall := fun (I' : Imm) (m : Le I I') => ih y (by omega) hsm2 I' ea2 eb2 ec2 ed2 xs2 ys2 (hr3.le m) (ExsAt.le m _ _ hx2) (hr4.le m) (ExsAt.le m _ _ hy2)
    have hri := hr.le hle1
    have hri2 := hr2.le hle1
    repeat' (first
    | (refine wc_semi_mem (id:=6) (hm.perm pm0) 10 11 (h:=?_); clear hm; intro wd hR hm)
    | (refine iw_indexAddr (d:=57) (hr:=hri) (k:=?_); intro bt ot hpt; rw [show ((k : Int).toNat * 6) = k * 6 from rfl, hc2] at hpt)
    | (refine iw_indexAddr (d:=62) (hr:=hri2) (k:=?_); intro bu ou hpu; rw [show ((k : Int).toNat * 6) = k * 6 from rfl, hd2] at hpu)
    | (refine mt_call (d:=64) hm (hc:=hcall _ hle1) (k:=?_); clear hm; rintro _ I2 _ _ ⟨rfl, rfl⟩ hle hm; have hleI2 := hle; try simp only [setn] at hm)
    | refine mw_loadAll hR (k:=?_)
    | refine mw_load1 hR (k:=?_)
    | refine iw_load1 hR (k:=?_)
    | refine mt_struct hm (k:=?_)
    | refine iw_loadN hR (k:=?_)
    | (refine ws_nil ?_; replace hm := hR.back hm; clear hR; try simp only [setn] at hm)
    | (refine m_box (d:=2) hm (k:=?_); clear hm; intro b2 _ hm)
    | (refine m_box (d:=3) hm (k:=?_); clear hm; intro b3 _ hm)
    | refine m_load1 hm (k:=?_)
    | refine i_load1 hm (k:=?_)
    | refine m_loadAll hm (k:=?_)
    | refine i_loadN hm (k:=?_)
    | refine i_load1z hm (k:=?_)
    | refine mq_load1 hm (k:=?_)
    | refine iq_load1 hm (k:=?_)
    | refine mq_loadAll hm (k:=?_)
    | refine iq_loadN hm (k:=?_)
    | refine iq_load1z hm (k:=?_)
    | refine m_ret_agg hm (h:=?_)
    | refine m_ret2_agg hm (h:=?_)
    | refine op_move (k:=?_)
    | refine op_assign (k:=?_)
    | refine op_pick_true (k:=?_)
    | refine op_pick_false (k:=?_)
    | refine op_lss (k:=?_)
    | refine op_neq (k:=?_)
    | refine op_neq_str (k:=?_)
    | refine op_neq_bool (k:=?_)
    | refine op_neq_flat (k:=?_)
    | refine op_len_str (k:=?_)
    | refine op_len_slice (k:=?_)
    | refine op_not (k:=?_)
    | refine op_add (k:=?_)
    | refine op_add_u8 (k:=?_)
    | refine op_indexAddr_arr (k:=?_)
    | refine op_fieldAddr (k:=?_)
    | refine op_indexAddr (k:=?_)
    | refine op_load1 (k:=?_)
    | refine wl_skip (k:=?_)
    | (refine wl_split_dec (h1:=fun _ => ?_) (h0:=fun _ => ?_)<;> (try first | contradiction | (exfalso; omega)))
    | (refine wl_split (h1:=fun _ => ?_) (h0:=fun _ => ?_)<;> (fail_if_success contradiction))
    | refine wl_nil ?_
    | refine at_then_normal ?_
    | refine at_then_ret ?_
    | refine at_then_exit ?_
    | refine at_block_normal ?_
    | refine at_block_ret ?_
    | refine at_block_exit ?_
    | refine at_block_other (h:=?_)
    | refine wc_seq ?_
    | refine wc_region ?_
    | refine wc_block ?_
    | refine wc_skip ?_
    | refine wc_exit ?_
    | refine wc_ret ?_
    | refine at_ret1 (h:=?_)
    | refine wc_quiet (h:=?_)
    | (refine wq_nil ?_; intro _ hkq; replace hm := hm.kept0 hkq; clear hkq)
    | (refine wq_nil_tail ?_; intro _ hkq; replace hm := hm.kept0 hkq; clear hkq)
    | refine wc_cond_true (ht:=?_)
    | refine wc_cond_false (hf:=?_)
    | (refine wc_cond_dec (ht:=fun _ => ?_) (hf:=fun _ => ?_)<;> (try first | contradiction | (exfalso; omega)))
    | refine wc_cond (ht:=fun _ => ?_) (hf:=fun _ => ?_)
    | refine q_move (k:=?_)
    | refine q_assign (k:=?_)
    | refine q_pick_true (k:=?_)
    | refine q_pick_false (k:=?_)
    | refine q_lss (k:=?_)
    | refine q_neq (k:=?_)
    | refine q_neq_str (k:=?_)
    | refine q_neq_bool (k:=?_)
    | refine q_neq_flat (k:=?_)
    | refine q_len_str (k:=?_)
    | refine q_len_slice (k:=?_)
    | refine q_not (k:=?_)
    | refine q_add (k:=?_)
    | refine q_add_u8 (k:=?_)
    | refine q_indexAddr_arr (k:=?_)
    | refine q_fieldAddr (k:=?_)
    | refine q_indexAddr (k:=?_)
    | refine q_load1 (k:=?_)
    | refine wq_skip (k:=?_)
    | (refine wq_split_dec (h1:=fun _ => ?_) (h0:=fun _ => ?_)<;> (try first | contradiction | (exfalso; omega)))
    | (refine wq_split (h1:=fun _ => ?_) (h0:=fun _ => ?_)<;> (fail_if_success contradiction))
    | refine v_move (k:=?_)
    | refine v_assign (k:=?_)
    | refine v_pick_true (k:=?_)
    | refine v_pick_false (k:=?_)
    | refine v_lss (k:=?_)
    | refine v_neq (k:=?_)
    | refine v_neq_str (k:=?_)
    | refine v_neq_bool (k:=?_)
    | refine v_neq_flat (k:=?_)
    | refine v_len_str (k:=?_)
    | refine v_len_slice (k:=?_)
    | refine v_not (k:=?_)
    | refine v_add (k:=?_)
    | refine v_add_u8 (k:=?_)
    | refine v_indexAddr_arr (k:=?_)
    | refine v_fieldAddr (k:=?_)
    | refine v_indexAddr (k:=?_)
    | refine v_load1 (by rfl) (by rfl) (by rfl) (by assumption) (by rfl) ?_
    | refine wv_skip (k:=?_)
    | (refine wv_split (h1:=fun _ => ?_) (h0:=fun _ => ?_)<;> (fail_if_success contradiction))
    | refine wv_nil ?_
    | refine ws_nil ?_)
    all_goals try (exfalso; first | omega | contradiction)
    exact at_round (⟨k + 1, I2⟩ : KI) (by exact ⟨rfl, rfl, rfl, rfl, trivial⟩) ⟨hm, hle1.trans hleI2, by dsimp only; omega⟩ (by dsimp only; omega)
  · obtain rfl : k = e.args.length := by omega
    repeat' (first
    | (refine m_box (d:=2) hm (k:=?_); clear hm; intro b2 _ hm)
    | (refine m_box (d:=3) hm (k:=?_); clear hm; intro b3 _ hm)
    | refine m_load1 hm (k:=?_)
    | refine i_load1 hm (k:=?_)
    | refine m_loadAll hm (k:=?_)
    | refine i_loadN hm (k:=?_)
    | refine i_load1z hm (k:=?_)
    | refine mq_load1 hm (k:=?_)
    | refine iq_load1 hm (k:=?_)
    | refine mq_loadAll hm (k:=?_)
    | refine iq_loadN hm (k:=?_)
    | refine iq_load1z hm (k:=?_)
    | refine m_ret_agg hm (h:=?_)
    | refine m_ret2_agg hm (h:=?_)
    | refine op_move (k:=?_)
    | refine op_assign (k:=?_)
    | refine op_pick_true (k:=?_)
    | refine op_pick_false (k:=?_)
    | refine op_lss (k:=?_)
    | refine op_neq (k:=?_)
    | refine op_neq_str (k:=?_)
    | refine op_neq_bool (k:=?_)
    | refine op_neq_flat (k:=?_)
    | refine op_len_str (k:=?_)
    | refine op_len_slice (k:=?_)
    | refine op_not (k:=?_)
    | refine op_add (k:=?_)
    | refine op_add_u8 (k:=?_)
    | refine op_indexAddr_arr (k:=?_)
    | refine op_fieldAddr (k:=?_)
    | refine op_indexAddr (k:=?_)
    | refine op_load1 (k:=?_)
    | refine wl_skip (k:=?_)
    | (refine wl_split_dec (h1:=fun _ => ?_) (h0:=fun _ => ?_)<;> (try first | contradiction | (exfalso; omega)))
    | (refine wl_split (h1:=fun _ => ?_) (h0:=fun _ => ?_)<;> (fail_if_success contradiction))
    | refine wl_nil ?_
    | refine at_then_normal ?_
    | refine at_then_ret ?_
    | refine at_then_exit ?_
    | refine at_block_normal ?_
    | refine at_block_ret ?_
    | refine at_block_exit ?_
    | refine at_block_other (h:=?_)
    | refine wc_seq ?_
    | refine wc_region ?_
    | refine wc_block ?_
    | refine wc_skip ?_
    | refine wc_exit ?_
    | refine wc_ret ?_
    | refine at_ret1 (h:=?_)
    | refine wc_quiet (h:=?_)
    | (refine wq_nil ?_; intro _ hkq; replace hm := hm.kept0 hkq; clear hkq)
    | (refine wq_nil_tail ?_; intro _ hkq; replace hm := hm.kept0 hkq; clear hkq)
    | refine wc_cond_true (ht:=?_)
    | refine wc_cond_false (hf:=?_)
    | (refine wc_cond_dec (ht:=fun _ => ?_) (hf:=fun _ => ?_)<;> (try first | contradiction | (exfalso; omega)))
    | refine wc_cond (ht:=fun _ => ?_) (hf:=fun _ => ?_)
    | refine q_move (k:=?_)
    | refine q_assign (k:=?_)
    | refine q_pick_true (k:=?_)
    | refine q_pick_false (k:=?_)
    | refine q_lss (k:=?_)
    | refine q_neq (k:=?_)
    | refine q_neq_str (k:=?_)
    | refine q_neq_bool (k:=?_)
    | refine q_neq_flat (k:=?_)
    | refine q_len_str (k:=?_)
    | refine q_len_slice (k:=?_)
    | refine q_not (k:=?_)
    | refine q_add (k:=?_)
    | refine q_add_u8 (k:=?_)
    | refine q_indexAddr_arr (k:=?_)
    | refine q_fieldAddr (k:=?_)
    | refine q_indexAddr (k:=?_)
    | refine q_load1 (k:=?_)
    | refine wq_skip (k:=?_)
    | (refine wq_split_dec (h1:=fun _ => ?_) (h0:=fun _ => ?_)<;> (try first | contradiction | (exfalso; omega)))
    | (refine wq_split (h1:=fun _ => ?_) (h0:=fun _ => ?_)<;> (fail_if_success contradiction)))
    all_goals try (exfalso; omega)
    exact ⟨I1, [], ⟨rfl, rfl⟩, hm.left (H := [])⟩
end Go.Proofs.Ytjfkjpbkmpofkaa
end
