/- Own work: texts InfE, InfS, SpecInfT, LawFt, one behind the other. -/
import Derived.Test.YthmdffgiockcbaaDoorIf29
section
namespace Go.Sp
theorem AllTwo.snoc {α β : Type} {R : α → β → Prop} : ∀ {l : List α} {r : List β} {a : α} {b : β}, AllTwo R l r → R a b → AllTwo R (l ++ [a]) (r ++ [b])
  | _, _, _, _, .nil, h => .cons h .nil
  | _, _, _, _, .cons h1 t1, h => .cons h1 (t1.snoc h)
/-- what is asked of items whose labels are found. -/
structure ItI (x : Itm) : Prop where
  small : x.small
  body : stmsAll anyP labS x.body
  cnt : stmsCnt x.body ≤ 400000000
  lets : (letsS x.body).Nodup
  none : 0 ∉ letsS x.body
theorem iter_lt {its : List Itm} {it : Itm} (hlab : itLab its) (hb : stmsAll anyP labS it.body) (hp : ∀ p ∈ it.params, p.label < 256) : ∀ (k f : Nat), iterI its it k f < 256
  | 0, _ => by show 0 < 256; omega
  | k + 1, f => (roundI_ok hlab hb hp (iter_lt hlab hb hp k)).1 f
end Go.Sp
namespace Go.Proofs.YthmdffgiockcbaaDoor
open Go.Fw
theorem _root_.Go.Fw.pmL7 {f r m a b c d : HItem} {T : List HItem} : (f :: r :: m :: a :: b :: c :: d :: T).Perm ((T ++ [f, r, m]) ++ [a, b, c, d]) := by
  rw [List.append_assoc]; exact List.perm_append_comm (l₁ := [f, r, m, a, b, c, d])
theorem _root_.Go.Fw.pmL4 {a b c d : HItem} {T : List HItem} : (a :: b :: c :: d :: T).Perm (T ++ [a, b, c, d]) := List.perm_append_comm (l₁ := [a, b, c, d])
theorem _root_.Go.Fw.pmIcT {r c f m : HItem} {T : List HItem} : (r :: c :: f :: m :: T).Perm (c :: f :: r :: m :: T) := (List.perm_append_comm (l₁ := [r]) (l₂ := [c, f])).append_right (m :: T)
theorem _root_.Go.Fw.pmSw {a b : HItem} {T : List HItem} : (a :: b :: T).Perm (b :: a :: T) := .swap _ _ _
def parsLoc (l : List Sp.Par) : List Loc := l.map (fun p => (⟨p.name, p.label, none⟩, .pointer none))
theorem parsLoc_fst (l : List Sp.Par) : (parsLoc l).map (·.1) = Sp.parsI l := by rw [parsLoc, Sp.parsI, List.map_map]; rfl
theorem parsLoc_step {l : List Sp.Par} {j : Nat} {p : Sp.Par} (h : l[j]? = some p) : parsLoc (l.take (j + 1)) = parsLoc (l.take j) ++ [(⟨p.name, p.label, none⟩, .pointer none)] := by
  rw [Sp.take_succ_get h, parsLoc, List.map_append]; rfl
/-- the finder, ahead of what else is owned. -/
abbrev InT (bd bf : Nat) (sc : List Loc) (o : Sp.Lab) (more : Bool) (sa : Option Addr) (sp bo : Nat) (zs : EntsZ) (T : List HItem) : List HItem :=
  .cell bd [ptr bf, .slice sa sc.length sp, .map (some bo), .bool more] 53 :: .row (.slice sa sc.length sp) 58 3 sc.length (sc.flatMap (encLi o)) :: .mz bo zs :: T
structure LbX where
  k : Nat
  I : Imm
  a : Option Addr
  cp : Nat
  xs : List Value
  r : List Sp.Itm
structure LbR where
  I : Imm
  sc : List Loc
  o : Sp.Lab
  more : Bool
  sa : Option Addr
  sp : Nat
  zs : EntsZ
structure LbP where
  j : Nat
  sa : Option Addr
  sp : Nat
/-- a file's items with their labels. -/
abbrev ToLabs (its : List Sp.Itm) : Value → Imm → List HItem → Prop := fun v J H' => H' = [] ∧ ∃ ra rp xs r, Sp.LabsOf its r ∧ v = .agg [.slice ra r.length rp].toArray ∧ RowI J 34 10 (.slice ra r.length rp) r.length xs ∧ ItsAt J r xs
set_option maxHeartbeats 64000000 in
theorem i_labels {its : List Sp.Itm} (hlab : Sp.itLab its) (hI : ∀ x ∈ its, Sp.ItI x) (I : Imm) (a : Option Addr) (cp : Nat) (xs : List Value) (hfe : FE I its a cp xs) :
    CalM Tryd.prog 7 #[.agg [.slice a its.length cp].toArray] I [] (ToLabs its) := by
  have hfew := hfe.few
  refine CalM.of fun w E hm => enter (N := 72) Tryd.func7 rfl [(0, .agg [.slice a its.length cp].toArray)] args1 rfl ?_
  repeat' (first
  | refine wc_hold 2 ?_
  | (refine m_box (d:=1) hm (k:=?_); clear hm; intro b1 _ hm)
  | (refine m_allocS (d:=2) hm (k:=?_); clear hm; intro b2 _ hm)
  | (refine m_allocS (d:=3) hm (k:=?_); clear hm; intro b3 _ hm)
  | refine wl_nil ?_
  | refine at_then_normal ?_
  | refine wc_seq ?_
  | refine wc_region ?_)
  all_goals try (exfalso; omega)
  obtain ⟨I1, hle1, hm1, hpf⟩ := (hm.perm (List.perm_append_comm (l₁ := [_, _]) (l₂ := [_]))).freezeO
  clear hm
  have hm := hm1
  clear hm1
  have hfe1 := hfe.le hle1
  refine ⟨?_⟩
  repeat' (first
  | refine i_load1 hm (k:=?_)
  | refine op_move (k:=?_)
  | refine op_len_slice (k:=?_)
  | refine op_fieldAddr (k:=?_)
  | refine wl_nil ?_
  | refine at_then_normal ?_
  | refine wc_region ?_
  | refine wc_block ?_)
  all_goals try (exfalso; omega)
  have hm := (hm.nil 34 10).swap
  refine wc_loop (fun x : LbX => [(1, ptr b1), (2, ptr b2), (3, ptr b3), (10, .slice a its.length cp), (11, nt its.length), (12, nt x.k)])
    (fun x w' => Mem E x.I [.cell b3 [.slice x.a x.r.length x.cp] 25, itRow x.r.length x.a x.cp x.xs, .cell b2 [.slice none 0 0] 25] w' ∧ Le I1 x.I ∧ x.k ≤ its.length ∧ Sp.AllTwo (Sp.Labd its) (its.take x.k) x.r ∧ ItsAt x.I x.r x.xs) (fun x => its.length - x.k) ⟨0, I1, none, 0, [], []⟩
    (by exact ⟨rfl, rfl, rfl, rfl, rfl, rfl, trivial⟩) ⟨hm, Le.refl _, Nat.zero_le _, .nil, rfl⟩ ?_
  clear hm
  rintro ⟨k, I2, ra, rp, rx, r⟩ w2 ⟨hm, hle2, hk, hall, hits⟩
  dsimp only at hm hle2 hk hall hits ⊢
  have hfe2 := hfe1.le hle2
  have hpf2 := hpf.le hle2
  have hri := hfe2.row
  have hrl := hall.len
  rw [List.length_take, Nat.min_eq_left hk] at hrl
  by_cases hlt : k < its.length
  · have hg : its[k]? = some its[k] := List.getElem?_eq_getElem hlt
    have htk := Sp.take_succ_get hg
    obtain ⟨cs, hcs, hat, hl10⟩ := hfe2.get hg
    have hIt := hI _ (List.getElem_mem hlt)
    have hpl := (hlab _ (List.getElem_mem hlt)).2
    generalize its[k] = it at hg hat hIt hpl htk
    have hOw := o_own it hIt.small I2 cs hat
    have hpn := hIt.small.params
    have hbn := hIt.small.body
    obtain ⟨ap0, cp0, as0, cs0, ab0, cb0, ad0, cd0, xb0, rfl, _⟩ := hat
    repeat' (first
    | (refine i_indexAddr (d:=14) (hr:=hri) (k:=?_); intro bt ot hpt; rw [show ((k : Int).toNat * 10) = k * 10 from rfl, hcs] at hpt)
    | (refine m_call (d:=17) hm (hp:=pm0) (hc:=hOw) (k:=?_); clear hm; rintro _ I3 _ _ ⟨ap, cp', as_, cs', ab, cb, ad, cd, Hb, rfl, rfl, hO, hrs, hrd⟩ hleI3 hm; replace hm := hm.perm List.perm_append_comm)
    | refine wc_hold 6 ?_
    | (refine m_varS (d:=5) hm (k:=?_); clear hm; intro b5 _ hm)
    | refine m_loadAll hm (k:=?_)
    | refine i_loadN hm (k:=?_)
    | (refine m_storeAll hm (k:=?_); clear hm; intro _ hm; try simp only [setn] at hm)
    | refine op_lss (k:=?_)
    | refine wl_nil ?_
    | refine at_then_normal ?_
    | refine wc_seq ?_
    | refine wc_region ?_
    | refine wc_block ?_
    | refine wc_skip ?_
    | (refine wc_cond_dec (ht:=fun _ => ?_) (hf:=fun _ => ?_)<;> (try first | contradiction | (exfalso; omega))))
    all_goals try (exfalso; omega)
    obtain ⟨I4, hle4, hm4, hrp⟩ := (hm.perm (pmL4.trans (.refl _))).freeze
    clear hm
    have hm := hm4.perm pmL4.symm
    clear hm4
    have hle24 : Le I2 I4 := hleI3.trans hle4
    have hO4 := hO.le hle4
    have hrs4 := hrs.le hle4
    have hrd4 := hrd.le hle4
    have hpf4 := hpf2.le hle24
    have hfe4 := hfe2.le hle24
    have hits4 := hits.le hle24
    -- what is left to do with an item
    refine ⟨?_⟩
    by_cases k2 : it.kind = 2
    · skip
      repeat' (first
      | (refine m_makeMap (d:=21) hm (k:=?_); clear hm; intro b21 _ hm)
      | (refine m_box (d:=23) hm (k:=?_); clear hm; intro b23 _ hm)
      | refine m_load1 hm (k:=?_)
      | refine op_assign (k:=?_)
      | refine op_eql (k:=?_)
      | refine op_fieldAddr (k:=?_)
      | refine op_struct (k:=?_)
      | refine wl_nil ?_
      | refine at_then_normal ?_
      | refine wc_seq ?_
      | refine wc_region ?_
      | refine wc_block ?_
      | (refine wc_cond_dec (ht:=fun _ => ?_) (hf:=fun _ => ?_)<;> (try first | contradiction | (exfalso; omega))))
      all_goals try (exfalso; first | omega | contradiction)
      have hm := (hm.nil 58 3).perm pmSw
      refine wc_loop (fun _ : LbR => [(1, ptr b1), (2, ptr b2), (3, ptr b3), (5, ptr b5), (6, ptr b23), (10, .slice a its.length cp), (11, nt its.length), (12, nt k)])
        (fun x w' => Mem E x.I (InT b23 b1 x.sc x.o x.more x.sa x.sp b21 x.zs (.cell b5 (itCells it.kind it.name it.label (.slice ap it.params.length cp') (.slice as_ it.sends.length cs') (.slice ab it.body.length cb) it.at_ it.size it.mark (.slice ad it.diags.length cd)) 34 :: .cell b3 [.slice ra r.length rp] 25 :: itRow r.length ra rp rx :: .cell b2 [.slice none 0 0] 25 :: Hb)) w' ∧
          Le I4 x.I ∧ OpenZ x.zs x.o ∧ (∃ kk, x.o = Sp.iterI its it kk) ∧ (x.more = false → Sp.roundI its it x.o = (x.o, false)))
        (fun x => 2 * Sp.potL (Sp.letsS it.body) x.o + (if x.more = true then 1 else 0)) ⟨I4, [], fun _ => 0, true, none, 0, []⟩
        (by exact ⟨rfl, rfl, rfl, rfl, rfl, rfl, rfl, rfl, trivial⟩) ⟨hm, Le.refl _, OpenZ.nil, ⟨0, rfl⟩, fun h => (by cases h)⟩ ?_
      clear hm
      rintro ⟨I5, sc, o, more, sa, sp, zs⟩ w5 ⟨hm, hle5, hz, ⟨kk, hkk⟩, hfix⟩
      dsimp only at hm hle5 hz hkk hfix ⊢
      have hok : ∀ f, o f < 256 := fun f => by rw [hkk]; exact Sp.iter_lt hlab hIt.body hpl kk f
      obtain ⟨hr1, hr2, hr3⟩ := Sp.roundI_ok (o := o) hlab hIt.body hpl hok
      cases more with
      | false =>
        repeat' (first
        | refine wc_hold 17 ?_
        | refine m_load1 hm (k:=?_)
        | refine op_move (k:=?_)
        | refine op_nilCheck (k:=?_)
        | refine op_fieldAddr (k:=?_)
        | refine wl_nil ?_
        | refine at_then_normal ?_
        | refine at_then_exit ?_
        | refine at_block_exit ?_
        | refine wc_seq ?_
        | refine wc_region ?_
        | refine wc_exit ?_
        | refine wc_cond_false (hf:=?_))
        all_goals try (exfalso; first | omega | contradiction)
        obtain ⟨I6, hle6, hm6, hpd⟩ := hm.freezeO
        obtain ⟨I7, hle7, hm7, hmz⟩ := Mem.freezeMZ hm6.tl
        clear hm hm6
        have hm := hm7
        clear hm7
        have hF := i_fill (bd := b23) (bo := b21) hz _ it.body (Nat.le_refl _) (by omega) hIt.small.stms I7 ab cb Hb (hpd.le hle7) hmz (((hO4.le hle5).le hle6).le hle7)
        refine ⟨?_⟩
        repeat' (first
        | (refine m_call (d:=63) hm (hp:=pmL4) (hc:=hF) (k:=?_); clear hm; rintro _ I8 H1 _ ⟨rfl, hO8⟩ hleI8 hm; replace hm := hm.perm pmL4.symm)
        | refine wc_hold 18 ?_
        | refine m_load1 hm (k:=?_)
        | refine op_move (k:=?_)
        | refine op_fieldAddr (k:=?_)
        | refine wl_nil ?_
        | refine at_then_normal ?_
        | refine wc_region ?_)
        all_goals try (exfalso; first | omega | contradiction)
        obtain ⟨I9, xb9, hle9, hm9, hrb, hxb⟩ := hO8.freeze (hm.perm pmL4)
        clear hm
        have hm := hm9
        clear hm9
        have hle49 : Le I4 I9 := (((hle5.trans hle6).trans hle7).trans hleI8).trans hle9
        have hit : ItAt I9 (Sp.itI o it) (itCells it.kind it.name it.label (.slice ap it.params.length cp') (.slice as_ it.sends.length cs') (.slice ab it.body.length cb) it.at_ it.size it.mark (.slice ad it.diags.length cd)) :=
          ⟨ap, cp', as_, cs', ab, cb, ad, cd, xb9, by show _ = itCells it.kind it.name it.label _ _ (.slice ab (Sp.fillL o it.body).length cb) it.at_ it.size it.mark _; rw [Sp.fillL_len]; rfl, hrp.le hle49, hrs4.le hle49, hrb, hxb, hrd4.le hle49⟩
        refine ⟨?_⟩
        repeat' (first
        | (refine m_push (d:=68) hm (k:=?_); clear hm; intro a68 cp68 _ _ hm; try simp only [setn] at hm)
        | refine m_load1 hm (k:=?_)
        | refine m_loadAll hm (k:=?_)
        | (refine m_store1 hm (k:=?_); clear hm; intro _ hm; try simp only [setn] at hm)
        | refine op_move (k:=?_)
        | refine op_add (k:=?_)
        | refine op_fieldAddr (k:=?_)
        | refine wl_nil ?_
        | refine at_then_normal ?_
        | refine at_block_normal ?_
        | refine wc_region ?_)
        all_goals try (exfalso; first | omega | contradiction)
        refine at_round (⟨k + 1, I9, a68, cp68, _, r ++ [Sp.itI o it]⟩ : LbX) (by exact ⟨rfl, rfl, rfl, rfl, rfl, rfl, trivial⟩) ⟨?_, (hle2.trans hle24).trans hle49, by dsimp only; omega, by dsimp only; rw [htk]; exact hall.snoc ⟨fun _ => ⟨o, ⟨⟨kk, hkk⟩, hfix rfl⟩, rfl⟩, fun h => absurd k2 h⟩, (hits4.le hle49).snoc hit⟩ (by dsimp only; omega)
        dsimp only [itRow]
        rw [List.length_append]
        exact hm.tl
      | true =>
        repeat' (first
        | refine wc_hold 11 ?_
        | refine m_load1 hm (k:=?_)
        | (refine m_store1 hm (k:=?_); clear hm; intro _ hm; try simp only [setn] at hm)
        | refine op_move (k:=?_)
        | refine op_nilCheck (k:=?_)
        | refine op_fieldAddr (k:=?_)
        | refine wl_nil ?_
        | refine at_then_normal ?_
        | refine wc_seq ?_
        | refine wc_region ?_
        | refine wc_block ?_
        | refine wc_skip ?_
        | refine wc_cond_true (ht:=?_))
        all_goals try (exfalso; first | omega | contradiction)
        have hm := ((hm.perm pmSw).tl.nil 58 3).perm pmSw
        have hrp5 := hrp.le hle5
        have hO5 := hO4.le hle5
        refine ⟨?_⟩
        repeat' (first
        | refine m_load1 hm (k:=?_)
        | refine op_move (k:=?_)
        | refine op_len_slice (k:=?_)
        | refine op_fieldAddr (k:=?_)
        | refine wl_nil ?_
        | refine at_then_normal ?_
        | refine wc_region ?_
        | refine wc_block ?_)
        all_goals try (exfalso; first | omega | contradiction)
        refine wc_loop (fun x : LbP => [(1, ptr b1), (2, ptr b2), (3, ptr b3), (5, ptr b5), (6, ptr b23), (10, .slice a its.length cp), (11, nt its.length), (12, nt k), (35, .slice ap it.params.length cp'), (36, nt it.params.length), (37, nt x.j)])
          (fun x w' => Mem E I5 (InT b23 b1 (parsLoc (it.params.take x.j)) o false x.sa x.sp b21 zs (.cell b5 (itCells it.kind it.name it.label (.slice ap it.params.length cp') (.slice as_ it.sends.length cs') (.slice ab it.body.length cb) it.at_ it.size it.mark (.slice ad it.diags.length cd)) 34 :: .cell b3 [.slice ra r.length rp] 25 :: itRow r.length ra rp rx :: .cell b2 [.slice none 0 0] 25 :: Hb)) w' ∧ x.j ≤ it.params.length)
          (fun x => it.params.length - x.j) ⟨0, none, 0⟩ (by exact ⟨rfl, rfl, rfl, rfl, rfl, rfl, rfl, rfl, rfl, rfl, rfl, trivial⟩) ⟨hm, Nat.zero_le _⟩ ?_
        clear hm
        rintro ⟨j, sa1, sp1⟩ w6 ⟨hm, hj⟩
        dsimp only at hm hj ⊢
        have hpl1 : (parsLoc (it.params.take j)).length = j := by rw [parsLoc, List.length_map, List.length_take]; omega
        by_cases hlj : j < it.params.length
        · have hgp : it.params[j]? = some it.params[j] := List.getElem?_eq_getElem hlj
          have hstp := parsLoc_step hgp
          generalize it.params[j] = p at hgp hstp
          repeat' (first
          | (refine i_indexFlat (d:=39) (enc:=encPar) (z:=p) (hr:=hrp5) (he:=fun _ => rfl) (hz:=by exact hgp) (k:=?_); intro bz oz hpz)
          | (refine wc_semi_memL (id:=14) (hm.perm pm1_2) [0,1,2,3,4,5,6,7,8,9] [10,11] 12 (h:=?_); clear hm; intro wd hR hm)
          | refine mw_load1 hR (k:=?_)
          | (refine mt_push (d:=52) hm (k:=?_); clear hm; intro a52 cp52 _ _ hm; replace hm := hR.back hm; clear hR; try simp only [setn] at hm)
          | (refine m_varS (d:=8) hm (k:=?_); clear hm; intro b8 _ hm)
          | refine i_loadN hm (k:=?_)
          | (refine m_store1 hm (k:=?_); clear hm; intro _ hm; try simp only [setn] at hm)
          | refine op_move (k:=?_)
          | refine op_lss (k:=?_)
          | refine op_nilCheck (k:=?_)
          | refine op_add (k:=?_)
          | refine op_fieldAddr (k:=?_)
          | refine wl_nil ?_
          | refine at_then_normal ?_
          | refine at_block_normal ?_
          | refine wc_seq ?_
          | refine wc_region ?_
          | refine wc_block ?_
          | refine wc_skip ?_
          | (refine wc_cond_dec (ht:=fun _ => ?_) (hf:=fun _ => ?_)<;> (try first | contradiction | (exfalso; omega)))
          | refine v_move (k:=?_)
          | refine v_nilCheck (k:=?_)
          | refine v_fieldAddr (k:=?_)
          | refine v_struct (k:=?_)
          | refine wv_nil ?_)
          all_goals try (exfalso; first | omega | contradiction)
          refine at_round (⟨j + 1, a52, cp52⟩ : LbP) (by exact ⟨rfl, rfl, rfl, rfl, rfl, rfl, rfl, rfl, rfl, rfl, rfl, trivial⟩) ⟨?_, by dsimp only; omega⟩ (by dsimp only; omega)
          dsimp only [InT]
          rw [hstp, List.flatMap_append, List.length_append]
          exact (hm.perm pmIcT).tl
        · obtain rfl : j = it.params.length := by omega
          rw [List.take_length] at hm
          have hq : (Sp.stmsI its it.body ((parsLoc it.params).map (·.1)) 0 (o, false)).2 = Sp.roundI its it o := by rw [parsLoc_fst]; rfl
          have hB : CalM Tryd.prog 12 #[ptr b23, .slice ab it.body.length cb, nt 0] I5 (Hb ++ InSt b23 b1 (parsLoc it.params) o false sa1 sp1 b21 zs) _ := CalM.lend (QJ := fun J => ∃ xb, RowI J 43 15 (.slice ab it.body.length cb) it.body.length xb ∧ StsAt J it.body xb)
            (fun E w hmm => by
              obtain ⟨J, xbJ, hleJ, hmJ, hrJ, hxJ⟩ := hO5.freeze hmm
              exact ⟨J, hleJ, hmJ, xbJ, hrJ, hxJ⟩)
            (fun J m ⟨xb, h1, h2⟩ => i_block (bd := b23) (bf := b1) (bo := b21) hlab _ it.body (Nat.le_refl _) (by omega) hIt.small.stms hIt.body J ab cb xb (parsLoc it.params) 0 (o, false) sa1 sp1 zs (by omega) hok
              (by rw [parsLoc_fst]; exact Sp.parsI_ok hpl) (by have := hIt.cnt; rw [parsLoc, List.length_map]; omega) (by rw [parsLoc_fst, Sp.parsI_ops]; exact hIt.lets)
              (fun q hq => by obtain ⟨p, _, rfl⟩ := List.mem_map.1 hq; exact .inl ⟨rfl, rfl⟩) hz ((hfe4.le hle5).le m) ((hpf4.le hle5).le m) h1 h2)
          rw [hq] at hB
          repeat' (first
          | (refine m_call (d:=59) hm (hp:=pmL7) (hc:=hB) (k:=?_); clear hm; rintro _ I6 _ _ ⟨_, rfl, rfl, sa6, sp6, zs6, hz6, rfl⟩ hleI6 hm; replace hm := hm.perm pmL7.symm)
          | refine m_load1 hm (k:=?_)
          | refine op_move (k:=?_)
          | refine op_lss (k:=?_)
          | refine op_fieldAddr (k:=?_)
          | refine wl_nil ?_
          | refine at_then_normal ?_
          | refine at_then_exit ?_
          | refine at_block_normal ?_
          | refine at_block_exit ?_
          | refine wc_seq ?_
          | refine wc_region ?_
          | refine wc_exit ?_
          | (refine wc_cond_dec (ht:=fun _ => ?_) (hf:=fun _ => ?_)<;> (try first | contradiction | (exfalso; omega))))
          all_goals try (exfalso; first | omega | contradiction)
          refine at_round (⟨I6, parsLoc it.params, (Sp.roundI its it o).1, (Sp.roundI its it o).2, sa6, sp6, zs6⟩ : LbR) (by exact ⟨rfl, rfl, rfl, rfl, rfl, rfl, rfl, rfl, trivial⟩) ⟨hm, hle5.trans hleI6, hz6, ⟨kk + 1, by rw [hkk]; rfl⟩, fun h => ?_⟩ ?_
          · dsimp only at h ⊢
            have h3 := hr3 h
            rw [h3]
            exact Prod.ext h3 h
          · dsimp only
            cases hb : (Sp.roundI its it o).2 with
            | true => have := hr2 hb; rw [if_pos rfl]; omega
            | false => rw [hr3 hb, if_neg (by decide), if_pos rfl]; omega
    · obtain ⟨I5, xb5, hle5, hm5, hrb, hxb⟩ := hO4.freeze (hm.perm pmL4)
      clear hm
      have hm := hm5
      clear hm5
      have hit : ItAt I5 it (itCells it.kind it.name it.label (.slice ap it.params.length cp') (.slice as_ it.sends.length cs') (.slice ab it.body.length cb) it.at_ it.size it.mark (.slice ad it.diags.length cd)) :=
        ⟨ap, cp', as_, cs', ab, cb, ad, cd, xb5, rfl, hrp.le hle5, hrs4.le hle5, hrb, hxb, hrd4.le hle5⟩
      repeat' (first
      | (refine m_push (d:=68) hm (k:=?_); clear hm; intro a68 cp68 _ _ hm; try simp only [setn] at hm)
      | refine m_load1 hm (k:=?_)
      | refine m_loadAll hm (k:=?_)
      | (refine m_store1 hm (k:=?_); clear hm; intro _ hm; try simp only [setn] at hm)
      | refine op_move (k:=?_)
      | refine op_eql (k:=?_)
      | refine op_add (k:=?_)
      | refine op_fieldAddr (k:=?_)
      | refine wl_nil ?_
      | refine at_then_normal ?_
      | refine at_block_normal ?_
      | refine wc_region ?_
      | refine wc_skip ?_
      | (refine wc_cond_dec (ht:=fun _ => ?_) (hf:=fun _ => ?_)<;> (try first | contradiction | (exfalso; omega))))
      all_goals try (exfalso; first | omega | contradiction)
      refine at_round (⟨k + 1, I5, a68, cp68, _, r ++ [it]⟩ : LbX) (by exact ⟨rfl, rfl, rfl, rfl, rfl, rfl, trivial⟩) ⟨?_, (hle2.trans hle24).trans hle5, by dsimp only; omega, by dsimp only; rw [htk]; exact hall.snoc ⟨fun h => absurd h k2, fun _ => rfl⟩, (hits4.le hle5).snoc hit⟩ (by dsimp only; omega)
      dsimp only [itRow]
      rw [List.length_append]
      exact hm.tl
  · obtain rfl : k = its.length := by omega
    rw [List.take_length] at hall
    repeat' (first
    | refine m_loadAll hm (k:=?_)
    | (refine m_storeAll hm (k:=?_); clear hm; intro _ hm; try simp only [setn] at hm)
    | refine m_ret_agg hm (h:=?_)
    | refine op_lss (k:=?_)
    | refine wl_nil ?_
    | refine at_then_normal ?_
    | refine at_then_exit ?_
    | refine at_block_exit ?_
    | refine wc_seq ?_
    | refine wc_region ?_
    | refine wc_exit ?_
    | refine wc_ret ?_
    | (refine wc_cond_dec (ht:=fun _ => ?_) (hf:=fun _ => ?_)<;> (try first | contradiction | (exfalso; omega))))
    all_goals try (exfalso; omega)
    obtain ⟨I3, hle3, hm3, hrow3⟩ := (hm.perm pmSw).freeze
    exact ⟨I3, [], ⟨rfl, ra, rp, rx, r, hall, rfl, hrow3, hits.le hle3⟩, hm3.left (H := [])⟩
end Go.Proofs.YthmdffgiockcbaaDoor
end
section
namespace Go.Sp
mutual
theorem fillS_small (o : Lab) : ∀ (x : Stm), x.small → (fillS o x).small
  | .mk k nm a lb op e thn els f t, h => by
    rw [Stm.small] at h
    rw [fillS, Stm.small, fillL_len, fillL_len]
    exact ⟨h.1, h.2.1, fillL_small o thn h.2.2.1, h.2.2.2.1, fillL_small o els h.2.2.2.2⟩
theorem fillL_small (o : Lab) : ∀ (l : List Stm), stmsSmall l → stmsSmall (fillL o l)
  | [], h => by rw [fillL]; exact h
  | x :: l, h => by
    rw [stmsSmall] at h
    rw [fillL, stmsSmall]
    exact ⟨fillS_small o x h.1, fillL_small o l h.2⟩
end
theorem itI_small {o : Lab} {it : Itm} (h : it.small) : (itI o it).small := by
  refine { h with body := ?_, stms := ?_ }
  · show (fillL o it.body).length ≤ _
    rw [fillL_len]; exact h.body
  · exact fillL_small o _ h.stms
theorem item_itI (src : List UInt8) (at_ : Int) (h : src.length ≤ 1048576) : ItI (item src at_) ∧ (item src at_).label < 256 ∧ ∀ p ∈ (item src at_).params, p.label < 256 := by
  have hA := item_all (src := src) (p := anyP) (q := labS) (r := fun p => p.label < 256) (t := fun _ => True) at_ ⟨trivial, fun _ => trivial, fun _ _ _ _ => trivial, fun _ _ => trivial, fun _ _ _ _ _ => trivial, fun _ _ _ _ _ _ _ _ _ _ _ _ _ _ _ _ => trivial⟩
    ⟨by show 0 < 256; omega, fun _ _ lb _ _ h => Nat.lt_succ_of_le h, fun _ _ _ => (by show 0 < 256; omega), fun _ _ _ _ => (by show 0 < 256; omega), fun _ _ _ => (by show 0 < 256; omega)⟩ (fun _ lb h => Nat.lt_succ_of_le h) (fun _ => trivial)
  have hc := item_cnt src at_
  have hl := item_lets src at_
  exact ⟨⟨item_small src at_ h, hA.body, by omega, hl.1, hl.2⟩, Nat.lt_succ_of_le hA.label, hA.params⟩
theorem file_itI (s : List UInt8) : (∀ x ∈ fileItems s, ItI x) ∧ itLab (fileItems s) ∧ (fileItems s).length ≤ 30 := by
  by_cases h0 : fileErr s = 0
  · have hl : s.length ≤ 4000 ∧ (cuts s).length ≤ 30 := by
      rw [fileErr] at h0
      split at h0
      · cases h0
      · split at h0
        · cases h0
        · omega
    have key : ∀ x ∈ fileItems s, ItI x ∧ x.label < 256 ∧ ∀ p ∈ x.params, p.label < 256 := fun x hx => by
      rw [fileItems, if_pos h0, items] at hx
      obtain ⟨j, _, rfl⟩ := List.mem_map.1 hx
      exact item_itI _ _ (by rw [piece, List.length_take, List.length_drop]; omega)
    exact ⟨fun x hx => (key x hx).1, fun x hx => (key x hx).2, by rw [fileItems, if_pos h0]; simp [items, hl.2]⟩
  · rw [fileItems, if_neg h0]
    exact ⟨fun x hx => (by cases hx), fun x hx => (by cases hx), Nat.zero_le _⟩
theorem itI_itI {o : Lab} {it : Itm} (ho : ∀ f, o f < 256) (h : ItI it) : ItI (itI o it) := by
  refine ⟨itI_small h.small, fillL_all (fun k nm a lb op f t hl => ?_) _ h.body, ?_, ?_, ?_⟩
  · show (if k = 1 ∧ op = true then o f else lb) < 256
    split
    · exact ho f
    · exact hl
  · show stmsCnt (fillL o it.body) ≤ _
    rw [fillL_cnt]; exact h.cnt
  · show (letsS (fillL o it.body)).Nodup
    rw [fillL_lets]; exact h.lets
  · show 0 ∉ letsS (fillL o it.body)
    rw [fillL_lets]; exact h.none
/-- items whose labels were found are as good. -/
theorem labs_itI {its g : List Itm} (h : AllTwo (Labd its) its g) (hI : ∀ x ∈ its, ItI x) (hL : itLab its) : (∀ y ∈ g, ItI y) ∧ itLab g := by
  have key : ∀ y ∈ g, ItI y ∧ y.label < 256 ∧ ∀ p ∈ y.params, p.label < 256 := fun y hy => by
    obtain ⟨x, hx, hxy⟩ := h.mem y hy
    by_cases k2 : x.kind = 2
    · obtain ⟨o, ⟨⟨k, rfl⟩, _⟩, rfl⟩ := hxy.1 k2
      exact ⟨itI_itI (iter_lt hL (hI x hx).body (hL x hx).2 k) (hI x hx), hL x hx⟩
    · rw [hxy.2 k2]; exact ⟨hI x hx, hL x hx⟩
  exact ⟨fun y hy => (key y hy).1, fun y hy => (key y hy).2⟩
end Go.Sp
end
section
namespace Go.Sp
def inferT : List UInt8 := [102, 110, 32, 102, 40, 120, 58, 32, 123, 97, 125, 41, 58, 32, 123, 97, 125, 32, 123, 32, 108, 101, 116, 32, 121, 32, 61, 32, 49, 59, 32, 121, 32, 61, 32, 120, 59, 32, 114, 101, 116, 117, 114, 110, 32, 121, 59, 32, 125]
theorem inferT_err : fileErr inferT = 0 := by decide +kernel
theorem inferT_len : (fileItems inferT).length = 1 := by decide +kernel
theorem inferT_ds : (checkF (fileItems inferT) 0 (-1)).ds.length = 1 := by decide +kernel
theorem inferT_kind : (itNo (fileItems inferT) 0).kind = 2 := by decide +kernel
def inferO : Lab := iterI (fileItems inferT) (itNo (fileItems inferT) 0) 1
theorem inferT_fix : (roundI (fileItems inferT) (itNo (fileItems inferT) 0) inferO).2 = false := by decide +kernel
theorem inferT_body : (itI inferO (itNo (fileItems inferT) 0)).body.length = 3 ∧ ((itI inferO (itNo (fileItems inferT) 0)).body.getD 0 default).label = 1 ∧ ((itI inferO (itNo (fileItems inferT) 0)).body.getD 0 default).opn = false := by decide +kernel
theorem inferT_ds2 : (checkF [itI inferO (itNo (fileItems inferT) 0)] 0 (-1)).ds.length = 0 := by decide +kernel
/-- whatever labels are found for it. -/
theorem inferT_labs {r : List Itm} (h : LabsOf (fileItems inferT) r) : r.length = 1 ∧ soundF r ∧ ∃ it x, r[0]? = some it ∧ it.body.length = 3 ∧ it.body[0]? = some x ∧ x.label = 1 ∧ x.opn = false := by
  have l1 := inferT_len
  have k1 := inferT_kind
  have e1 := inferT_fix
  obtain ⟨b1, b2, b3⟩ := inferT_body
  have d2 := inferT_ds2
  have ho : inferO = iterI (fileItems inferT) (itNo (fileItems inferT) 0) 1 := rfl
  generalize hits : fileItems inferT = its at *
  have e2 : roundI its (itNo its 0) inferO = (inferO, false) := by
    have := stmsI_keep its (itNo its 0).body (parsI (itNo its 0).params) 0 (inferO, false) e1
    exact this
  have h2 : LabsOf its [itI inferO (itNo its 0)] := by
    match its, l1 with
    | [a], _ => exact .cons ⟨fun _ => ⟨_, ⟨⟨1, ho⟩, e2⟩, rfl⟩, fun hk => absurd k1 hk⟩ .nil
  obtain rfl := labs_uniq h h2
  generalize itI inferO (itNo its 0) = it at *
  refine ⟨rfl, fun j hj => ?_, it, it.body.getD 0 default, rfl, b1, ?_, b2, b3⟩
  · obtain rfl : j = 0 := by simpa using hj
    exact List.length_eq_zero_iff.1 d2
  · rw [List.getD_eq_getElem?_getD, List.getElem?_eq_getElem (by omega)]; rfl
theorem inferT_bad : ¬ soundF (fileItems inferT) := fun h => by
  have h1 := inferT_ds
  rw [h 0 (by rw [inferT_len]; omega)] at h1
  cases h1
end Go.Sp
end
section
namespace Go.Sp
mutual
theorem letP_fill (o : Lab) : ∀ (x : Stm), (fillS o x).letP = x.letP
  | .mk k nm a lb op e thn els f t => by rw [fillS, Stm.letP, Stm.letP, letPs_fill o thn, letPs_fill o els]
theorem letPs_fill (o : Lab) : ∀ (l : List Stm), letPs (fillL o l) = letPs l
  | [] => by rw [fillL]
  | x :: l => by rw [fillL, letPs, letPs, letP_fill o x, letPs_fill o l]
 end
mutual
theorem letP_pos {L : Nat → Prop} : ∀ (x : Stm), x.all (posE L) (posS L) → ∀ p ∈ x.letP, ∃ f t : Nat, p = ((f : Int), (t : Int)) ∧ L f ∧ f ≠ t
  | .mk k nm a lb op e thn els f t, h, p, hp => by
    rw [Stm.all] at h
    rw [Stm.letP] at hp
    rcases List.mem_append.1 hp with hp | hp
    · split at hp
      · rename_i hk
        obtain rfl := List.mem_singleton.1 hp
        have := h.1.2 hk
        exact ⟨f, t, rfl, this.1, this.2⟩
      · cases hp
    · rcases List.mem_append.1 hp with hp | hp
      · exact letPs_pos thn h.2.2.1 p hp
      · exact letPs_pos els h.2.2.2 p hp
theorem letPs_pos {L : Nat → Prop} : ∀ (l : List Stm), stmsAll (posE L) (posS L) l → ∀ p ∈ letPs l, ∃ f t : Nat, p = ((f : Int), (t : Int)) ∧ L f ∧ f ≠ t
  | [], _, p, hp => by rw [letPs] at hp; cases hp
  | x :: l, h, p, hp => by
    rw [stmsAll] at h
    rw [letPs] at hp
    rcases List.mem_append.1 hp with hp | hp
    · exact letP_pos x h.1 p hp
    · exact letPs_pos l h.2 p hp
 end
/-- nothing is wrong where lets stand whose labels were found. -/
theorem fits_lets {s : List UInt8} {g : List Itm} (h : AllTwo (Labd (fileItems s)) (fileItems s) g) (hs : ∀ it ∈ fileItems s, shutL it.body = false) {i : Nat} (hi : i < g.length) :
    ∀ d ∈ (checkF g i (-1)).ds, ((d.fr : Int), (d.to : Int)) ∉ letPs (itNo g i).body := by
  have hl := h.len
  have hi2 : i < (fileItems s).length := by omega
  have hg := itNo_get hi2
  have hmem := itNo_mem hi2
  obtain ⟨L, hL⟩ : ∃ L, stmsAll (posE L) (posS L) (itNo (fileItems s) i).body := by
    have : ∀ x ∈ fileItems s, ∃ L, stmsAll (posE L) (posS L) x.body := fun x hx => by
      rw [fileItems] at hx
      split at hx
      · rw [items] at hx
        obtain ⟨j, _, rfl⟩ := List.mem_map.1 hx
        exact item_pos _ _
      · cases hx
    exact this _ hmem
  have hd := fit_item h hi2 hL (shutL_open _ (hs _ hmem)) (-1)
  have hb : letPs (itNo g i).body = letPs (itNo (fileItems s) i).body := by
    obtain ⟨r, hr, hx⟩ := h.get hg
    have e : itNo g i = r := by rw [itNo, List.getD_eq_getElem?_getD, hr]; rfl
    rw [e]
    by_cases hk : (itNo (fileItems s) i).kind = 2
    · obtain ⟨o, _, rfl⟩ := hx.1 hk
      exact letPs_fill o _
    · rw [hx.2 hk]
  intro d hdm hp
  rw [hb] at hp
  obtain ⟨f, t, he, h1, h2⟩ := letPs_pos _ hL _ hp
  have e1 : d.fr = f := by have := congrArg Prod.fst he; exact Int.ofNat.inj this
  have e2 : d.to = t := by have := congrArg Prod.snd he; exact Int.ofNat.inj this
  have := hd d hdm (by rw [e1]; exact h1)
  omega
theorem ItI.toItF {it : Itm} (h : ItI it) : ItF it := ⟨h.small, h.body, by have := h.cnt; omega⟩
end Go.Sp
namespace Go.Proofs.YthmdffgiockcbaaDoor
open Go.Fw
structure FtX where
  k : Nat
  I : Imm
set_option maxHeartbeats 16000000 in
theorem g_lets {its : List Sp.Itm} {i : Nat} (hi : i < its.length) (I : Imm) (a : Option Addr) (cp : Nat) (xs : List Value) (h : FE I its a cp xs) (hlab : Sp.itLab its) (hF : ∀ x ∈ its, Sp.ItF x)
    (hd : ∀ d ∈ (Sp.checkF its i (-1)).ds, ((d.fr : Int), (d.to : Int)) ∉ Sp.letPs (Sp.itNo its i).body) :
    CalM Tryd.prog 8 #[.agg [.slice a its.length cp].toArray, nt i] I [] (fun v _ H' => v = .bool true ∧ H' = []) := by
  refine CalM.of fun w E hm => enter (N := 33) Tryd.func8 rfl [(0, .agg [.slice a its.length cp].toArray), (1, nt i)] args2 rfl ?_
  have hfew := h.few
  have hD := fun (J : Imm) (m : Le I J) => f_diags i hi J (h.le m) hlab hF
  obtain ⟨cs, hcs, hat, _⟩ := h.get (Sp.itNo_get hi)
  have hri := h.row
  have hsm := (hF _ (Sp.itNo_mem hi)).small
  have hDl : (Sp.checkF its i (-1)).ds.length ≤ 1000000000 := by
    have hc := (hF _ (Sp.itNo_mem hi)).cnt
    rw [Sp.checkF]
    split
    · have := (Sp.stmsF_n its (Sp.itNo its i).label (-1) (Sp.itNo its i).body (Sp.parsF (Sp.itNo its i).params) 0 Sp.FW0).2.1
      have e : Sp.FW0.ds.length = 0 := rfl
      omega
    · exact Nat.zero_le _
  generalize Sp.itNo its i = it at hat hsm hd
  obtain ⟨pa, pc, sa9, sc9, ba, bc9, da9, dc9, xb, rfl, _, _, hrb, hbs, _⟩ := hat
  have hsb := hsm.body
  have hG := fun (b : Nat) => g_gather (b := b) _ it.body (Nat.le_refl _) (by omega) hsm.stms I ba bc9 xb [] [] PairS.nil hrb hbs
  rw [List.nil_append] at hG
  generalize Sp.letPs it.body = L at hG hd
  generalize (Sp.checkF its i (-1)).ds = ds at hD hd hDl
  repeat' (first
  | (refine m_makeMap (d:=8) hm (k:=?_); clear hm; intro b8 _ hm)
  | (refine i_indexAddr (d:=12) (hr:=hri) (k:=?_); intro bt ot hpt; rw [show ((i : Int).toNat * 10) = i * 10 from rfl, hcs] at hpt)
  | (refine m_call (d:=16) hm (hp:=pm1_0) (hc:=hG b8) (k:=?_); clear hm; rintro _ I2 _ _ ⟨rfl, es, hq, rfl⟩ hleI2 hm; try simp only [setn] at hm)
  | (refine m_call (d:=19) hm (hp:=pm0) (hc:=hD I2 hleI2) (k:=?_); clear hm; rintro _ I3 _ _ ⟨rfl, da, dp, rfl, hrd⟩ hleI3 hm; try simp only [setn] at hm)
  | (refine m_box (d:=2) hm (k:=?_); clear hm; intro b2 _ hm)
  | refine m_load1 hm (k:=?_)
  | refine i_load1 hm (k:=?_)
  | refine m_loadAll hm (k:=?_)
  | refine op_move (k:=?_)
  | refine op_assign (k:=?_)
  | refine op_len_slice (k:=?_)
  | refine op_fieldAddr (k:=?_)
  | refine wl_nil ?_
  | refine at_then_normal ?_
  | refine wc_seq ?_
  | refine wc_region ?_
  | refine wc_block ?_)
  all_goals try (exfalso; first | omega | contradiction)
  refine wc_loop (fun k : Nat => [(5, .map (some b8)), (19, .slice da ds.length dp), (20, nt ds.length), (21, nt k)])
    (fun k w' => Mem E I3 [.mpp b8 es] w' ∧ k ≤ ds.length) (fun k => ds.length - k) 0 (by exact ⟨rfl, rfl, rfl, rfl, trivial⟩) ⟨hm.hd, Nat.zero_le _⟩ ?_
  clear hm
  rintro k w1 ⟨hm, hk⟩
  try dsimp only at hm hk ⊢
  by_cases hlt : k < ds.length
  · have hg : ds[k]? = some ds[k] := List.getElem?_eq_getElem hlt
    have hno := hd _ (List.getElem_mem hlt)
    generalize ds[k] = d at hg hno
    obtain ⟨b, hb1, hb2⟩ := hq.look ((d.fr : Int), (d.to : Int))
    cases b with
    | true => exact absurd (hb2 rfl) hno
    | false =>
      repeat' (first
      | (refine i_indexFlat (d:=23) (enc:=encDg) (z:=d) (hr:=hrd) (he:=fun _ => rfl) (hz:=by exact hg) (k:=?_); intro bz oz hpz)
      | (refine op_build (d:=30) (hr:=build_pair _ _) (k:=?_))
      | (refine m_lookupP (d := 31) (s := ((d.fr : Int), (d.to : Int))) hm (by rfl) (by rfl) (by rfl) (by rfl) gt1 hq.nodup zero_bool ?_; rw [hb1])
      | (refine m_varS (d:=7) hm (k:=?_); clear hm; intro b7 _ hm)
      | refine m_load1 hm (k:=?_)
      | refine i_loadN hm (k:=?_)
      | refine op_move (k:=?_)
      | refine op_lss (k:=?_)
      | refine op_add (k:=?_)
      | refine op_fieldAddr (k:=?_)
      | refine wl_nil ?_
      | refine at_then_normal ?_
      | refine at_block_normal ?_
      | refine wc_seq ?_
      | refine wc_region ?_
      | refine wc_block ?_
      | refine wc_skip ?_
      | refine wc_cond_false (hf:=?_)
      | (refine wc_cond_dec (ht:=fun _ => ?_) (hf:=fun _ => ?_)<;> (try first | contradiction | (exfalso; omega))))
      all_goals try (exfalso; first | omega | contradiction)
      exact at_round (k + 1 : Nat) (by exact ⟨rfl, rfl, rfl, rfl, trivial⟩) ⟨hm.tl, by omega⟩ (by omega)
  · obtain rfl : k = ds.length := by omega
    repeat' (first
    | refine op_assign (k:=?_)
    | refine op_lss (k:=?_)
    | refine wl_nil ?_
    | refine at_then_normal ?_
    | refine at_then_exit ?_
    | refine at_block_exit ?_
    | refine wc_seq ?_
    | refine wc_region ?_
    | refine wc_exit ?_
    | refine wc_ret ?_
    | refine at_ret1 (h:=?_)
    | (refine wc_cond_dec (ht:=fun _ => ?_) (hf:=fun _ => ?_)<;> (try first | contradiction | (exfalso; omega))))
    all_goals try (exfalso; first | omega | contradiction)
    exact ⟨I3, [], ⟨rfl, rfl⟩, hm.left (H := [])⟩
set_option maxHeartbeats 16000000 in
theorem i_alive (I : Imm) (hC : Conv I) : CalM Tryd.prog 4 #[] I [] (fun v _ H' => v = .bool true ∧ H' = []) := by
  refine CalM.of fun w E hm => enter (N := 58) Tryd.func4 rfl [] args0 rfl ?_
  have h1 := fun (J : Imm) (m : Le I J) => p_file Sp.inferT J (hC.le m) (by decide)
  rw [Sp.inferT_err] at h1
  obtain ⟨g1, g2, _⟩ := Sp.file_itI Sp.inferT
  have l1 := Sp.inferT_len
  have hbad := Sp.inferT_bad
  have hlabs := @Sp.inferT_labs
  generalize Sp.fileItems Sp.inferT = its at h1 g1 g2 l1 hbad hlabs
  have hA := fun (J : Imm) (a cp xs) (h : FE J its a cp xs) => i_labels g2 g1 J a cp xs h
  have hS := fun (J : Imm) (a cp xs) (h : FE J its a cp xs) => f_sound J h g2 (fun x hx => (g1 x hx).toItF)
  repeat' (first
  | (refine m_call (d:=5) hm (hp:=pm0) (hc:=h1 I (Le.refl _)) (k:=?_); clear hm; rintro _ I2 _ _ ⟨a, cp, xs, rfl, hrow, hits, rfl⟩ hleI2 hm; try simp only [setn] at hm; have q1 := fe_of hrow hits (by omega))
  | (refine m_call (d:=9) hm (hp:=pm0) (hc:=hA I2 _ _ _ q1) (k:=?_); clear hm; rintro _ I3 _ _ ⟨rfl, ra, rp, rx, r, hr, rfl, hrr, hrx⟩ hleI3 hm; try simp only [setn] at hm)
  | refine wc_hold 3 ?_
  | (refine m_varS (d:=1) hm (k:=?_); clear hm; intro b1 _ hm)
  | (refine m_varS (d:=3) hm (k:=?_); clear hm; intro b3 _ hm)
  | refine m_loadAll hm (k:=?_)
  | refine op_move (k:=?_)
  | refine op_assign (k:=?_)
  | refine op_extract (k:=?_)
  | refine wl_nil ?_
  | refine at_then_normal ?_
  | refine wc_seq ?_
  | refine wc_region ?_)
  all_goals try (exfalso; first | omega | contradiction)
  obtain ⟨r1, r2, it, x, r3, r4, r5, r6, r7⟩ := hlabs hr
  obtain ⟨k1, k2⟩ := Sp.labs_itI hr g1 g2
  have q3 := fe_of hrr hrx (by omega)
  have hS2 := fun (J : Imm) (m : Le I3 J) => f_sound J (q3.le m) k2 (fun x hx => (k1 x hx).toItF)
  obtain ⟨ci, hci, hat, _⟩ := q3.get r3
  rw [Nat.zero_mul] at hci
  obtain ⟨pa, pc, sa9, sc9, ba, bc9, da9, dc9, xb, rfl, _, _, hrb, hbs, _⟩ := hat
  obtain ⟨cs, hcs⟩ : ∃ cs, (xb.drop (0 * 15)).take 15 = cs := ⟨_, rfl⟩
  have hax := hbs.get r5
  rw [hcs] at hax
  rw [Nat.zero_mul] at hcs
  obtain ⟨ea, ec, ex, a1', c1, xs1, a2', c2, xs2, rfl, _⟩ := hax.out
  rw [r6, r7] at hcs
  rw [r4] at hrb hci
  rw [r1] at hrr hm hS2
  refine ⟨?_⟩
  repeat' (first
  | (refine i_indexAddr (t:=23) (hr:=hrr) (k:=?_); intro bt ot hpt; rw [show (((0 : Int).toNat * 10)) = 0 from rfl, hci] at hpt)
  | (refine i_indexAddr (t:=31) (hr:=hrb) (k:=?_); intro bu ou hpu; rw [show (((0 : Int).toNat * 15)) = 0 from rfl, hcs] at hpu)
  | (refine m_call (d:=51) hm (hp:=pm0) (hc:=hS I3 _ _ _ (q1.le hleI3)) (k:=?_); clear hm; rintro _ I4 _ _ ⟨rfl, sb1, rfl, hsb1⟩ hleI4 hm; try simp only [setn] at hm; have : sb1 = false := (by cases sb1; rfl; exact absurd (hsb1.1 rfl) hbad); subst this)
  | (refine m_call (d:=56) hm (hp:=pm0) (hc:=hS2 I4 hleI4) (k:=?_); clear hm; rintro _ I5 _ _ ⟨rfl, sb2, rfl, hsb2⟩ hleI5 hm; try simp only [setn] at hm; have := hsb2.2 r2; subst this)
  | refine m_load1 hm (k:=?_)
  | refine i_load1 hm (k:=?_)
  | refine m_loadAll hm (k:=?_)
  | refine op_move (k:=?_)
  | refine op_assign (k:=?_)
  | refine op_pick_true (k:=?_)
  | refine op_eql (k:=?_)
  | refine op_len_slice (k:=?_)
  | refine op_not (k:=?_)
  | refine op_fieldAddr (k:=?_)
  | refine wl_nil ?_
  | refine at_then_normal ?_
  | refine wc_region ?_
  | refine wc_ret ?_
  | refine at_ret1 (h:=?_))
  all_goals try (exfalso; first | omega | contradiction)
  all_goals exact ⟨I5, [], ⟨rfl, rfl⟩, hm.left (H := [])⟩
set_option maxHeartbeats 16000000 in
theorem sp_ifits (s : List UInt8) (hs : s.length ≤ 9223372036854775807) (I : Imm) (hC : Conv I) :
    CalM Tryd.prog 3 #[str s] I [] (fun v _ H' => v = .bool true ∧ H' = []) := by
  refine CalM.of fun w E hm => enter (N := 42) Tryd.func3 rfl [(0, str s)] args1 rfl ?_
  have hAl := i_alive I hC
  have hF := fun (J : Imm) (m : Le I J) => p_file s J (hC.le m) hs
  obtain ⟨g1, g2, few1⟩ := Sp.file_itI s
  have hfit := @Sp.fits_lets s
  generalize Sp.fileErr s = er at hF
  generalize Sp.fileItems s = its at hF g1 g2 few1 hfit
  by_cases h0 : er ≠ 0
  · skip
    repeat' (first
    | (refine m_call (d:=9) hm (hp:=pm0) (hc:=hAl) (k:=?_); clear hm; rintro _ I1 _ _ ⟨rfl, rfl⟩ hleI1 hm; try simp only [setn] at hm)
    | (refine m_call (d:=13) hm (hp:=pm0) (hc:=hF I1 hleI1) (k:=?_); clear hm; rintro _ I2 _ _ ⟨a, cp, xs, rfl, hrow, hits, rfl⟩ hleI2 hm; try simp only [setn] at hm)
    | (refine m_varS (d:=3) hm (k:=?_); clear hm; intro b3 _ hm)
    | refine op_move (k:=?_)
    | refine op_assign (k:=?_)
    | refine op_neq (k:=?_)
    | refine op_not (k:=?_)
    | refine op_extract (k:=?_)
    | refine wl_nil ?_
    | refine at_then_normal ?_
    | refine at_then_ret ?_
    | refine wc_seq ?_
    | refine wc_region ?_
    | refine wc_skip ?_
    | refine wc_ret ?_
    | refine at_ret1 (h:=?_)
    | refine wc_cond_false (hf:=?_)
    | (refine wc_cond_dec (ht:=fun _ => ?_) (hf:=fun _ => ?_)<;> (try first | contradiction | (exfalso; omega))))
    all_goals try (exfalso; first | omega | contradiction)
    all_goals exact ⟨I2, [], ⟨rfl, rfl⟩, hm.left (H := [])⟩
  obtain rfl : er = 0 := by omega
  repeat' (first
  | (refine m_call (d:=9) hm (hp:=pm0) (hc:=hAl) (k:=?_); clear hm; rintro _ I1 _ _ ⟨rfl, rfl⟩ hleI1 hm; try simp only [setn] at hm)
  | (refine m_call (d:=13) hm (hp:=pm0) (hc:=hF I1 hleI1) (k:=?_); clear hm; rintro _ I2 _ _ ⟨a, cp, xs, rfl, hrow, hits, rfl⟩ hleI2 hm; try simp only [setn] at hm)
  | refine wc_hold 6 ?_
  | (refine m_varS (d:=3) hm (k:=?_); clear hm; intro b3 _ hm)
  | refine op_move (k:=?_)
  | refine op_assign (k:=?_)
  | refine op_neq (k:=?_)
  | refine op_not (k:=?_)
  | refine op_extract (k:=?_)
  | refine wl_nil ?_
  | refine at_then_normal ?_
  | refine wc_seq ?_
  | refine wc_region ?_
  | refine wc_skip ?_
  | refine wc_cond_false (hf:=?_))
  all_goals try (exfalso; first | omega | contradiction)
  have q1 : FE I2 its a cp xs := fe_of hrow hits (by omega)
  obtain ⟨I3, hle3, hm3, hpf⟩ := hm.freezeO
  clear hm
  have hm := hm3
  clear hm3
  have q3 := q1.le hle3
  refine ⟨?_⟩
  repeat' (first
  | refine i_load1 hm (k:=?_)
  | refine op_move (k:=?_)
  | refine op_len_slice (k:=?_)
  | refine op_fieldAddr (k:=?_)
  | refine wl_nil ?_
  | refine at_then_normal ?_
  | refine wc_region ?_
  | refine wc_block ?_)
  all_goals try (exfalso; first | omega | contradiction)
  refine wc_loop (fun x : FtX => [(3, ptr b3), (19, .slice a its.length cp), (20, nt its.length), (21, nt x.k)])
    (fun x w' => Mem E x.I [] w' ∧ Le I3 x.I ∧ x.k ≤ its.length ∧ ∀ it ∈ its.take x.k, Sp.shutL it.body = false) (fun x => its.length - x.k) ⟨0, I3⟩ (by exact ⟨rfl, rfl, rfl, rfl, trivial⟩) ⟨hm, Le.refl _, Nat.zero_le _, fun _ h => (by cases h)⟩ ?_
  clear hm
  rintro ⟨k, I4⟩ w4 ⟨hm, hle4, hk, hno⟩
  dsimp only at hm hle4 hk hno ⊢
  have q4 := q3.le hle4
  have hri := q4.row
  by_cases hlt : k < its.length
  · have hg : its[k]? = some its[k] := List.getElem?_eq_getElem hlt
    have hit := g1 _ (List.getElem_mem hlt)
    obtain ⟨cs, hcs, hat, _⟩ := q4.get hg
    have htk := Sp.take_succ_get hg
    generalize its[k] = it at hg hit hat htk
    obtain ⟨pa, pc, sa9, sc9, ba, bc9, da9, dc9, xb, rfl, _, _, hrb, hbs, _⟩ := hat
    have hsb := hit.small.body
    have hG := g_closed _ it.body (Nat.le_refl _) (by omega) hit.small.stms I4 ba bc9 xb hrb hbs
    cases hq : Sp.shutL it.body with
    | true =>
      rw [hq] at hG
      repeat' (first
      | (refine i_indexAddr (d:=23) (hr:=hri) (k:=?_); intro bt ot hpt; rw [show ((k : Int).toNat * 10) = k * 10 from rfl, hcs] at hpt)
      | (refine m_call (d:=27) hm (hp:=pm0) (hc:=hG) (k:=?_); clear hm; rintro _ I5 _ _ ⟨rfl, rfl⟩ hleI5 hm; try simp only [setn] at hm)
      | (refine m_varS (d:=6) hm (k:=?_); clear hm; intro b6 _ hm)
      | refine m_load1 hm (k:=?_)
      | refine i_loadN hm (k:=?_)
      | refine op_assign (k:=?_)
      | refine op_lss (k:=?_)
      | refine op_fieldAddr (k:=?_)
      | refine wl_nil ?_
      | refine at_then_normal ?_
      | refine at_then_ret ?_
      | refine at_block_ret ?_
      | refine wc_seq ?_
      | refine wc_region ?_
      | refine wc_block ?_
      | refine wc_skip ?_
      | refine wc_ret ?_
      | refine at_ret1 (h:=?_)
      | refine wc_cond_true (ht:=?_)
      | (refine wc_cond_dec (ht:=fun _ => ?_) (hf:=fun _ => ?_)<;> (try first | contradiction | (exfalso; omega))))
      all_goals try (exfalso; first | omega | contradiction)
      exact ⟨I5, [], ⟨rfl, rfl⟩, hm.left (H := [])⟩
    | false =>
      rw [hq] at hG
      repeat' (first
      | (refine i_indexAddr (d:=23) (hr:=hri) (k:=?_); intro bt ot hpt; rw [show ((k : Int).toNat * 10) = k * 10 from rfl, hcs] at hpt)
      | (refine m_call (d:=27) hm (hp:=pm0) (hc:=hG) (k:=?_); clear hm; rintro _ I5 _ _ ⟨rfl, rfl⟩ hleI5 hm; try simp only [setn] at hm)
      | (refine m_varS (d:=6) hm (k:=?_); clear hm; intro b6 _ hm)
      | refine m_load1 hm (k:=?_)
      | refine i_loadN hm (k:=?_)
      | refine op_move (k:=?_)
      | refine op_lss (k:=?_)
      | refine op_add (k:=?_)
      | refine op_fieldAddr (k:=?_)
      | refine wl_nil ?_
      | refine at_then_normal ?_
      | refine at_block_normal ?_
      | refine wc_seq ?_
      | refine wc_region ?_
      | refine wc_block ?_
      | refine wc_skip ?_
      | refine wc_cond_false (hf:=?_)
      | (refine wc_cond_dec (ht:=fun _ => ?_) (hf:=fun _ => ?_)<;> (try first | contradiction | (exfalso; omega))))
      all_goals try (exfalso; first | omega | contradiction)
      refine at_round (⟨k + 1, I5⟩ : FtX) (by exact ⟨rfl, rfl, rfl, rfl, trivial⟩) ⟨hm.left (H := []), hle4.trans hleI5, by dsimp only; omega, fun x hx => ?_⟩ (by dsimp only; omega)
      dsimp only at hx
      rw [htk] at hx
      rcases List.mem_append.1 hx with hx | hx
      · exact hno x hx
      · obtain rfl := List.mem_singleton.1 hx
        exact hq
  obtain rfl : k = its.length := by omega
  rw [List.take_length] at hno
  have hA := i_labels g2 g1 I4 a cp xs q4
  have hpf4 := hpf.le hle4
  repeat' (first
  | (refine i_loadN (d:=29) hm (hp:=hpf4) (k:=?_))
  | (refine m_call (d:=30) hm (hp:=pm0) (hc:=hA) (k:=?_); clear hm; rintro _ I5 _ _ ⟨rfl, ra, rp, rx, r, hr, rfl, hrr, hrx⟩ hleI5 hm; try simp only [setn] at hm)
  | refine wc_hold 13 ?_
  | (refine m_varS (d:=7) hm (k:=?_); clear hm; intro b7 _ hm)
  | refine op_lss (k:=?_)
  | refine wl_nil ?_
  | refine at_then_normal ?_
  | refine at_then_exit ?_
  | refine at_block_exit ?_
  | refine wc_seq ?_
  | refine wc_region ?_
  | refine wc_exit ?_
  | (refine wc_cond_dec (ht:=fun _ => ?_) (hf:=fun _ => ?_)<;> (try first | contradiction | (exfalso; omega))))
  all_goals try (exfalso; first | omega | contradiction)
  have hlen := hr.len
  obtain ⟨k1, k2⟩ := Sp.labs_itI hr g1 g2
  have q5 := fe_of hrr hrx (by omega)
  have hfin := fun (i : Nat) (hi : i < r.length) => hfit hr hno hi
  obtain ⟨I6, hle6, hm6, hpg⟩ := hm.freezeO
  clear hm
  have hm := hm6
  clear hm6
  have q6 := q5.le hle6
  refine ⟨?_⟩
  repeat' (first
  | refine i_load1 hm (k:=?_)
  | refine op_move (k:=?_)
  | refine op_len_slice (k:=?_)
  | refine op_fieldAddr (k:=?_)
  | refine wl_nil ?_
  | refine at_then_normal ?_
  | refine wc_region ?_
  | refine wc_block ?_)
  all_goals try (exfalso; first | omega | contradiction)
  refine wc_loop (fun x : FtX => [(7, ptr b7), (33, nt r.length), (34, nt x.k)])
    (fun x w' => Mem E x.I [] w' ∧ Le I6 x.I ∧ x.k ≤ r.length) (fun x => r.length - x.k) ⟨0, I6⟩ (by exact ⟨rfl, rfl, rfl, trivial⟩) ⟨hm, Le.refl _, Nat.zero_le _⟩ ?_
  clear hm
  rintro ⟨k, I7⟩ w7 ⟨hm, hle7, hk⟩
  dsimp only at hm hle7 hk ⊢
  have hpg7 := hpg.le hle7
  by_cases hlt : k < r.length
  · have hL := g_lets hlt I7 ra rp rx (q6.le hle7) k2 (fun x hx => (k1 x hx).toItF) (hfin k hlt)
    repeat' (first
    | (refine i_loadN (d:=37) hm (hp:=hpg7) (k:=?_))
    | (refine m_call (d:=39) hm (hp:=pm0) (hc:=hL) (k:=?_); clear hm; rintro _ I8 _ _ ⟨rfl, rfl⟩ hleI8 hm; try simp only [setn] at hm)
    | refine op_move (k:=?_)
    | refine op_assign (k:=?_)
    | refine op_lss (k:=?_)
    | refine op_not (k:=?_)
    | refine op_add (k:=?_)
    | refine wl_nil ?_
    | refine at_then_normal ?_
    | refine at_block_normal ?_
    | refine wc_seq ?_
    | refine wc_region ?_
    | refine wc_block ?_
    | refine wc_skip ?_
    | refine wc_cond_false (hf:=?_)
    | (refine wc_cond_dec (ht:=fun _ => ?_) (hf:=fun _ => ?_)<;> (try first | contradiction | (exfalso; omega))))
    all_goals try (exfalso; first | omega | contradiction)
    exact at_round (⟨k + 1, I8⟩ : FtX) (by exact ⟨rfl, rfl, rfl, trivial⟩) ⟨hm, hle7.trans hleI8, by dsimp only; omega⟩ (by dsimp only; omega)
  · obtain rfl : k = r.length := by omega
    repeat' (first
    | refine op_assign (k:=?_)
    | refine op_lss (k:=?_)
    | refine wl_nil ?_
    | refine at_then_normal ?_
    | refine at_then_exit ?_
    | refine at_block_exit ?_
    | refine wc_seq ?_
    | refine wc_region ?_
    | refine wc_exit ?_
    | refine wc_ret ?_
    | refine at_ret1 (h:=?_)
    | (refine wc_cond_dec (ht:=fun _ => ?_) (hf:=fun _ => ?_)<;> (try first | contradiction | (exfalso; omega))))
    all_goals try (exfalso; first | omega | contradiction)
    exact ⟨I7, [], ⟨rfl, rfl⟩, hm⟩
end Go.Proofs.YthmdffgiockcbaaDoor
end
