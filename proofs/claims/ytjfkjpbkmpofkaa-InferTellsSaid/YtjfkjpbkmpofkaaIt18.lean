/- Own work: texts InfE, Label2, Label3, Label4, one behind the other. -/
import Derived.Test.YtjfkjpbkmpofkaaIt17
section
namespace Go.Sp
theorem AllTwo.snoc {α β : Type} {R : α → β → Prop} : ∀ {l : List α} {r : List β} {a : α} {b : β}, AllTwo R l r → R a b → AllTwo R (l ++ [a]) (r ++ [b])
  | _, _, _, _, .nil, h => .cons h .nil
  | _, _, _, _, .cons h1 t1, h => .cons h1 (t1.snoc h)
theorem AllTwo.len {α β : Type} {R : α → β → Prop} : ∀ {l : List α} {r : List β}, AllTwo R l r → r.length = l.length
  | _, _, .nil => rfl
  | _, _, .cons _ t => by rw [List.length_cons, List.length_cons, t.len]
/-- what is asked of items whose labels are found. -/
structure ItI (x : Itm) : Prop where
  small : x.small
  body : stmsAll anyP labS x.body
  cnt : stmsCnt x.body ≤ 400000000
  lets : (letsS x.body).Nodup
  none : 0 ∉ letsS x.body
theorem iter_lt {its : List Itm} {it : Itm} (hlab : itLab its) (hb : stmsAll anyP labS it.body) (hp : ∀ p ∈ it.params, p.label < 256) : ∀ (k f : Nat), iterI its it k f < 256
  | 0, _ => by show 0 < 256; omega
  | k + 1, f => (roundI_ok hlab hb hp (iter_lt hlab hb hp k)).1 f
end Go.Sp
namespace Go.Proofs.Ytjfkjpbkmpofkaa
open Go.Fw
theorem _root_.Go.Fw.pmL7 {f r m a b c d : HItem} {T : List HItem} : (f :: r :: m :: a :: b :: c :: d :: T).Perm ((T ++ [f, r, m]) ++ [a, b, c, d]) := by
  rw [List.append_assoc]; exact List.perm_append_comm (l₁ := [f, r, m, a, b, c, d])
theorem _root_.Go.Fw.pmL4 {a b c d : HItem} {T : List HItem} : (a :: b :: c :: d :: T).Perm (T ++ [a, b, c, d]) := List.perm_append_comm (l₁ := [a, b, c, d])
theorem _root_.Go.Fw.pmIcT {r c f m : HItem} {T : List HItem} : (r :: c :: f :: m :: T).Perm (c :: f :: r :: m :: T) := (List.perm_append_comm (l₁ := [r]) (l₂ := [c, f])).append_right (m :: T)
theorem _root_.Go.Fw.pmSw {a b : HItem} {T : List HItem} : (a :: b :: T).Perm (b :: a :: T) := .swap _ _ _
def parsLoc (l : List Sp.Par) : List Loc := l.map (fun p => (⟨p.name, p.label, none⟩, .pointer none))
theorem parsLoc_fst (l : List Sp.Par) : (parsLoc l).map (·.1) = Sp.parsI l := by rw [parsLoc, Sp.parsI, List.map_map]; rfl
theorem parsLoc_step {l : List Sp.Par} {j : Nat} {p : Sp.Par} (h : l[j]? = some p) : parsLoc (l.take (j + 1)) = parsLoc (l.take j) ++ [(⟨p.name, p.label, none⟩, .pointer none)] := by
  rw [Sp.take_succ_get h, parsLoc, List.map_append]; rfl
/-- the finder, ahead of what else is owned. -/
abbrev InT (bd bf : Nat) (sc : List Loc) (o : Sp.Lab) (more : Bool) (sa : Option Addr) (sp bo : Nat) (zs : EntsZ) (T : List HItem) : List HItem :=
  .cell bd [ptr bf, .slice sa sc.length sp, .map (some bo), .bool more] 56 :: .row (.slice sa sc.length sp) 61 3 sc.length (sc.flatMap (encLi o)) :: .mz bo zs :: T
structure LbX where
  k : Nat
  I : Imm
  a : Option Addr
  cp : Nat
  xs : List Value
  r : List Sp.Itm
structure LbR where
  I : Imm
  sc : List Loc
  o : Sp.Lab
  more : Bool
  sa : Option Addr
  sp : Nat
  zs : EntsZ
structure LbP where
  j : Nat
  sa : Option Addr
  sp : Nat
/-- a file's items with their labels. -/
abbrev ToLabs (its : List Sp.Itm) : Value → Imm → List HItem → Prop := fun v J H' => H' = [] ∧ ∃ ra rp xs r, Sp.LabsOf its r ∧ v = .agg [.slice ra r.length rp].toArray ∧ RowI J 38 10 (.slice ra r.length rp) r.length xs ∧ ItsAt J r xs
set_option maxHeartbeats 64000000 in
theorem i_labels {its : List Sp.Itm} (hlab : Sp.itLab its) (hI : ∀ x ∈ its, Sp.ItI x) (I : Imm) (a : Option Addr) (cp : Nat) (xs : List Value) (hfe : FE I its a cp xs) :
    CalM Try.prog 7 #[.agg [.slice a its.length cp].toArray] I [] (ToLabs its) := by
  have hfew := hfe.few
  refine CalM.of fun w E hm => enter (N := 72) Try.func7 rfl [(0, .agg [.slice a its.length cp].toArray)] args1 rfl ?_
  repeat' (first
  | refine wc_hold 2 ?_
  | (refine m_box (d:=1) hm (k:=?_); clear hm; intro b1 _ hm)
  | (refine m_allocS (d:=2) hm (k:=?_); clear hm; intro b2 _ hm)
  | (refine m_allocS (d:=3) hm (k:=?_); clear hm; intro b3 _ hm)
  | refine wl_nil ?_
  | refine at_then_normal ?_
  | refine wc_seq ?_
  | refine wc_region ?_)
  all_goals try (exfalso; omega)
  obtain ⟨I1, hle1, hm1, hpf⟩ := (hm.perm (List.perm_append_comm (l₁ := [_, _]) (l₂ := [_]))).freezeO
  clear hm
  have hm := hm1
  clear hm1
  have hfe1 := hfe.le hle1
  refine ⟨?_⟩
  repeat' (first
  | refine i_load1 hm (k:=?_)
  | refine op_move (k:=?_)
  | refine op_len_slice (k:=?_)
  | refine op_fieldAddr (k:=?_)
  | refine wl_nil ?_
  | refine at_then_normal ?_
  | refine wc_region ?_
  | refine wc_block ?_)
  all_goals try (exfalso; omega)
  have hm := (hm.nil 38 10).swap
  refine wc_loop (fun x : LbX => [(1, ptr b1), (2, ptr b2), (3, ptr b3), (10, .slice a its.length cp), (11, nt its.length), (12, nt x.k)])
    (fun x w' => Mem E x.I [.cell b3 [.slice x.a x.r.length x.cp] 24, itRow x.r.length x.a x.cp x.xs, .cell b2 [.slice none 0 0] 24] w' ∧ Le I1 x.I ∧ x.k ≤ its.length ∧ Sp.AllTwo (Sp.Labd its) (its.take x.k) x.r ∧ ItsAt x.I x.r x.xs) (fun x => its.length - x.k) ⟨0, I1, none, 0, [], []⟩
    (by exact ⟨rfl, rfl, rfl, rfl, rfl, rfl, trivial⟩) ⟨hm, Le.refl _, Nat.zero_le _, .nil, rfl⟩ ?_
  clear hm
  rintro ⟨k, I2, ra, rp, rx, r⟩ w2 ⟨hm, hle2, hk, hall, hits⟩
  dsimp only at hm hle2 hk hall hits ⊢
  have hfe2 := hfe1.le hle2
  have hpf2 := hpf.le hle2
  have hri := hfe2.row
  have hrl := hall.len
  rw [List.length_take, Nat.min_eq_left hk] at hrl
  by_cases hlt : k < its.length
  · have hg : its[k]? = some its[k] := List.getElem?_eq_getElem hlt
    have htk := Sp.take_succ_get hg
    obtain ⟨cs, hcs, hat, hl10⟩ := hfe2.get hg
    have hIt := hI _ (List.getElem_mem hlt)
    have hpl := (hlab _ (List.getElem_mem hlt)).2
    generalize its[k] = it at hg hat hIt hpl htk
    have hOw := o_own it hIt.small I2 cs hat
    have hpn := hIt.small.params
    have hbn := hIt.small.body
    obtain ⟨ap0, cp0, as0, cs0, ab0, cb0, ad0, cd0, xb0, rfl, _⟩ := hat
    repeat' (first
    | (refine i_indexAddr (d:=14) (hr:=hri) (k:=?_); intro bt ot hpt; rw [show ((k : Int).toNat * 10) = k * 10 from rfl, hcs] at hpt)
    | (refine m_call (d:=17) hm (hp:=pm0) (hc:=hOw) (k:=?_); clear hm; rintro _ I3 _ _ ⟨ap, cp', as_, cs', ab, cb, ad, cd, Hb, rfl, rfl, hO, hrs, hrd⟩ hleI3 hm; replace hm := hm.perm List.perm_append_comm)
    | refine wc_hold 6 ?_
    | (refine m_varS (d:=5) hm (k:=?_); clear hm; intro b5 _ hm)
    | refine m_loadAll hm (k:=?_)
    | refine i_loadN hm (k:=?_)
    | (refine m_storeAll hm (k:=?_); clear hm; intro _ hm; try simp only [setn] at hm)
    | refine op_lss (k:=?_)
    | refine wl_nil ?_
    | refine at_then_normal ?_
    | refine wc_seq ?_
    | refine wc_region ?_
    | refine wc_block ?_
    | refine wc_skip ?_
    | (refine wc_cond_dec (ht:=fun _ => ?_) (hf:=fun _ => ?_)<;> (try first | contradiction | (exfalso; omega))))
    all_goals try (exfalso; omega)
    obtain ⟨I4, hle4, hm4, hrp⟩ := (hm.perm (pmL4.trans (.refl _))).freeze
    clear hm
    have hm := hm4.perm pmL4.symm
    clear hm4
    have hle24 : Le I2 I4 := hleI3.trans hle4
    have hO4 := hO.le hle4
    have hrs4 := hrs.le hle4
    have hrd4 := hrd.le hle4
    have hpf4 := hpf2.le hle24
    have hfe4 := hfe2.le hle24
    have hits4 := hits.le hle24
    -- what is left to do with an item
    refine ⟨?_⟩
    by_cases k2 : it.kind = 2
    · skip
      repeat' (first
      | (refine m_makeMap (d:=21) hm (k:=?_); clear hm; intro b21 _ hm)
      | (refine m_box (d:=23) hm (k:=?_); clear hm; intro b23 _ hm)
      | refine m_load1 hm (k:=?_)
      | refine op_assign (k:=?_)
      | refine op_eql (k:=?_)
      | refine op_fieldAddr (k:=?_)
      | refine op_struct (k:=?_)
      | refine wl_nil ?_
      | refine at_then_normal ?_
      | refine wc_seq ?_
      | refine wc_region ?_
      | refine wc_block ?_
      | (refine wc_cond_dec (ht:=fun _ => ?_) (hf:=fun _ => ?_)<;> (try first | contradiction | (exfalso; omega))))
      all_goals try (exfalso; first | omega | contradiction)
      have hm := (hm.nil 61 3).perm pmSw
      refine wc_loop (fun _ : LbR => [(1, ptr b1), (2, ptr b2), (3, ptr b3), (5, ptr b5), (6, ptr b23), (10, .slice a its.length cp), (11, nt its.length), (12, nt k)])
        (fun x w' => Mem E x.I (InT b23 b1 x.sc x.o x.more x.sa x.sp b21 x.zs (.cell b5 (itCells it.kind it.name it.label (.slice ap it.params.length cp') (.slice as_ it.sends.length cs') (.slice ab it.body.length cb) it.at_ it.size it.mark (.slice ad it.diags.length cd)) 38 :: .cell b3 [.slice ra r.length rp] 24 :: itRow r.length ra rp rx :: .cell b2 [.slice none 0 0] 24 :: Hb)) w' ∧
          Le I4 x.I ∧ OpenZ x.zs x.o ∧ (∃ kk, x.o = Sp.iterI its it kk) ∧ (x.more = false → Sp.roundI its it x.o = (x.o, false)))
        (fun x => 2 * Sp.potL (Sp.letsS it.body) x.o + (if x.more = true then 1 else 0)) ⟨I4, [], fun _ => 0, true, none, 0, []⟩
        (by exact ⟨rfl, rfl, rfl, rfl, rfl, rfl, rfl, rfl, trivial⟩) ⟨hm, Le.refl _, OpenZ.nil, ⟨0, rfl⟩, fun h => (by cases h)⟩ ?_
      clear hm
      rintro ⟨I5, sc, o, more, sa, sp, zs⟩ w5 ⟨hm, hle5, hz, ⟨kk, hkk⟩, hfix⟩
      dsimp only at hm hle5 hz hkk hfix ⊢
      have hok : ∀ f, o f < 256 := fun f => by rw [hkk]; exact Sp.iter_lt hlab hIt.body hpl kk f
      obtain ⟨hr1, hr2, hr3⟩ := Sp.roundI_ok (o := o) hlab hIt.body hpl hok
      cases more with
      | false =>
        repeat' (first
        | refine wc_hold 17 ?_
        | refine m_load1 hm (k:=?_)
        | refine op_move (k:=?_)
        | refine op_nilCheck (k:=?_)
        | refine op_fieldAddr (k:=?_)
        | refine wl_nil ?_
        | refine at_then_normal ?_
        | refine at_then_exit ?_
        | refine at_block_exit ?_
        | refine wc_seq ?_
        | refine wc_region ?_
        | refine wc_exit ?_
        | refine wc_cond_false (hf:=?_))
        all_goals try (exfalso; first | omega | contradiction)
        obtain ⟨I6, hle6, hm6, hpd⟩ := hm.freezeO
        obtain ⟨I7, hle7, hm7, hmz⟩ := Mem.freezeMZ hm6.tl
        clear hm hm6
        have hm := hm7
        clear hm7
        have hF := i_fill (bd := b23) (bo := b21) hz _ it.body (Nat.le_refl _) (by omega) hIt.small.stms I7 ab cb Hb (hpd.le hle7) hmz (((hO4.le hle5).le hle6).le hle7)
        refine ⟨?_⟩
        repeat' (first
        | (refine m_call (d:=63) hm (hp:=pmL4) (hc:=hF) (k:=?_); clear hm; rintro _ I8 H1 _ ⟨rfl, hO8⟩ hleI8 hm; replace hm := hm.perm pmL4.symm)
        | refine wc_hold 18 ?_
        | refine m_load1 hm (k:=?_)
        | refine op_move (k:=?_)
        | refine op_fieldAddr (k:=?_)
        | refine wl_nil ?_
        | refine at_then_normal ?_
        | refine wc_region ?_)
        all_goals try (exfalso; first | omega | contradiction)
        obtain ⟨I9, xb9, hle9, hm9, hrb, hxb⟩ := hO8.freeze (hm.perm pmL4)
        clear hm
        have hm := hm9
        clear hm9
        have hle49 : Le I4 I9 := (((hle5.trans hle6).trans hle7).trans hleI8).trans hle9
        have hit : ItAt I9 (Sp.itI o it) (itCells it.kind it.name it.label (.slice ap it.params.length cp') (.slice as_ it.sends.length cs') (.slice ab it.body.length cb) it.at_ it.size it.mark (.slice ad it.diags.length cd)) :=
          ⟨ap, cp', as_, cs', ab, cb, ad, cd, xb9, by show _ = itCells it.kind it.name it.label _ _ (.slice ab (Sp.fillL o it.body).length cb) it.at_ it.size it.mark _; rw [Sp.fillL_len]; rfl, hrp.le hle49, hrs4.le hle49, hrb, hxb, hrd4.le hle49⟩
        refine ⟨?_⟩
        repeat' (first
        | (refine m_push (d:=68) hm (k:=?_); clear hm; intro a68 cp68 _ _ hm; try simp only [setn] at hm)
        | refine m_load1 hm (k:=?_)
        | refine m_loadAll hm (k:=?_)
        | (refine m_store1 hm (k:=?_); clear hm; intro _ hm; try simp only [setn] at hm)
        | refine op_move (k:=?_)
        | refine op_add (k:=?_)
        | refine op_fieldAddr (k:=?_)
        | refine wl_nil ?_
        | refine at_then_normal ?_
        | refine at_block_normal ?_
        | refine wc_region ?_)
        all_goals try (exfalso; first | omega | contradiction)
        refine at_round (⟨k + 1, I9, a68, cp68, _, r ++ [Sp.itI o it]⟩ : LbX) (by exact ⟨rfl, rfl, rfl, rfl, rfl, rfl, trivial⟩) ⟨?_, (hle2.trans hle24).trans hle49, by dsimp only; omega, by dsimp only; rw [htk]; exact hall.snoc ⟨fun _ => ⟨o, ⟨⟨kk, hkk⟩, hfix rfl⟩, rfl⟩, fun h => absurd k2 h⟩, (hits4.le hle49).snoc hit⟩ (by dsimp only; omega)
        dsimp only [itRow]
        rw [List.length_append]
        exact hm.tl
      | true =>
        repeat' (first
        | refine wc_hold 11 ?_
        | refine m_load1 hm (k:=?_)
        | (refine m_store1 hm (k:=?_); clear hm; intro _ hm; try simp only [setn] at hm)
        | refine op_move (k:=?_)
        | refine op_nilCheck (k:=?_)
        | refine op_fieldAddr (k:=?_)
        | refine wl_nil ?_
        | refine at_then_normal ?_
        | refine wc_seq ?_
        | refine wc_region ?_
        | refine wc_block ?_
        | refine wc_skip ?_
        | refine wc_cond_true (ht:=?_))
        all_goals try (exfalso; first | omega | contradiction)
        have hm := ((hm.perm pmSw).tl.nil 61 3).perm pmSw
        have hrp5 := hrp.le hle5
        have hO5 := hO4.le hle5
        refine ⟨?_⟩
        repeat' (first
        | refine m_load1 hm (k:=?_)
        | refine op_move (k:=?_)
        | refine op_len_slice (k:=?_)
        | refine op_fieldAddr (k:=?_)
        | refine wl_nil ?_
        | refine at_then_normal ?_
        | refine wc_region ?_
        | refine wc_block ?_)
        all_goals try (exfalso; first | omega | contradiction)
        refine wc_loop (fun x : LbP => [(1, ptr b1), (2, ptr b2), (3, ptr b3), (5, ptr b5), (6, ptr b23), (10, .slice a its.length cp), (11, nt its.length), (12, nt k), (35, .slice ap it.params.length cp'), (36, nt it.params.length), (37, nt x.j)])
          (fun x w' => Mem E I5 (InT b23 b1 (parsLoc (it.params.take x.j)) o false x.sa x.sp b21 zs (.cell b5 (itCells it.kind it.name it.label (.slice ap it.params.length cp') (.slice as_ it.sends.length cs') (.slice ab it.body.length cb) it.at_ it.size it.mark (.slice ad it.diags.length cd)) 38 :: .cell b3 [.slice ra r.length rp] 24 :: itRow r.length ra rp rx :: .cell b2 [.slice none 0 0] 24 :: Hb)) w' ∧ x.j ≤ it.params.length)
          (fun x => it.params.length - x.j) ⟨0, none, 0⟩ (by exact ⟨rfl, rfl, rfl, rfl, rfl, rfl, rfl, rfl, rfl, rfl, rfl, trivial⟩) ⟨hm, Nat.zero_le _⟩ ?_
        clear hm
        rintro ⟨j, sa1, sp1⟩ w6 ⟨hm, hj⟩
        dsimp only at hm hj ⊢
        have hpl1 : (parsLoc (it.params.take j)).length = j := by rw [parsLoc, List.length_map, List.length_take]; omega
        by_cases hlj : j < it.params.length
        · have hgp : it.params[j]? = some it.params[j] := List.getElem?_eq_getElem hlj
          have hstp := parsLoc_step hgp
          generalize it.params[j] = p at hgp hstp
          repeat' (first
          | (refine i_indexFlat (d:=39) (enc:=encPar) (z:=p) (hr:=hrp5) (he:=fun _ => rfl) (hz:=by exact hgp) (k:=?_); intro bz oz hpz)
          | (refine wc_semi_memL (id:=14) (hm.perm pm1_2) [0,1,2,3,4,5,6,7,8,9] [10,11] 12 (h:=?_); clear hm; intro wd hR hm)
          | refine mw_load1 hR (k:=?_)
          | (refine mt_push (d:=52) hm (k:=?_); clear hm; intro a52 cp52 _ _ hm; replace hm := hR.back hm; clear hR; try simp only [setn] at hm)
          | (refine m_varS (d:=8) hm (k:=?_); clear hm; intro b8 _ hm)
          | refine i_loadN hm (k:=?_)
          | (refine m_store1 hm (k:=?_); clear hm; intro _ hm; try simp only [setn] at hm)
          | refine op_move (k:=?_)
          | refine op_lss (k:=?_)
          | refine op_nilCheck (k:=?_)
          | refine op_add (k:=?_)
          | refine op_fieldAddr (k:=?_)
          | refine wl_nil ?_
          | refine at_then_normal ?_
          | refine at_block_normal ?_
          | refine wc_seq ?_
          | refine wc_region ?_
          | refine wc_block ?_
          | refine wc_skip ?_
          | (refine wc_cond_dec (ht:=fun _ => ?_) (hf:=fun _ => ?_)<;> (try first | contradiction | (exfalso; omega)))
          | refine v_move (k:=?_)
          | refine v_nilCheck (k:=?_)
          | refine v_fieldAddr (k:=?_)
          | refine v_struct (k:=?_)
          | refine wv_nil ?_)
          all_goals try (exfalso; first | omega | contradiction)
          refine at_round (⟨j + 1, a52, cp52⟩ : LbP) (by exact ⟨rfl, rfl, rfl, rfl, rfl, rfl, rfl, rfl, rfl, rfl, rfl, trivial⟩) ⟨?_, by dsimp only; omega⟩ (by dsimp only; omega)
          dsimp only [InT]
          rw [hstp, List.flatMap_append, List.length_append]
          exact (hm.perm pmIcT).tl
        · obtain rfl : j = it.params.length := by omega
          rw [List.take_length] at hm
          have hq : (Sp.stmsI its it.body ((parsLoc it.params).map (·.1)) 0 (o, false)).2 = Sp.roundI its it o := by rw [parsLoc_fst]; rfl
          have hB : CalM Try.prog 21 #[ptr b23, .slice ab it.body.length cb, nt 0] I5 (Hb ++ InSt b23 b1 (parsLoc it.params) o false sa1 sp1 b21 zs) _ := CalM.lend (QJ := fun J => ∃ xb, RowI J 113 15 (.slice ab it.body.length cb) it.body.length xb ∧ StsAt J it.body xb)
            (fun E w hmm => by
              obtain ⟨J, xbJ, hleJ, hmJ, hrJ, hxJ⟩ := hO5.freeze hmm
              exact ⟨J, hleJ, hmJ, xbJ, hrJ, hxJ⟩)
            (fun J m ⟨xb, h1, h2⟩ => i_block (bd := b23) (bf := b1) (bo := b21) hlab _ it.body (Nat.le_refl _) (by omega) hIt.small.stms hIt.body J ab cb xb (parsLoc it.params) 0 (o, false) sa1 sp1 zs (by omega) hok
              (by rw [parsLoc_fst]; exact Sp.parsI_ok hpl) (by have := hIt.cnt; rw [parsLoc, List.length_map]; omega) (by rw [parsLoc_fst, Sp.parsI_ops]; exact hIt.lets)
              (fun q hq => by obtain ⟨p, _, rfl⟩ := List.mem_map.1 hq; exact .inl ⟨rfl, rfl⟩) hz ((hfe4.le hle5).le m) ((hpf4.le hle5).le m) h1 h2)
          rw [hq] at hB
          repeat' (first
          | (refine m_call (d:=59) hm (hp:=pmL7) (hc:=hB) (k:=?_); clear hm; rintro _ I6 _ _ ⟨_, rfl, rfl, sa6, sp6, zs6, hz6, rfl⟩ hleI6 hm; replace hm := hm.perm pmL7.symm)
          | refine m_load1 hm (k:=?_)
          | refine op_move (k:=?_)
          | refine op_lss (k:=?_)
          | refine op_fieldAddr (k:=?_)
          | refine wl_nil ?_
          | refine at_then_normal ?_
          | refine at_then_exit ?_
          | refine at_block_normal ?_
          | refine at_block_exit ?_
          | refine wc_seq ?_
          | refine wc_region ?_
          | refine wc_exit ?_
          | (refine wc_cond_dec (ht:=fun _ => ?_) (hf:=fun _ => ?_)<;> (try first | contradiction | (exfalso; omega))))
          all_goals try (exfalso; first | omega | contradiction)
          refine at_round (⟨I6, parsLoc it.params, (Sp.roundI its it o).1, (Sp.roundI its it o).2, sa6, sp6, zs6⟩ : LbR) (by exact ⟨rfl, rfl, rfl, rfl, rfl, rfl, rfl, rfl, trivial⟩) ⟨hm, hle5.trans hleI6, hz6, ⟨kk + 1, by rw [hkk]; rfl⟩, fun h => ?_⟩ ?_
          · dsimp only at h ⊢
            have h3 := hr3 h
            rw [h3]
            exact Prod.ext h3 h
          · dsimp only
            cases hb : (Sp.roundI its it o).2 with
            | true => have := hr2 hb; rw [if_pos rfl]; omega
            | false => rw [hr3 hb, if_neg (by decide), if_pos rfl]; omega
    · obtain ⟨I5, xb5, hle5, hm5, hrb, hxb⟩ := hO4.freeze (hm.perm pmL4)
      clear hm
      have hm := hm5
      clear hm5
      have hit : ItAt I5 it (itCells it.kind it.name it.label (.slice ap it.params.length cp') (.slice as_ it.sends.length cs') (.slice ab it.body.length cb) it.at_ it.size it.mark (.slice ad it.diags.length cd)) :=
        ⟨ap, cp', as_, cs', ab, cb, ad, cd, xb5, rfl, hrp.le hle5, hrs4.le hle5, hrb, hxb, hrd4.le hle5⟩
      repeat' (first
      | (refine m_push (d:=68) hm (k:=?_); clear hm; intro a68 cp68 _ _ hm; try simp only [setn] at hm)
      | refine m_load1 hm (k:=?_)
      | refine m_loadAll hm (k:=?_)
      | (refine m_store1 hm (k:=?_); clear hm; intro _ hm; try simp only [setn] at hm)
      | refine op_move (k:=?_)
      | refine op_eql (k:=?_)
      | refine op_add (k:=?_)
      | refine op_fieldAddr (k:=?_)
      | refine wl_nil ?_
      | refine at_then_normal ?_
      | refine at_block_normal ?_
      | refine wc_region ?_
      | refine wc_skip ?_
      | (refine wc_cond_dec (ht:=fun _ => ?_) (hf:=fun _ => ?_)<;> (try first | contradiction | (exfalso; omega))))
      all_goals try (exfalso; first | omega | contradiction)
      refine at_round (⟨k + 1, I5, a68, cp68, _, r ++ [it]⟩ : LbX) (by exact ⟨rfl, rfl, rfl, rfl, rfl, rfl, trivial⟩) ⟨?_, (hle2.trans hle24).trans hle5, by dsimp only; omega, by dsimp only; rw [htk]; exact hall.snoc ⟨fun h => absurd h k2, fun _ => rfl⟩, (hits4.le hle5).snoc hit⟩ (by dsimp only; omega)
      dsimp only [itRow]
      rw [List.length_append]
      exact hm.tl
  · obtain rfl : k = its.length := by omega
    rw [List.take_length] at hall
    repeat' (first
    | refine m_loadAll hm (k:=?_)
    | (refine m_storeAll hm (k:=?_); clear hm; intro _ hm; try simp only [setn] at hm)
    | refine m_ret_agg hm (h:=?_)
    | refine op_lss (k:=?_)
    | refine wl_nil ?_
    | refine at_then_normal ?_
    | refine at_then_exit ?_
    | refine at_block_exit ?_
    | refine wc_seq ?_
    | refine wc_region ?_
    | refine wc_exit ?_
    | refine wc_ret ?_
    | (refine wc_cond_dec (ht:=fun _ => ?_) (hf:=fun _ => ?_)<;> (try first | contradiction | (exfalso; omega))))
    all_goals try (exfalso; omega)
    obtain ⟨I3, hle3, hm3, hrow3⟩ := (hm.perm pmSw).freeze
    exact ⟨I3, [], ⟨rfl, ra, rp, rx, r, hall, rfl, hrow3, hits.le hle3⟩, hm3.left (H := [])⟩
end Go.Proofs.Ytjfkjpbkmpofkaa
end
section
namespace Go.Proofs.Ytjfkjpbkmpofkaa
open Go.Fw

theorem put1 {c : Array Value} {k : Nat} {v : Value} (hk : k < c.size) (hv : v.cells.toList = [v]) (j : Nat) :
    ((c.toList.take (0 + (k : Int).toNat * 1) ++ v.cells.toList ++ c.toList.drop (0 + (k : Int).toNat * 1 + 1)).toArray)[j]? = if j = k then some v else c[j]? := by
  rw [hv]
  simp only [Int.toNat_natCast, Nat.zero_add, Nat.mul_one]
  rw [List.getElem?_toArray, List.append_assoc, List.getElem?_append, List.length_take, Array.length_toList, Nat.min_eq_left (by omega)]
  by_cases h2 : j < k
  · rw [if_pos h2, if_neg (by omega), List.getElem?_take, if_pos h2, Array.getElem?_toList]
  · rw [if_neg h2]
    by_cases h3 : j = k
    · subst h3; simp
    · rw [if_neg h3, List.singleton_append, show j - k = (j - k - 1) + 1 by omega, List.getElem?_cons_succ, List.getElem?_drop, show k + 1 + (j - k - 1) = j by omega, Array.getElem?_toList]

/-- a label's tags, as an array of bools. -/
def bitsV (n : Nat) : List Value := (List.range 8).map (fun k => .bool (Sp.bit n k))
theorem bitsV_get (n k : Nat) (h : k < 8) : (bitsV n)[k]? = some (.bool (Sp.bit n k)) := by
  rw [bitsV, List.getElem?_map, List.getElem?_range h]; rfl

set_option maxHeartbeats 1000000 in
theorem c_bits (n : Nat) (hn : n < 256) (w : World) : Cal Try.prog 68 #[.int .i64 n] w fun v w' => v = .agg (bitsV n).toArray ∧ Kept [] w w' := by
  refine enter (N := 17) Try.func68 rfl [(0, .int .i64 n)] args1 rfl ?_
  repeat' (first
  | (refine op_alloc (k:=?_); have := hba; intro b2 w2 zd hbf hzt hbb hkb)
  | (refine op_alloc (k:=?_); intro b1 w1 zc hbe hzs hba hka)
  | refine op_move (k:=?_)
  | refine op_assign (k:=?_)
  | refine op_lss (k:=?_)
  | refine op_eql (k:=?_)
  | refine op_eql_str (k:=?_)
  | refine op_eql_bool (k:=?_)
  | refine op_eql_flat (k:=?_)
  | refine op_add (k:=?_)
  | refine op_add_u8 (k:=?_)
  | refine op_quo (k:=?_)
  | refine op_rem (k:=?_)
  | refine op_indexAddr_arr (k:=?_)
  | refine op_indexAddr (k:=?_)
  | refine op_load1 (k:=?_)
  | refine wl_nil ?_
  | refine at_then_normal ?_
  | refine at_then_ret ?_
  | refine at_then_exit ?_
  | refine at_block_normal ?_
  | refine at_block_ret ?_
  | refine at_block_exit ?_
  | refine at_block_other (h:=?_)
  | refine wc_seq ?_
  | refine wc_region ?_
  | refine wc_block ?_
  | refine wc_skip ?_
  | refine wc_exit ?_
  | refine wc_ret ?_
  | refine at_ret1 (h:=?_)
  | refine wc_cond_true (ht:=?_)
  | refine wc_cond_false (hf:=?_)
  | (refine wc_cond_dec (ht:=fun _ => ?_) (hf:=fun _ => ?_)<;> (try first | contradiction | (exfalso; omega)))
  | refine wc_cond (ht:=fun _ => ?_) (hf:=fun _ => ?_))
  have hlt1 := lt_of_heap hba
  refine wc_loop (fun k => [(2, .pointer (some ⟨b1, 0, none⟩)), (3, .pointer (some ⟨b2, 0, none⟩)), (0, .int .i64 ((n / 2 ^ k : Nat) : Int)), (5, .int .i64 ((k : Nat) : Int))])
    (fun k w' => k ≤ 8 ∧ Kept [b2] w2 w' ∧ ∃ c : Array Value, c.size = 8 ∧ w'.heap[b2]? = some (.cells c 137 (0, 0)) ∧ ∀ j, j < k → c[j]? = some (.bool (Sp.bit n j))) (fun k => 8 - k) 0
    ⟨rfl, rfl, by rw [Nat.pow_zero, Nat.div_one]; rfl, rfl, trivial⟩ ⟨by omega, Kept.refl _ _, zd, hzt, hbb, fun j hj => by omega⟩ ?_
  rintro k w3 ⟨hk, hkept, c, hcs, hcb, hcc⟩
  by_cases hlt : k < 8
  · have hq : n / 2 ^ k ≤ n := Nat.div_le_self _ _
    have hm2 : n / 2 ^ (k + 1) = n / 2 ^ k / 2 := by rw [Nat.pow_succ, Nat.div_div_eq_div_mul]
    have hbit : Sp.bit n k = decide (n / 2 ^ k % 2 = 1) := rfl
    generalize n / 2 ^ k = m at hm2 hbit hq
    repeat' (first
    | (refine op_store (by rfl) (by rfl) (by rfl) (by rfl) hcb (by rfl) (by simp; omega) (by rfl) ?_; intro w4 hb4 hk4)
    | refine op_move (k:=?_)
    | refine op_assign (k:=?_)
    | refine op_lss (k:=?_)
    | refine op_eql (k:=?_)
    | refine op_eql_str (k:=?_)
    | refine op_eql_bool (k:=?_)
    | refine op_eql_flat (k:=?_)
    | refine op_add (k:=?_)
    | refine op_add_u8 (k:=?_)
    | refine op_quo (k:=?_)
    | refine op_rem (k:=?_)
    | refine op_indexAddr_arr (k:=?_)
    | refine op_indexAddr (k:=?_)
    | refine op_load1 (k:=?_)
    | refine wl_nil ?_
    | refine at_then_normal ?_
    | refine at_then_ret ?_
    | refine at_then_exit ?_
    | refine at_block_normal ?_
    | refine at_block_ret ?_
    | refine at_block_exit ?_
    | refine at_block_other (h:=?_)
    | refine wc_seq ?_
    | refine wc_region ?_
    | refine wc_block ?_
    | refine wc_skip ?_
    | refine wc_exit ?_
    | refine wc_ret ?_
    | refine at_ret1 (h:=?_)
    | refine wc_cond_true (ht:=?_)
    | refine wc_cond_false (hf:=?_)
    | (refine wc_cond_dec (ht:=fun _ => ?_) (hf:=fun _ => ?_)<;> (try first | contradiction | (exfalso; omega)))
    | refine wc_cond (ht:=fun _ => ?_) (hf:=fun _ => ?_))
    refine at_round (k + 1) (by exact ⟨rfl, rfl, by rw [hm2]; rfl, rfl, trivial⟩) ?_ (by omega)
    refine ⟨by omega, hkept.trans hk4, _, ?_, hb4, fun j hj => ?_⟩
    · simp [Value.cells]; omega
    · rw [put1 (by omega) rfl]
      by_cases hjk : j = k
      · rw [if_pos hjk, hjk, hbit]
        refine congrArg (fun b => some (Value.bool b)) ?_
        rw [Bool.eq_iff_iff, decide_eq_true_eq, decide_eq_true_eq]; omega
      · rw [if_neg hjk, hcc j (by omega)]
  · skip
    have hk8 : k = 8 := by omega
    subst hk8
    have hget : ∀ (j : Nat) (v : Value), (bitsV n)[j]? = some v → c[0 + j]? = some v := fun j v hv => by
      have hj : j < 8 := by
        have := (List.getElem?_eq_some_iff.1 hv).1
        simpa [bitsV] using this
      rw [bitsV_get n j hj] at hv
      rw [Nat.zero_add, hcc j hj, hv]
    have hb1' := hkept.get (hkb.get0 hba) (by simp; omega)
    repeat' (first
    | (refine op_loadN (vs:=bitsV n) (hb:=hcb) (hc:=hget) (k:=?_))
    | (refine op_store_all (hb:=hb1') (ho:=hzs) (k:=?_); intro w4 hb4 hk4)
    | (refine at_ret_agg (vs := bitsV n) (by rfl) (by rfl) hb4 (by rfl) (fun j v hv => by rw [Nat.zero_add]; show (bitsV n).toArray[j]? = some v; rw [List.getElem?_toArray]; exact hv) ?_)
    | refine op_move (k:=?_)
    | refine op_assign (k:=?_)
    | refine op_lss (k:=?_)
    | refine op_eql (k:=?_)
    | refine op_eql_str (k:=?_)
    | refine op_eql_bool (k:=?_)
    | refine op_eql_flat (k:=?_)
    | refine op_add (k:=?_)
    | refine op_add_u8 (k:=?_)
    | refine op_quo (k:=?_)
    | refine op_rem (k:=?_)
    | refine op_indexAddr_arr (k:=?_)
    | refine op_indexAddr (k:=?_)
    | refine op_load1 (k:=?_)
    | refine wl_nil ?_
    | refine at_then_normal ?_
    | refine at_then_ret ?_
    | refine at_then_exit ?_
    | refine at_block_normal ?_
    | refine at_block_ret ?_
    | refine at_block_exit ?_
    | refine at_block_other (h:=?_)
    | refine wc_seq ?_
    | refine wc_region ?_
    | refine wc_block ?_
    | refine wc_skip ?_
    | refine wc_exit ?_
    | refine wc_ret ?_
    | refine at_ret1 (h:=?_)
    | refine wc_cond_true (ht:=?_)
    | refine wc_cond_false (hf:=?_)
    | (refine wc_cond_dec (ht:=fun _ => ?_) (hf:=fun _ => ?_)<;> (try first | contradiction | (exfalso; omega)))
    | refine wc_cond (ht:=fun _ => ?_) (hf:=fun _ => ?_))
    exact ⟨rfl, ((hka.trans hkb).step hkept (fun x hx => .inr (by simp at hx; omega))).step hk4 (fun x hx => .inr (by simp at hx; omega))⟩
end Go.Proofs.Ytjfkjpbkmpofkaa
end
section
namespace Go.Sp
/-- the number of bits, the greatest first. -/
def numOf (f : Nat → Bool) : Nat → Nat → Nat
  | 0, acc => acc
  | k + 1, acc => numOf f k (2 * acc + if f k then 1 else 0)
theorem numOf_bits (f : Nat → Bool) : ∀ (k acc : Nat), numOf f k acc < (acc + 1) * 2 ^ k ∧ ∀ j, (numOf f k acc).testBit j = if j < k then f j else acc.testBit (j - k)
  | 0, acc => ⟨by simp [numOf], fun j => by simp [numOf]⟩
  | k + 1, acc => by
    obtain ⟨h1, h2⟩ := numOf_bits f k (2 * acc + if f k then 1 else 0)
    refine ⟨Nat.lt_of_lt_of_le h1 ?_, fun j => ?_⟩
    · rw [Nat.pow_succ, Nat.mul_comm (2 ^ k) 2, ← Nat.mul_assoc]
      refine Nat.mul_le_mul_right _ ?_
      split <;> omega
    · rw [numOf, h2 j]
      by_cases h3 : j < k
      · rw [if_pos h3, if_pos (show j < k + 1 by omega)]
      · rw [if_neg h3]
        by_cases h4 : j = k
        · subst h4
          rw [if_pos (show j < j + 1 by omega), Nat.sub_self, Nat.testBit_zero]
          cases f j <;> simp <;> omega
        · rw [if_neg (show ¬ j < k + 1 by omega), show j - k = (j - (k + 1)) + 1 by omega, Nat.testBit_succ]
          congr 1
          clear h1 h2
          cases f k <;> simp <;> omega
theorem numOf_eq (f : Nat → Bool) (n : Nat) (hn : n < 256) (h : ∀ k, k < 8 → f k = n.testBit k) : numOf f 8 0 = n := by
  obtain ⟨h1, h2⟩ := numOf_bits f 8 0
  refine eq_of_bits (by omega) hn (fun k hk => ?_)
  rw [h2 k, if_pos hk, h k hk]
end Go.Sp
namespace Go.Proofs.Ytjfkjpbkmpofkaa
open Go.Fw
theorem bitsA_get (n k : Nat) (h : k < 8) : (Value.agg (bitsV n).toArray).cells[0 + (k : Int).toNat * 1]? = some (.bool (Sp.bit n k)) := by
  show (bitsV n).toArray[0 + (k : Int).toNat * 1]? = _
  rw [List.getElem?_toArray, Int.toNat_natCast, Nat.zero_add, Nat.mul_one, bitsV_get n k h]

set_option maxHeartbeats 1000000 in
theorem c_rflows (a b : Nat) (ha : a < 256) (hb : b < 256) (w : World) : Cal Try.prog 65 #[.int .i64 a, .int .i64 b] w fun v w' => v = .bool (Sp.flows a b) ∧ Kept [] w w' := by
  refine enter (N := 25) Try.func65 rfl [(0, .int .i64 a), (1, .int .i64 b)] args2 rfl ?_
  repeat' (first
  | (refine op_call (hc:=by exact c_bits a ha _) (k:=?_); have := w; rintro _ w1 ⟨rfl, hk1⟩)
  | (refine op_call (hc:=by exact c_bits b hb _) (k:=?_); rintro _ w2 ⟨rfl, hk2⟩)
  | (refine op_alloc (k:=?_); have := hba; intro b2 w4 zd hbf hzt hbb hkb)
  | (refine op_alloc (k:=?_); intro b1 w3 zc hbe hzs hba hka)
  | (refine op_store_all (hb:=hkb.get0 hba) (ho:=hzs) (k:=?_); intro w5 hb5 hk5)
  | (refine op_store_all (hb:=hk5.get hbb (by have := lt_of_heap hba; simp; omega)) (ho:=hzt) (k:=?_); intro w6 hb6 hk6)
  | refine op_move (k:=?_)
  | refine op_assign (k:=?_)
  | refine op_pick_true (k:=?_)
  | refine op_pick_false (k:=?_)
  | refine op_lss (k:=?_)
  | refine op_not (k:=?_)
  | refine op_add (k:=?_)
  | refine op_add_u8 (k:=?_)
  | refine op_indexAddr_arr (k:=?_)
  | refine op_indexAddr (k:=?_)
  | refine op_load1 (k:=?_)
  | refine wl_skip (k:=?_)
  | (refine wl_split_dec (h1:=fun _ => ?_) (h0:=fun _ => ?_)<;> (try first | contradiction | (exfalso; omega)))
  | (refine wl_split (h1:=fun _ => ?_) (h0:=fun _ => ?_)<;> (fail_if_success contradiction))
  | refine wl_nil ?_
  | refine at_then_normal ?_
  | refine at_then_ret ?_
  | refine at_then_exit ?_
  | refine at_block_normal ?_
  | refine at_block_ret ?_
  | refine at_block_exit ?_
  | refine at_block_other (h:=?_)
  | refine wc_seq ?_
  | refine wc_region ?_
  | refine wc_block ?_
  | refine wc_skip ?_
  | refine wc_exit ?_
  | refine wc_ret ?_
  | refine at_ret1 (h:=?_)
  | refine wc_cond_true (ht:=?_)
  | refine wc_cond_false (hf:=?_)
  | (refine wc_cond_dec (ht:=fun _ => ?_) (hf:=fun _ => ?_)<;> (try first | contradiction | (exfalso; omega)))
  | refine wc_cond (ht:=fun _ => ?_) (hf:=fun _ => ?_))
  have hlt1 := lt_of_heap hba
  have h1 := hk6.get hb5 (by simp; omega)
  have hs1 := hk1.size
  have hs2 := hk2.size
  have hs3 := hka.size
  have hs4 := hkb.size
  have hK : Kept [] w w6 := ((((hk1.trans hk2).trans hka).trans hkb).step hk5 (fun x hx => .inr (by simp at hx; omega))).step hk6 (fun x hx => .inr (by simp at hx; omega))
  refine wc_loop (fun k => [(5, .pointer (some ⟨b1, 0, none⟩)), (6, .pointer (some ⟨b2, 0, none⟩)), (12, .int .i64 ((k : Nat) : Int))])
    (fun k w' => k ≤ 8 ∧ w' = w6 ∧ ∀ j, j < k → (!Sp.bit a j || Sp.bit b j) = true) (fun k => 8 - k) 0
    ⟨rfl, rfl, rfl, trivial⟩ ⟨by omega, rfl, fun j hj => by omega⟩ ?_
  rintro k w7 ⟨hk, rfl, hall⟩
  by_cases hlt : k < 8
  · have hg1 := bitsA_get a k hlt
    have hg2 := bitsA_get b k hlt
    repeat' (first
    | (refine op_load1 (hb:=h1) (hc:=by exact hg1) (k:=?_))
    | (refine op_load1 (hb:=hb6) (hc:=by exact hg2) (k:=?_))
    | refine op_move (k:=?_)
    | refine op_assign (k:=?_)
    | refine op_pick_true (k:=?_)
    | refine op_pick_false (k:=?_)
    | refine op_lss (k:=?_)
    | refine op_not (k:=?_)
    | refine op_add (k:=?_)
    | refine op_add_u8 (k:=?_)
    | refine op_indexAddr_arr (k:=?_)
    | refine op_indexAddr (k:=?_)
    | refine op_load1 (k:=?_)
    | refine wl_skip (k:=?_)
    | (refine wl_split_dec (h1:=fun _ => ?_) (h0:=fun _ => ?_)<;> (try first | contradiction | (exfalso; omega)))
    | (refine wl_split (h1:=fun _ => ?_) (h0:=fun _ => ?_)<;> (fail_if_success contradiction))
    | refine wl_nil ?_
    | refine at_then_normal ?_
    | refine at_then_ret ?_
    | refine at_then_exit ?_
    | refine at_block_normal ?_
    | refine at_block_ret ?_
    | refine at_block_exit ?_
    | refine at_block_other (h:=?_)
    | refine wc_seq ?_
    | refine wc_region ?_
    | refine wc_block ?_
    | refine wc_skip ?_
    | refine wc_exit ?_
    | refine wc_ret ?_
    | refine at_ret1 (h:=?_)
    | refine wc_cond_true (ht:=?_)
    | refine wc_cond_false (hf:=?_)
    | (refine wc_cond_dec (ht:=fun _ => ?_) (hf:=fun _ => ?_)<;> (try first | contradiction | (exfalso; omega)))
    | refine wc_cond (ht:=fun _ => ?_) (hf:=fun _ => ?_))
    · rename_i h2 h3
      refine ⟨congrArg Value.bool ?_, hK⟩
      have h4 : Sp.bit a k = true := decide_eq_true h2
      have h5 : Sp.bit b k = false := by simpa using h3
      rw [Sp.flows, eq_comm, Bool.eq_false_iff]
      intro h
      have := List.all_eq_true.1 h k (List.mem_range.2 hlt)
      rw [h4, h5] at this; cases this
    · rename_i h2 h3
      have h5 : Sp.bit b k = true := by simpa using h3
      refine at_round (k + 1) (by exact ⟨rfl, rfl, rfl, trivial⟩) ?_ (by omega)
      refine ⟨by omega, rfl, fun j hj => ?_⟩
      by_cases h6 : j = k
      · rw [h6, h5]; simp
      · exact hall j (by omega)
    · rename_i h2
      have h4 : Sp.bit a k = false := decide_eq_false h2
      refine at_round (k + 1) (by exact ⟨rfl, rfl, rfl, trivial⟩) ?_ (by omega)
      refine ⟨by omega, rfl, fun j hj => ?_⟩
      by_cases h6 : j = k
      · rw [h6, h4]; rfl
      · exact hall j (by omega)
  · skip
    repeat' (first
    | refine op_move (k:=?_)
    | refine op_assign (k:=?_)
    | refine op_pick_true (k:=?_)
    | refine op_pick_false (k:=?_)
    | refine op_lss (k:=?_)
    | refine op_not (k:=?_)
    | refine op_add (k:=?_)
    | refine op_add_u8 (k:=?_)
    | refine op_indexAddr_arr (k:=?_)
    | refine op_indexAddr (k:=?_)
    | refine op_load1 (k:=?_)
    | refine wl_skip (k:=?_)
    | (refine wl_split_dec (h1:=fun _ => ?_) (h0:=fun _ => ?_)<;> (try first | contradiction | (exfalso; omega)))
    | (refine wl_split (h1:=fun _ => ?_) (h0:=fun _ => ?_)<;> (fail_if_success contradiction))
    | refine wl_nil ?_
    | refine at_then_normal ?_
    | refine at_then_ret ?_
    | refine at_then_exit ?_
    | refine at_block_normal ?_
    | refine at_block_ret ?_
    | refine at_block_exit ?_
    | refine at_block_other (h:=?_)
    | refine wc_seq ?_
    | refine wc_region ?_
    | refine wc_block ?_
    | refine wc_skip ?_
    | refine wc_exit ?_
    | refine wc_ret ?_
    | refine at_ret1 (h:=?_)
    | refine wc_cond_true (ht:=?_)
    | refine wc_cond_false (hf:=?_)
    | (refine wc_cond_dec (ht:=fun _ => ?_) (hf:=fun _ => ?_)<;> (try first | contradiction | (exfalso; omega)))
    | refine wc_cond (ht:=fun _ => ?_) (hf:=fun _ => ?_))
    refine ⟨congrArg Value.bool ?_, hK⟩
    rw [Sp.flows, eq_comm, List.all_eq_true]
    intro j hj
    exact hall j (by have := List.mem_range.1 hj; omega)
end Go.Proofs.Ytjfkjpbkmpofkaa
end
section
namespace Go.Proofs.Ytjfkjpbkmpofkaa
open Go.Fw
def bothF (a b : Nat) (all : Bool) (k : Nat) : Bool := (Sp.bit a k && Sp.bit b k) || (!all && (Sp.bit a k || Sp.bit b k))
theorem both_or (a b : Nat) (ha : a < 256) (hb : b < 256) : Sp.numOf (bothF a b false) 8 0 = a ||| b :=
  Sp.numOf_eq _ _ (Sp.or_lt ha hb) (fun k _ => by rw [bothF, Nat.testBit_or, Sp.bit_test, Sp.bit_test]; cases a.testBit k <;> cases b.testBit k <;> rfl)
set_option maxHeartbeats 4000000 in
theorem c_both (a b : Nat) (all : Bool) (ha : a < 256) (hb : b < 256) (w : World) : Cal Try.prog 50 #[.int .i64 a, .int .i64 b, .bool all] w fun v w' => v = .int .i64 ((Sp.numOf (bothF a b all) 8 0 : Nat) : Int) ∧ Kept [] w w' := by
  refine enter (N := 46) Try.func50 rfl [(0, .int .i64 a), (1, .int .i64 b), (2, .bool all)] args3 rfl ?_
  repeat' (first
  | (refine op_call (hc:=by exact c_bits a ha _) (k:=?_); rintro _ w1 ⟨rfl, hk1⟩)
  | (refine op_call (hc:=by exact c_bits b hb _) (k:=?_); rintro _ w2 ⟨rfl, hk2⟩)
  | (refine op_alloc (k:=?_); have := hba; intro b2 w4 zd hbf hzt hbb hkb)
  | (refine op_alloc (k:=?_); intro b1 w3 zc hbe hzs hba hka)
  | (refine op_store_all (hb:=hkb.get0 hba) (ho:=hzs) (k:=?_); intro w5 hb5 hk5)
  | (refine op_store_all (hb:=hk5.get hbb (by have := lt_of_heap hba; simp; omega)) (ho:=hzt) (k:=?_); intro w6 hb6 hk6)
  | refine op_move (k:=?_)
  | refine op_assign (k:=?_)
  | refine op_pick_true (k:=?_)
  | refine op_pick_false (k:=?_)
  | refine op_geq (k:=?_)
  | refine op_not (k:=?_)
  | refine op_add (k:=?_)
  | refine op_sub (k:=?_)
  | refine op_add_u8 (k:=?_)
  | refine op_sub_u8 (k:=?_)
  | refine op_mul (k:=?_)
  | refine op_indexAddr_arr (k:=?_)
  | refine op_indexAddr (k:=?_)
  | refine op_load1 (k:=?_)
  | refine wl_skip (k:=?_)
  | (refine wl_split_dec (h1:=fun _ => ?_) (h0:=fun _ => ?_)<;> (try first | contradiction | (exfalso; omega)))
  | (refine wl_split (h1:=fun _ => ?_) (h0:=fun _ => ?_)<;> (fail_if_success contradiction))
  | refine wl_nil ?_
  | refine at_then_normal ?_
  | refine at_then_ret ?_
  | refine at_then_exit ?_
  | refine at_block_normal ?_
  | refine at_block_ret ?_
  | refine at_block_exit ?_
  | refine at_block_other (h:=?_)
  | refine wc_seq ?_
  | refine wc_region ?_
  | refine wc_block ?_
  | refine wc_skip ?_
  | refine wc_exit ?_
  | refine wc_ret ?_
  | refine at_ret1 (h:=?_)
  | refine wc_cond_true (ht:=?_)
  | refine wc_cond_false (hf:=?_)
  | (refine wc_cond_dec (ht:=fun _ => ?_) (hf:=fun _ => ?_)<;> (try first | contradiction | (exfalso; omega)))
  | refine wc_cond (ht:=fun _ => ?_) (hf:=fun _ => ?_))
  have hlt1 := lt_of_heap hba
  have h1 := hk6.get hb5 (by simp; omega)
  have hs1 := hk1.size
  have hs2 := hk2.size
  have hs3 := hka.size
  have hs4 := hkb.size
  have hK : Kept [] w w6 := ((((hk1.trans hk2).trans hka).trans hkb).step hk5 (fun x hx => .inr (by simp at hx; omega))).step hk6 (fun x hx => .inr (by simp at hx; omega))
  refine wc_loop (fun x : Nat × Nat => [(2, .bool all), (7, .pointer (some ⟨b1, 0, none⟩)), (8, .pointer (some ⟨b2, 0, none⟩)), (9, .int .i64 ((x.2 : Nat) : Int)), (10, .int .i64 (((x.1 : Nat) : Int) - 1))])
    (fun x w' => x.1 ≤ 8 ∧ w' = w6 ∧ x.2 < 2 ^ (8 - x.1) ∧ Sp.numOf (bothF a b all) x.1 x.2 = Sp.numOf (bothF a b all) 8 0) (fun x => x.1) (8, 0)
    ⟨rfl, rfl, rfl, rfl, rfl, trivial⟩ ⟨by simp, rfl, by simp, rfl⟩ ?_
  rintro ⟨k, acc⟩ w7 ⟨hk, rfl, hacc, hnum⟩
  dsimp only at hk hacc hnum ⊢
  rcases k with _ | k
  · skip
    repeat' (first
    | refine op_move (k:=?_)
    | refine op_assign (k:=?_)
    | refine op_pick_true (k:=?_)
    | refine op_pick_false (k:=?_)
    | refine op_geq (k:=?_)
    | refine op_not (k:=?_)
    | refine op_add (k:=?_)
    | refine op_sub (k:=?_)
    | refine op_add_u8 (k:=?_)
    | refine op_sub_u8 (k:=?_)
    | refine op_mul (k:=?_)
    | refine op_indexAddr_arr (k:=?_)
    | refine op_indexAddr (k:=?_)
    | refine op_load1 (k:=?_)
    | refine wl_skip (k:=?_)
    | (refine wl_split_dec (h1:=fun _ => ?_) (h0:=fun _ => ?_)<;> (try first | contradiction | (exfalso; omega)))
    | (refine wl_split (h1:=fun _ => ?_) (h0:=fun _ => ?_)<;> (fail_if_success contradiction))
    | refine wl_nil ?_
    | refine at_then_normal ?_
    | refine at_then_ret ?_
    | refine at_then_exit ?_
    | refine at_block_normal ?_
    | refine at_block_ret ?_
    | refine at_block_exit ?_
    | refine at_block_other (h:=?_)
    | refine wc_seq ?_
    | refine wc_region ?_
    | refine wc_block ?_
    | refine wc_skip ?_
    | refine wc_exit ?_
    | refine wc_ret ?_
    | refine at_ret1 (h:=?_)
    | refine wc_cond_true (ht:=?_)
    | refine wc_cond_false (hf:=?_)
    | (refine wc_cond_dec (ht:=fun _ => ?_) (hf:=fun _ => ?_)<;> (try first | contradiction | (exfalso; omega)))
    | refine wc_cond (ht:=fun _ => ?_) (hf:=fun _ => ?_))
    exact ⟨by rw [← hnum]; rfl, hK⟩
  · have hlt : k < 8 := by omega
    have hkk : (((k + 1 : Nat) : Int) - 1) = (k : Int) := by omega
    rw [hkk]
    have hp : 2 * 2 ^ (8 - (k + 1)) = 2 ^ (8 - k) := by rw [show 8 - k = (8 - (k + 1)) + 1 by omega, Nat.pow_succ]; omega
    have hp2 : 2 ^ (8 - k) ≤ 256 := Nat.pow_le_pow_right (by omega) (show 8 - k ≤ 8 by omega)
    have hg1 := bitsA_get a k hlt
    have hg2 := bitsA_get b k hlt
    rw [Sp.numOf] at hnum
    have hf : bothF a b all k = ((Sp.bit a k && Sp.bit b k) || (!all && (Sp.bit a k || Sp.bit b k))) := rfl
    generalize Sp.bit a k = p at hg1 hf
    generalize Sp.bit b k = q at hg2 hf
    cases p <;> cases q <;> cases all
    all_goals
      repeat' (first
      | (refine op_load1 (hb:=h1) (hc:=by exact hg1) (k:=?_))
      | (refine op_load1 (hb:=hb6) (hc:=by exact hg2) (k:=?_))
      | refine op_move (k:=?_)
      | refine op_assign (k:=?_)
      | refine op_pick_true (k:=?_)
      | refine op_pick_false (k:=?_)
      | refine op_geq (k:=?_)
      | refine op_not (k:=?_)
      | refine op_add (k:=?_)
      | refine op_sub (k:=?_)
      | refine op_add_u8 (k:=?_)
      | refine op_sub_u8 (k:=?_)
      | refine op_mul (k:=?_)
      | refine op_indexAddr_arr (k:=?_)
      | refine op_indexAddr (k:=?_)
      | refine op_load1 (k:=?_)
      | refine wl_skip (k:=?_)
      | (refine wl_split_dec (h1:=fun _ => ?_) (h0:=fun _ => ?_)<;> (try first | contradiction | (exfalso; omega)))
      | (refine wl_split (h1:=fun _ => ?_) (h0:=fun _ => ?_)<;> (fail_if_success contradiction))
      | refine wl_nil ?_
      | refine at_then_normal ?_
      | refine at_then_ret ?_
      | refine at_then_exit ?_
      | refine at_block_normal ?_
      | refine at_block_ret ?_
      | refine at_block_exit ?_
      | refine at_block_other (h:=?_)
      | refine wc_seq ?_
      | refine wc_region ?_
      | refine wc_block ?_
      | refine wc_skip ?_
      | refine wc_exit ?_
      | refine wc_ret ?_
      | refine at_ret1 (h:=?_)
      | refine wc_cond_true (ht:=?_)
      | refine wc_cond_false (hf:=?_)
      | (refine wc_cond_dec (ht:=fun _ => ?_) (hf:=fun _ => ?_)<;> (try first | contradiction | (exfalso; omega)))
      | refine wc_cond (ht:=fun _ => ?_) (hf:=fun _ => ?_))
    all_goals rw [hf] at hnum
    all_goals first
      | (refine at_round ((k, 2 * acc + 1) : Nat × Nat) (by exact ⟨rfl, rfl, rfl, rfl, rfl, trivial⟩) ?_ (by dsimp only; omega)
         exact ⟨by dsimp only; omega, rfl, by dsimp only; omega, hnum⟩)
      | (refine at_round ((k, 2 * acc) : Nat × Nat) (by exact ⟨rfl, rfl, rfl, rfl, rfl, trivial⟩) ?_ (by dsimp only; omega)
         exact ⟨by dsimp only; omega, rfl, by dsimp only; omega, hnum⟩)
end Go.Proofs.Ytjfkjpbkmpofkaa
end
