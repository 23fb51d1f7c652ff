/-
  THE STATEMENT of the law FlowTells, where what it reads is small: it returns true, whatever it is given; the listed variables as the program lays them. By the prover.
-/
import Derived.Test.YtkbiakajlfmakaaGreatDoorFt25
import Derived.Test.YtkbiakajlfmakaaGreatDoorCards
import Derived.Test.YtkbiakajlfmakaaGreatDoorTie
import Derived.Deep.DeepHandedRow
import Derived.Lay
section
namespace Go.Sp
/-! where nobody asks for a label none is told -/
theorem hit_low {s : FW} {at_ : Int} (h : at_ < 0) (f t n : Nat) : s.hit at_ f t n = s := by rw [FW.hit, if_neg (fun h1 => by omega)]
theorem ask_hv (s : FW) (a b f t : Nat) (n : List UInt8) : (s.ask a b f t n).hv = s.hv := by rw [FW.ask]; split <;> rfl
theorem askFloor_hv (its : List Itm) (un : Nat) (n : List UInt8) (f t : Nat) (s : FW) : (askFloor its un n f t s).hv = s.hv := by
  rw [askFloor]; split
  · exact ask_hv _ _ _ _ _ _
  · rfl
theorem askCh_hv (its : List Itm) (a : Nat) (n : List UInt8) (f t : Nat) (s : FW) : (askCh its a n f t s).hv = s.hv := by
  rw [askCh]; split
  · exact ask_hv _ _ _ _ _ _
  · rfl
theorem askArg_hv (its : List Itm) (n : List UInt8) (i a f t : Nat) (s : FW) : (askArg its n i a f t s).hv = s.hv := by
  rw [askArg]; split
  · split
    · exact ask_hv _ _ _ _ _ _
    · rfl
  · rfl
mutual
theorem exF_hv (its : List Itm) {at_ : Int} (h : at_ < 0) (sc : List Lc) (un : Nat) : ∀ (e : Ex) (s : FW), (exF its at_ sc un e s).2.hv = s.hv
  | .mk k nm n args f t, s => by
    rw [exF]
    split
    · rw [hit_low h]
    · split
      · dsimp only; rw [hit_low h]; exact opsF_hv its h sc un args 0 s
      · split
        · dsimp only; rw [hit_low h, askFloor_hv]; exact argsF_hv its h sc un nm args 0 s
        · dsimp only; rw [hit_low h]
theorem opsF_hv (its : List Itm) {at_ : Int} (h : at_ < 0) (sc : List Lc) (un : Nat) : ∀ (l : List Ex) (n : Nat) (s : FW), (opsF its at_ sc un l n s).2.hv = s.hv
  | [], n, s => by rw [opsF]
  | e :: l, n, s => by rw [opsF, opsF_hv its h sc un l, exF_hv its h sc un e s]
theorem argsF_hv (its : List Itm) {at_ : Int} (h : at_ < 0) (sc : List Lc) (un : Nat) (nm : List UInt8) : ∀ (l : List Ex) (i : Nat) (s : FW), (argsF its at_ sc un nm l i s).hv = s.hv
  | [], i, s => by rw [argsF]
  | e :: l, i, s => by rw [argsF, argsF_hv its h sc un nm l, askArg_hv, exF_hv its h sc un e s]
 end
mutual
theorem stmF_hv (its : List Itm) (own : Nat) {at_ : Int} (h : at_ < 0) : ∀ (x : Stm) (sc : List Lc) (un : Nat) (s : FW), (stmF its own at_ x sc un s).2.hv = s.hv
  | .mk k nm a lb o e thn els f t, sc, un, s => by
    rw [stmF]
    try dsimp only
    have h1 := exF_hv its h sc (unF its sc k un e) e s
    split
    · dsimp only; rw [ask_hv, h1]
    · split
      · dsimp only; rw [ask_hv, h1]
      · split
        · dsimp only; rw [askCh_hv, h1]
        · split
          · dsimp only; rw [ask_hv, h1]
          · split
            · dsimp only; rw [stmsF_hv its own h els, stmsF_hv its own h thn, h1]
            · exact h1
theorem stmsF_hv (its : List Itm) (own : Nat) {at_ : Int} (h : at_ < 0) : ∀ (l : List Stm) (sc : List Lc) (un : Nat) (s : FW), (stmsF its own at_ l sc un s).2.hv = s.hv
  | [], sc, un, s => by rw [stmsF]
  | x :: l, sc, un, s => by rw [stmsF, stmsF_hv its own h l, stmF_hv its own h x]
 end
theorem checkF_low (its : List Itm) (i : Nat) {at_ : Int} (h : at_ < 0) : (checkF its i at_).hv = none := by
  rw [checkF]; split
  · exact stmsF_hv its _ h _ _ _ _
  · rfl
/-- what is asked of a file's items, for the reference. -/
def ItR (it : Itm) : Prop := stmsAll twoP labS it.body
theorem item_itR (src : List UInt8) (at_ : Int) : ItR (item src at_) := by
  have hA := item_all (src := src) (p := twoP) (q := labS) (r := fun _ => True) (t := fun _ => True) at_ ⟨fun h => (by cases h), fun _ h => (by cases h), fun _ _ _ _ h => (by cases h), fun _ _ h => (by cases h), fun _ _ _ _ _ h => (by cases h), fun _ _ _ _ _ _ _ _ _ _ _ _ _ _ _ _ _ => rfl⟩
    ⟨by show 0 < 256; omega, fun _ _ lb _ _ h => Nat.lt_succ_of_le h, fun _ _ _ => (by show 0 < 256; omega), fun _ _ _ _ => (by show 0 < 256; omega), fun _ _ _ => (by show 0 < 256; omega)⟩ (fun _ _ _ => trivial) (fun _ => trivial)
  exact hA.body
theorem file_itR (s : List UInt8) : ∀ x ∈ fileItems s, ItR x := by
  intro x hx
  rw [fileItems] at hx
  split at hx
  · obtain ⟨i, _, rfl⟩ := List.mem_map.1 hx
    exact item_itR _ _
  · cases hx
end Go.Sp
namespace Go.Proofs.YtkbiakajlfmakaaGreatDoor
open Go.Fw
section
variable {its : List Sp.Itm} {a : Option Addr} {cp : Nat} {xs : List Value}
set_option maxHeartbeats 16000000 in
theorem rf_secrets (i : Nat) (hi : i < its.length) (at_ : Int) (I : Imm) (h : FE I its a cp xs) (hlab : Sp.itLab its) (hF : ∀ x ∈ its, Sp.ItF x) (hR : ∀ x ∈ its, Sp.ItR x) :
    CalM Tryz.prog 16 #[.agg [.slice a its.length cp].toArray, nt i, .int .i64 at_] I [] (fun v _ H' => ∃ bc da dp, v = ptr bc ∧ H' = RfSt bc a its.length cp i (Sp.checkF its i at_) da dp at_) := by
  refine CalM.of fun w E hm => enter (N := 51) Tryz.func16 rfl [(0, .agg [.slice a its.length cp].toArray), (1, nt i), (2, .int .i64 at_)] args3 rfl ?_
  have hfew := h.few
  have hri := h.row
  have hg := Sp.itNo_get hi
  obtain ⟨ci, hci, hat, hlc⟩ := h.get hg
  have hIt := hF _ (Sp.itNo_mem hi)
  have hIR := hR _ (Sp.itNo_mem hi)
  have hsm := hIt.small
  have hsp := hsm.params
  have hsb := hsm.body
  have hcn := hIt.cnt
  have hsl := Sp.parsF_lab hlab (Sp.itNo_mem hi)
  have hbk := fun (J : Imm) (hC : FE J its a cp xs) (bc bm : Nat) (es : Ents) (hE : EnvF J (Sp.parsF (Sp.itNo its i).params) bm es) ba bc9 xb hrb hbs =>
    rf_blk (i := i) (bc := bc) (a := a) (cp := cp) (xs := xs) (at_ := at_) hlab (fun x hx => (hF x hx).small) hi _ (Sp.itNo its i).body (Nat.le_refl _) (by omega) hsm.stms hIR J ba bc9 xb bm es 0 _ Sp.FW0 none 0 (by omega) hsl (by show 0 + _ ≤ _; omega) hC hE hrb hbs
  have hck : Sp.checkF its i at_ = if (Sp.itNo its i).kind = 2 then (Sp.stmsF its (Sp.itNo its i).label at_ (Sp.itNo its i).body (Sp.parsF (Sp.itNo its i).params) 0 Sp.FW0).2 else Sp.FW0 := rfl
  generalize Sp.checkF its i at_ = fin at hck ⊢
  generalize Sp.itNo its i = it at hg hat hIt hsp hsb hcn hsl hbk hck
  obtain ⟨pa, pc, sa9, sc9, ba, bc9, da9, dc9, xb, rfl, hpar, hsnd, hrb, hbs, _⟩ := hat
  repeat' (first
  | refine wc_hold 2 ?_
  | (refine m_box (d:=3) hm (k:=?_); clear hm; intro b3 _ hm)
  | (refine m_box (d:=15) hm (k:=?_); clear hm; intro b15 _ hm)
  | refine m_loadAll hm (k:=?_)
  | refine op_move (k:=?_)
  | refine op_assign (k:=?_)
  | refine op_struct (k:=?_)
  | refine wl_nil ?_
  | refine at_then_normal ?_
  | refine wc_seq ?_
  | refine wc_region ?_)
  obtain ⟨I0, hle0, hm0, hpf⟩ := (hm.front 1 rfl).freezeO
  clear hm
  have hm := hm0.nil 65 4
  clear hm0
  replace hri := hri.le hle0
  by_cases k2 : it.kind = 2
  · rw [if_pos k2] at hck
    refine ⟨?_⟩
    repeat' (first
    | (refine i_indexAddr (d:=19) (hr:=hri) (k:=?_); intro bt ot hpt; rw [show ((i : Int).toNat * 10) = i * 10 from rfl, hci] at hpt)
    | (refine i_indexAddr (d:=27) (hr:=hri) (k:=?_); intro bu ou hpu; rw [show ((i : Int).toNat * 10) = i * 10 from rfl, hci] at hpu)
    | (refine m_makeMap (d:=23) hm (k:=?_); clear hm; intro bm _ hm)
    | refine i_load1 hm (k:=?_)
    | refine op_move (k:=?_)
    | refine op_assign (k:=?_)
    | refine op_eql (k:=?_)
    | refine op_len_slice (k:=?_)
    | refine op_fieldAddr (k:=?_)
    | refine wl_nil ?_
    | refine at_then_normal ?_
    | refine wc_seq ?_
    | refine wc_region ?_
    | refine wc_block ?_
    | (refine wc_cond_dec (ht:=fun _ => ?_) (hf:=fun _ => ?_)<;> (try first | contradiction | (exfalso; omega))))
    all_goals try (exfalso; omega)
    refine wc_loop (fun x : RfY => [(1, nt i), (2, .int .i64 at_), (3, ptr b3), (7, ptr b15), (8, .map (some bm)), (29, .slice pa it.params.length pc), (30, nt it.params.length), (31, nt x.k)])
      (fun x w' => Mem E I0 (.mp bm x.es :: .row (.slice none 0 0) 65 4 0 [] :: [rfObj b15 a its.length cp i Sp.FW0 none 0 at_]) w' ∧ (x.es.map (·.1)).Nodup ∧ (∀ m, mget x.es m = (Sp.findLc (Sp.parsF (it.params.take x.k)) m).map (fun l => nt l.at_)) ∧ x.k ≤ it.params.length) (fun x => it.params.length - x.k) ⟨0, I0, [], none, 0⟩
      (by exact ⟨rfl, rfl, rfl, rfl, rfl, rfl, rfl, rfl, trivial⟩) ⟨hm, List.nodup_nil, fun m => rfl, Nat.zero_le _⟩ ?_
    clear hm
    rintro ⟨k, _, es1, _, _⟩ w1 ⟨hm, hnd, hget, hk⟩
    dsimp only at hm hnd hget hk ⊢
    have hpar2 := hpar.le hle0
    by_cases hlt : k < it.params.length
    · have hgp : it.params[k]? = some it.params[k] := List.getElem?_eq_getElem hlt
      generalize it.params[k] = p at hgp
      have hst := Sp.parsF_take hgp
      repeat' (first
      | (refine i_indexFlat (d:=33) (enc:=encPar) (z:=p) (hr:=hpar2) (he:=fun _ => rfl) (hz:=by exact hgp) (k:=?_); intro bz oz hpz)
      | (refine i_loadN (d:=34) hm (hp:=hpz) (k:=?_))
      | (refine wl_mapUpdate ?_; refine m_put hm (by rfl) (by rfl) (by rfl) (by rfl) (by rfl) (by first | exact gt0 | exact gt1 | exact gt2 | exact gt3 | exact gt4 | exact gt5 | exact gt6) hnd ?_; clear hm; intro _ hm; try simp only [setn] at hm)
      | (refine m_varS (d:=10) hm (k:=?_); clear hm; intro b10 _ hm)
      | refine m_load1 hm (k:=?_)
      | refine op_move (k:=?_)
      | refine op_lss (k:=?_)
      | refine op_add (k:=?_)
      | refine op_fieldAddr (k:=?_)
      | refine wl_nil ?_
      | refine at_then_normal ?_
      | refine at_block_normal ?_
      | refine wc_seq ?_
      | refine wc_region ?_
      | refine wc_block ?_
      | refine wc_skip ?_
      | (refine wc_cond_dec (ht:=fun _ => ?_) (hf:=fun _ => ?_)<;> (try first | contradiction | (exfalso; omega))))
      all_goals try (exfalso; omega)
      refine at_round (⟨k + 1, I0, mput es1 p.name (nt p.label), none, 0⟩ : RfY) (by exact ⟨rfl, rfl, rfl, rfl, rfl, rfl, rfl, rfl, trivial⟩) ⟨hm.tl, mput_nodup hnd, fun m => ?_, by dsimp only; omega⟩ (by dsimp only; omega)
      dsimp only
      rw [mget_mput m hnd, hst, Sp.findLc_snoc]
      by_cases e : m = p.name
      · subst e; rw [if_pos rfl, if_pos rfl]; rfl
      · rw [if_neg e, if_neg (fun h => e h.symm), hget]
    · obtain rfl : k = it.params.length := by omega
      rw [List.take_length] at hget
      obtain ⟨J, hleJ, hmJ, hmap⟩ := hm.freezeM hnd
      clear hm
      have hm : Mem E J (RfSt b15 a its.length cp i Sp.FW0 none 0 at_) w1 := hmJ.swap
      clear hmJ
      have hc := hbk J ((h.le hle0).le hleJ) b15 bm es1 ⟨hmap, hget⟩ ba bc9 xb ((hrb.le hle0).le hleJ) (StsAt.le hleJ _ _ (StsAt.le hle0 _ _ hbs))
      rw [← hck] at hc
      have hriJ := hri.le hleJ
      replace hpf := hpf.le hleJ
      repeat' (first
      | (refine i_indexAddr (d:=46) (hr:=hriJ) (k:=?_); intro bt ot hpt; rw [show ((i : Int).toNat * 10) = i * 10 from rfl, hci] at hpt)
      | (refine m_call (d:=49) hm (hc:=hc) (k:=?_); clear hm; rintro _ I2 _ _ ⟨rfl, da2, dp2, rfl⟩ hle hm; have hleI2 := hle; try simp only [setn] at hm)
      | refine i_load1 hm (k:=?_)
      | refine op_move (k:=?_)
      | refine op_assign (k:=?_)
      | refine op_lss (k:=?_)
      | refine op_fieldAddr (k:=?_)
      | refine wl_nil ?_
      | refine at_then_normal ?_
      | refine at_then_exit ?_
      | refine at_block_exit ?_
      | refine wc_seq ?_
      | refine wc_region ?_
      | refine wc_exit ?_
      | refine wc_ret ?_
      | refine at_ret1 (h:=?_)
      | (refine wc_cond_dec (ht:=fun _ => ?_) (hf:=fun _ => ?_)<;> (try first | contradiction | (exfalso; omega))))
      all_goals try (exfalso; omega)
      exact ⟨I2, _, ⟨_, _, _, rfl, rfl⟩, hm.left (H := RfSt b15 a its.length cp i fin da2 dp2 at_)⟩
  · rw [if_neg k2] at hck
    subst hck
    refine ⟨?_⟩
    repeat' (first
    | (refine i_indexAddr (d:=19) (hr:=hri) (k:=?_); intro bt ot hpt; rw [show ((i : Int).toNat * 10) = i * 10 from rfl, hci] at hpt)
    | refine i_load1 hm (k:=?_)
    | refine op_move (k:=?_)
    | refine op_assign (k:=?_)
    | refine op_eql (k:=?_)
    | refine op_fieldAddr (k:=?_)
    | refine wl_nil ?_
    | refine at_then_normal ?_
    | refine wc_seq ?_
    | refine wc_region ?_
    | refine wc_skip ?_
    | refine wc_ret ?_
    | refine at_ret1 (h:=?_)
    | (refine wc_cond_dec (ht:=fun _ => ?_) (hf:=fun _ => ?_)<;> (try first | contradiction | (exfalso; omega))))
    all_goals try (exfalso; omega)
    exact ⟨I0, _, ⟨_, none, 0, rfl, rfl⟩, hm.swap⟩
theorem RfSt_freeze {E : Ent} {I : Imm} {w : World} {bc n i : Nat} {s : Sp.FW} {da : Option Addr} {dp : Nat} {at_ : Int} (hm : Mem E I (RfSt bc a n cp i s da dp at_) w) :
    ∃ J, Le I J ∧ Mem E J [] w ∧ PtrI J bc 0 48 [.slice a n cp, nt i, .slice da s.ds.length dp, .int .i64 at_, .bool s.hv.isSome, nt (s.hv.getD 0)] ∧ RowI J 65 4 (.slice da s.ds.length dp) s.ds.length (s.ds.flatMap encDg) := by
  obtain ⟨I1, h1, m1, hp⟩ := hm.freezeO
  obtain ⟨I2, h2, m2, hd⟩ := m1.freeze
  exact ⟨I2, h1.trans h2, m2, hp.le h2, hd⟩
/-- the same, written no more. -/
theorem rf_look (i : Nat) (hi : i < its.length) (at_ : Int) (I : Imm) (h : FE I its a cp xs) (hlab : Sp.itLab its) (hF : ∀ x ∈ its, Sp.ItF x) (hR : ∀ x ∈ its, Sp.ItR x) :
    CalM Tryz.prog 16 #[.agg [.slice a its.length cp].toArray, nt i, .int .i64 at_] I [] (fun v J H' => H' = [] ∧ ∃ bc da dp, v = ptr bc ∧ PtrI J bc 0 48 [.slice a its.length cp, nt i, .slice da (Sp.checkF its i at_).ds.length dp, .int .i64 at_, .bool (Sp.checkF its i at_).hv.isSome, nt ((Sp.checkF its i at_).hv.getD 0)] ∧
      RowI J 65 4 (.slice da (Sp.checkF its i at_).ds.length dp) (Sp.checkF its i at_).ds.length ((Sp.checkF its i at_).ds.flatMap encDg)) := by
  refine CalM.of fun w E hm => ?_
  refine ⟨?_⟩
  have hc := (rf_secrets i hi at_ I h hlab hF hR).run w (Mem.sub (R := []) (by simpa using hm))
  refine (hc.mono fun v w' ⟨J, H', ⟨bc, da, dp, e1, e2⟩, hm'⟩ => ?_).run
  subst e2
  have hm2 := Mem.back (R := []) (by simpa using hm) hm'
  obtain ⟨J2, hle, hmJ, hp, hr⟩ := RfSt_freeze (by simpa using hm2)
  exact ⟨J2, [], ⟨rfl, bc, da, dp, e1, hp, hr⟩, hmJ⟩
end
end Go.Proofs.YtkbiakajlfmakaaGreatDoor
end
section
namespace Go.Sp
theorem floors_get {its : List Itm} {k : Nat} (h : k < its.length) : (floorsF its)[k]? = some (meetF its (itNo its k).sends) := by
  rw [floorsF, List.getElem?_map, List.getElem?_eq_getElem h, itNo, List.getD_eq_getElem?_getD, List.getElem?_eq_getElem h]; rfl
end Go.Sp
namespace Go.Proofs.YtkbiakajlfmakaaGreatDoor
open Go.Fw
structure RfZ where
  k : Nat
  I : Imm
  b : Bool
section
variable {its : List Sp.Itm} {a : Option Addr} {cp : Nat} {xs : List Value}
theorem f_labelLow (i : Nat) (at_ : Int) (h0 : at_ < 0) (I : Imm) (hi : i < its.length) (h : FE I its a cp xs) :
    CalM Tryz.prog 19 #[.agg [.slice a its.length cp].toArray, nt i, .int .i64 at_] I [] (fun v _ H' => v = .tuple #[nt 0, .bool false] ∧ H' = []) := by
  refine CalM.of fun w E hm => enter (N := 33) Tryz.func19 rfl [(0, .agg [.slice a its.length cp].toArray), (1, nt i), (2, .int .i64 at_)] args3 rfl ?_
  have hfew := h.few
  repeat' (first
  | (refine m_box (d:=3) hm (k:=?_); clear hm; intro b3 _ hm)
  | refine m_load1 hm (k:=?_)
  | refine op_move (k:=?_)
  | refine op_assign (k:=?_)
  | refine op_pick_false (k:=?_)
  | refine op_lss (k:=?_)
  | refine op_geq (k:=?_)
  | refine op_len_slice (k:=?_)
  | refine op_fieldAddr (k:=?_)
  | (refine wl_split_dec (h1:=fun _ => ?_) (h0:=fun _ => ?_)<;> (try first | contradiction | (exfalso; omega)))
  | refine wl_nil ?_
  | refine at_then_normal ?_
  | refine at_then_ret ?_
  | refine wc_seq ?_
  | refine wc_region ?_
  | refine wc_ret ?_
  | refine at_ret2 (h:=?_)
  | (refine wc_cond_dec (ht:=fun _ => ?_) (hf:=fun _ => ?_)<;> (try first | contradiction | (exfalso; omega))))
  all_goals try (exfalso; omega)
  all_goals exact ⟨I, [], ⟨rfl, rfl⟩, hm.left (H := [])⟩
theorem f_labelAny (i : Nat) (hi : i < its.length) (at_ : Int) (I : Imm) (h : FE I its a cp xs) (hlab : Sp.itLab its) (hF : ∀ x ∈ its, Sp.ItF x) :
    CalM Tryz.prog 19 #[.agg [.slice a its.length cp].toArray, nt i, .int .i64 at_] I [] (fun v _ H' => v = .tuple #[nt ((Sp.checkF its i at_).hv.getD 0), .bool (Sp.checkF its i at_).hv.isSome] ∧ H' = []) := by
  by_cases h0 : 0 ≤ at_
  · exact f_label i hi at_ h0 I h hlab hF
  · rw [Sp.checkF_low its i (by omega)]
    exact f_labelLow i at_ (by omega) I hi h
end
set_option maxHeartbeats 32000000 in
theorem sp_ftells (s : List UInt8) (at_ : Int) (hs : s.length ≤ 9223372036854775807) (I : Imm) (hC : Conv I) :
    CalM Tryz.prog 4 #[str s, .int .i64 at_] I [] (fun v _ H' => v = .bool true ∧ H' = []) := by
  refine CalM.of fun w E hm => enter (N := 97) Tryz.func4 rfl [(0, str s), (1, .int .i64 at_)] args2 rfl ?_
  have hF := p_file s I hC hs
  obtain ⟨g1, g2⟩ := Sp.file_itF s
  have g3 := Sp.file_itR s
  have few1 := Sp.file_few s
  generalize Sp.fileErr s = er at hF
  generalize Sp.fileItems s = its at hF g1 g2 g3 few1
  by_cases h0 : er ≠ 0
  · skip
    repeat' (first
    | (refine m_call (d:=15) hm (hc:=hF) (k:=?_); clear hm; rintro _ I2 _ _ ⟨a, cp, xs, rfl, hrow, hits, rfl⟩ hle hm; have hleI2 := hle; try simp only [setn] at hm)
    | (refine m_varS (d:=5) hm (k:=?_); clear hm; intro b5 _ hm)
    | refine op_move (k:=?_)
    | refine op_assign (k:=?_)
    | refine op_neq (k:=?_)
    | refine op_extract (k:=?_)
    | refine wl_nil ?_
    | refine at_then_normal ?_
    | refine at_then_ret ?_
    | refine wc_seq ?_
    | refine wc_region ?_
    | refine wc_ret ?_
    | refine at_ret1 (h:=?_)
    | (refine wc_cond_dec (ht:=fun _ => ?_) (hf:=fun _ => ?_)<;> (try first | contradiction | (exfalso; omega))))
    all_goals try (exfalso; first | omega | contradiction)
    all_goals exact ⟨I2, [], ⟨rfl, rfl⟩, hm.left (H := [])⟩
  obtain rfl : er = 0 := by omega
  repeat' (first
  | (refine m_call (d:=15) hm (hc:=hF) (k:=?_); clear hm; rintro _ I2 _ _ ⟨a, cp, xs, rfl, hrow, hits, rfl⟩ hle hm; have hleI2 := hle; try simp only [setn] at hm)
  | refine wc_hold 4 ?_
  | (refine m_varS (d:=5) hm (k:=?_); clear hm; intro b5 _ hm)
  | refine op_move (k:=?_)
  | refine op_assign (k:=?_)
  | refine op_neq (k:=?_)
  | refine op_extract (k:=?_)
  | refine wl_nil ?_
  | refine at_then_normal ?_
  | refine wc_seq ?_
  | refine wc_region ?_
  | refine wc_skip ?_
  | refine wc_cond_false (hf:=?_))
  all_goals try (exfalso; first | omega | contradiction)
  have q1 : FE I2 its a cp xs := fe_of hrow hits (by omega)
  obtain ⟨I3, hle3, hm3, hpf⟩ := hm.freezeO
  clear hm
  have hm := hm3
  clear hm3
  have q3 := q1.le hle3
  have hfl := f_floors I3 q3 g2 (fun x hx => (g1 x hx).small)
  refine ⟨?_⟩
  repeat' (first
  | (refine m_call (d:=21) hm (hc:=hfl) (k:=?_); clear hm; rintro _ I4 _ _ ⟨rfl, fa, fp, rfl, hflr⟩ hle hm; have hleI4 := hle; try simp only [setn] at hm; replace hpf := hpf.le hleI4)
  | refine i_load1 hm (k:=?_)
  | refine i_loadN hm (k:=?_)
  | refine op_move (k:=?_)
  | refine op_assign (k:=?_)
  | refine op_neq (k:=?_)
  | refine op_len_slice (k:=?_)
  | refine op_fieldAddr (k:=?_)
  | refine wl_nil ?_
  | refine at_then_normal ?_
  | refine wc_seq ?_
  | refine wc_region ?_
  | refine wc_block ?_
  | refine wc_skip ?_
  | (refine wc_cond_dec (ht:=fun _ => ?_) (hf:=fun _ => ?_)<;> (try first | contradiction | (exfalso; omega))))
  all_goals try (exfalso; first | omega | contradiction)
  refine wc_loop (fun x : RfZ => [(1, .int .i64 at_), (5, ptr b5), (7, .slice fa its.length fp), (8, .bool x.b), (30, nt its.length), (31, nt x.k)])
    (fun x w' => Mem E x.I [] w' ∧ Le I4 x.I ∧ x.k ≤ its.length ∧ (x.b = true ↔ ∀ j, j < x.k → (Sp.checkF its j (-1)).ds = [])) (fun x => its.length - x.k) ⟨0, I4, true⟩
    (by exact ⟨rfl, rfl, rfl, rfl, rfl, rfl, trivial⟩) ⟨hm, Le.refl _, Nat.zero_le _, by simp⟩ ?_
  clear hm
  rintro ⟨k, I5, b⟩ w1 ⟨hm, hle5, hk, hb⟩
  dsimp only at hm hle5 hk hb ⊢
  have q5 := (q3.le hleI4).le hle5
  have hpf5 := hpf.le hle5
  have hfl5 := hflr.le hle5
  by_cases hlt : k < its.length
  · have hg := Sp.floors_get hlt
    have hmf := fun (J : Imm) (m : Le I5 J) => rf_floor J (q5.le m) g2 (fun x hx => (g1 x hx).small) k hlt
    generalize Sp.meetF its (Sp.itNo its k).sends = fl at hg hmf
    have hl1 := fun (J : Imm) (m : Le I5 J) => rf_look k hlt (-1) J (q5.le m) g2 g1 g3
    have hl2 := fun (J : Imm) (m : Le I5 J) => rf_look k hlt at_ J (q5.le m) g2 g1 g3
    have hd := fun (J : Imm) (m : Le I5 J) => f_diags k hlt J (q5.le m) g2 g1
    have hlb := fun (J : Imm) (m : Le I5 J) => f_labelAny k hlt at_ J (q5.le m) g2 g1
    have hlow := Sp.checkF_low its k (show (-1 : Int) < 0 by omega)
    have hlo2 := fun (h : at_ < 0) => Sp.checkF_low its k h
    have hcnt : (Sp.checkF its k (-1)).ds.length ≤ 1099511627776 := by
      have hIt := g1 _ (Sp.itNo_mem hlt)
      have hcn := hIt.cnt
      rw [Sp.checkF]; split
      · have := (Sp.stmsF_n its (Sp.itNo its k).label (-1) (Sp.itNo its k).body (Sp.parsF (Sp.itNo its k).params) 0 Sp.FW0).2.1
        have e : Sp.FW0.ds.length = 0 := rfl
        omega
      · exact Nat.zero_le _
    have hnext : ∀ b', (b' = true ↔ b = true ∧ (Sp.checkF its k (-1)).ds = []) → (b' = true ↔ ∀ j, j < k + 1 → (Sp.checkF its j (-1)).ds = []) := fun b' h => by
      rw [h, hb]
      constructor
      · rintro ⟨h1, h2⟩ j hj
        rcases Nat.lt_or_ge j k with hjk | hjk
        · exact h1 j hjk
        · obtain rfl : j = k := by omega
          exact h2
      · exact fun h1 => ⟨fun j hj => h1 j (by omega), h1 k (by omega)⟩
    generalize Sp.checkF its k (-1) = r1 at hl1 hd hlow hcnt hnext
    generalize Sp.checkF its k at_ = r2 at hl2 hlb hlo2
    have hnn : decide (((fl : Nat) : Int) ≠ ((fl : Nat) : Int)) = false := by simp
    have hgz : (Sp.floorsF its)[((k : Nat) : Int).toNat]? = some fl := hg
    repeat' (first
    | (refine m_call (d:=36) hm (hc:=hl1 I5 (Le.refl _)) (k:=?_); clear hm; rintro _ I6 _ _ ⟨rfl, bc, da, dp, rfl, hpo, hrd⟩ hle hm; have hleI6 := hle; try simp only [setn] at hm; have hpf6 := hpf5.le hleI6)
    | refine wc_hold 12 ?_
    | refine i_loadN hm (k:=?_)
    | refine op_move (k:=?_)
    | refine op_assign (k:=?_)
    | refine op_lss (k:=?_)
    | refine wl_nil ?_
    | refine at_then_normal ?_
    | refine wc_seq ?_
    | refine wc_region ?_
    | refine wc_block ?_
    | refine wc_skip ?_
    | (refine wc_cond_dec (ht:=fun _ => ?_) (hf:=fun _ => ?_)<;> (try first | contradiction | (exfalso; omega))))
    all_goals try (exfalso; first | omega | contradiction)
    have hfl6 := hfl5.le hleI6
    obtain ⟨b2, hb2⟩ : ∃ b2 : Bool, b2 = (b && decide ((r1.ds.length : Int) = 0)) := ⟨_, rfl⟩
    have hb3 : b2 = true ↔ b = true ∧ r1.ds = [] := by
      rw [hb2, Bool.and_eq_true, decide_eq_true_eq]
      constructor
      · rintro ⟨h1, h2⟩; exact ⟨h1, List.length_eq_zero_iff.1 (by omega)⟩
      · rintro ⟨h1, h2⟩; exact ⟨h1, by rw [h2]; rfl⟩
    refine ⟨?_⟩
    refine wc_mid 12 (fun _ : Unit => [(1, .int .i64 at_), (5, ptr b5), (7, .slice fa its.length fp), (8, .bool b2), (9, nt k), (10, ptr bc), (30, nt its.length), (31, nt k)]) (fun _ w' => Mem E I6 [] w') ?_ ?_
    · clear hnext hb hb3
      cases b with
      | true =>
        rw [Bool.true_and] at hb2
        subst hb2
        repeat' (first
        | refine i_load1 hm (k:=?_)
        | refine op_move (k:=?_)
        | refine op_assign (k:=?_)
        | refine op_pick_true (k:=?_)
        | refine op_eql (k:=?_)
        | refine op_len_slice (k:=?_)
        | refine op_nilCheck (k:=?_)
        | refine op_fieldAddr (k:=?_)
        | refine wl_nil ?_)
        all_goals try (exfalso; first | omega | contradiction)
        exact at_cut () (by exact ⟨rfl, rfl, rfl, rfl, rfl, rfl, rfl, rfl, trivial⟩) hm
      | false =>
        rw [Bool.false_and] at hb2
        subst hb2
        repeat' (first
        | refine op_move (k:=?_)
        | refine op_assign (k:=?_)
        | refine op_pick_false (k:=?_)
        | refine wl_skip (k:=?_)
        | refine wl_nil ?_)
        all_goals try (exfalso; first | omega | contradiction)
        exact at_cut () (by exact ⟨rfl, rfl, rfl, rfl, rfl, rfl, rfl, rfl, trivial⟩) hm
    · clear hm
      intro _ w2 hm
      try dsimp only at hm ⊢
      repeat' (first
      | (refine wc_mix_mem (id:=13) (hm.perm pm0) [([0,1,2,3,4,5],[6,7,8]),([9,10,12,13,14,15],[11,16,17])] 18 (h:=?_); clear hm; intro wd hR hm)
      | (refine iw_indexFlat (d:=48) (enc:=encInt) (z:=fl) (hr:=hfl6) (he:=fun _ => rfl) (hz:=hgz) (k:=?_); intro bt ot hpt)
      | (refine iw_load1 (j:=0) (d:=49) hR (hp:=hpt) (k:=?_))
      | (refine iw_loadN (d:=50) hR (hp:=hpf6) (k:=?_))
      | (refine iw_loadN (d:=55) hR (hp:=hpf6) (k:=?_))
      | (refine mt_readR (d:=52) hR hm (hc:=hmf I6 hleI6) (k:=?_); clear hm; intro _ hm)
      | (refine s_neq (d := 53) hm.kept (by rfl) (by rfl) (by rfl) (by rfl) ?_; rw [hnn])
      | (refine mt_call (d:=57) hm (hc:=hd I6 hleI6) (k:=?_); clear hm; rintro _ I7 _ _ ⟨rfl, da2, dp2, rfl, hrd2⟩ hle hm; have hleI7 := hle; try simp only [setn] at hm)
      | (refine mt_call (d:=62) hm (hc:=(r_same hrd2 (hrd.le hleI7) (by omega))) (k:=?_); clear hm; rintro _ I8 _ _ ⟨rfl, rfl⟩ hle hm; have hleI8 := hle; try simp only [setn] at hm)
      | refine wc_hold 15 ?_
      | refine iw_load1 hR (k:=?_)
      | refine wx_cons ?_
      | refine wv_nilX ?_
      | refine ws_nil ?_
      | refine at_X ?_
      | (refine wx_nil ?_; replace hm := hR.back hm; clear hR; try simp only [setn] at hm)
      | refine s_move hm.kept (by rfl) (by rfl) (by rfl) ?_
      | refine s_not hm.kept (by rfl) (by rfl) (by rfl) ?_
      | refine op_pick_false (k:=?_)
      | refine wl_nil ?_
      | refine at_then_normal ?_
      | refine wc_seq ?_
      | refine wc_skip ?_
      | refine wc_cond_false (hf:=?_)
      | refine v_move (k:=?_)
      | refine v_nilCheck (k:=?_)
      | refine v_fieldAddr (k:=?_))
      all_goals try (exfalso; first | omega | contradiction)
      have hpf8 := (hpf6.le hleI7).le hleI8
      have hle8 : Le I5 I8 := (hleI6.trans hleI7).trans hleI8
      refine ⟨?_⟩
      by_cases hat : 0 ≤ at_
      · skip
        repeat' (first
        | (refine m_call (d:=69) hm (hc:=hlb I8 hle8) (k:=?_); clear hm; rintro _ I9 _ _ ⟨rfl, rfl⟩ hle hm; have hleI9 := hle; try simp only [setn] at hm; have hpf9 := hpf8.le hleI9)
        | (refine m_call (d:=77) hm (hc:=hl2 I9 (hle8.trans hleI9)) (k:=?_); clear hm; rintro _ Ia _ _ ⟨rfl, bc2, da3, dp3, rfl, hpo2, hrd3⟩ hle hm; have hleIa := hle; try simp only [setn] at hm)
        | refine i_load1 hm (k:=?_)
        | refine i_loadN hm (k:=?_)
        | refine op_move (k:=?_)
        | refine op_assign (k:=?_)
        | refine op_pick_false (k:=?_)
        | refine op_geq (k:=?_)
        | refine op_neq (k:=?_)
        | refine op_neq_bool (k:=?_)
        | refine op_extract (k:=?_)
        | refine op_nilCheck (k:=?_)
        | refine op_add (k:=?_)
        | refine op_fieldAddr (k:=?_)
        | (refine wl_split_dec (h1:=fun _ => ?_) (h0:=fun _ => ?_)<;> (try first | contradiction | (exfalso; omega)))
        | refine wl_nil ?_
        | refine at_then_normal ?_
        | refine at_block_normal ?_
        | refine wc_seq ?_
        | refine wc_region ?_
        | refine wc_skip ?_
        | (refine wc_cond_dec (ht:=fun _ => ?_) (hf:=fun _ => ?_)<;> (try first | contradiction | (exfalso; omega))))
        all_goals try (exfalso; first | omega | contradiction)
        exact at_round (⟨k + 1, Ia, b2⟩ : RfZ) (by exact ⟨rfl, rfl, rfl, rfl, rfl, rfl, trivial⟩) ⟨hm, ((hle5.trans hle8).trans hleI9).trans hleIa, by dsimp only; omega, hnext b2 hb3⟩ (by dsimp only; omega)
      · rw [hlo2 (by omega)] at hlb
        rw [hlow] at hpo
        have hpo8 := (hpo.le hleI7).le hleI8
        repeat' (first
        | (refine m_call (d:=69) hm (hc:=hlb I8 hle8) (k:=?_); clear hm; rintro _ I9 _ _ ⟨rfl, rfl⟩ hle hm; have hleI9 := hle; try simp only [setn] at hm; have hpo9 := hpo8.le hleI9)
        | refine i_load1 hm (k:=?_)
        | refine i_loadN hm (k:=?_)
        | refine op_move (k:=?_)
        | refine op_assign (k:=?_)
        | refine op_pick_false (k:=?_)
        | refine op_geq (k:=?_)
        | refine op_neq (k:=?_)
        | refine op_neq_bool (k:=?_)
        | refine op_extract (k:=?_)
        | refine op_nilCheck (k:=?_)
        | refine op_add (k:=?_)
        | refine op_fieldAddr (k:=?_)
        | refine wl_nil ?_
        | refine at_then_normal ?_
        | refine at_block_normal ?_
        | refine wc_seq ?_
        | refine wc_region ?_
        | refine wc_skip ?_
        | refine wc_cond_false (hf:=?_)
        | (refine wc_cond_dec (ht:=fun _ => ?_) (hf:=fun _ => ?_)<;> (try first | contradiction | (exfalso; omega))))
        all_goals try (exfalso; first | omega | contradiction)
        exact at_round (⟨k + 1, I9, b2⟩ : RfZ) (by exact ⟨rfl, rfl, rfl, rfl, rfl, rfl, trivial⟩) ⟨hm, (hle5.trans hle8).trans hleI9, by dsimp only; omega, hnext b2 hb3⟩ (by dsimp only; omega)
  · obtain rfl : k = its.length := by omega
    have hsd := f_sound I5 q5 g2 g1
    repeat' (first
    | (refine m_call (d:=94) hm (hc:=hsd) (k:=?_); clear hm; rintro _ I6 _ _ ⟨rfl, b2, rfl, hb2⟩ hle hm; have hleI6 := hle; try simp only [setn] at hm)
    | refine i_loadN hm (k:=?_)
    | refine op_move (k:=?_)
    | refine op_assign (k:=?_)
    | refine op_lss (k:=?_)
    | refine op_eql_bool (k:=?_)
    | refine wl_nil ?_
    | refine at_then_normal ?_
    | refine at_then_exit ?_
    | refine at_block_exit ?_
    | refine wc_seq ?_
    | refine wc_region ?_
    | refine wc_exit ?_
    | refine wc_ret ?_
    | refine at_ret1 (h:=?_)
    | (refine wc_cond_dec (ht:=fun _ => ?_) (hf:=fun _ => ?_)<;> (try first | contradiction | (exfalso; omega))))
    all_goals try (exfalso; first | omega | contradiction)
    have e : b2 = b := by
      rw [Bool.eq_iff_iff, hb2, hb]; exact Iff.rfl
    exact ⟨I6, [], ⟨by rw [e]; simp, rfl⟩, hm.left (H := [])⟩
end Go.Proofs.YtkbiakajlfmakaaGreatDoor
end
section
namespace Go.Proofs.YtkbiakajlfmakaaGreatDoor.flowTellsTop
open Go.ChangeShapes Go.WideShapes Go.ChangeAt Go.RowKit
open Go.Fw (Kept Cal str Ret)
open Go.ChangeMaps (open_string shut_string)

set_option maxRecDepth 100000 in
theorem contract (H : Type) (enc : TypeId × Value → H) (W : World) (base : Nat) (args : Array Value) (ds gs : List (DataW H)) (before : List MemPlace)
    (hval : ∀ (j : Nat) t v, Tryz.f4.params[j]? = some t → args[j]? = some v → Value.okWide Tryz.prog W .any base t v)
    (hW : DataW.Whole enc Tryz.prog Tryz.f4.params.toList Rows.flowTellsSpec.vars false W args.toList ds gs before) (hk : Rows.uptoSmall H (ds ++ gs) = true) (hL : laidMetH Tryz.prog Rows.flowTellsUptoRow.laid W) :
    Calls Tryz.prog 4 args W fun e W' => ∃ v, e = .returned v ∧ Rows.flowTellsSpec.post enc Tryz.prog Tryz.f4 false true false false W args v W' := by
  have hC := conv_of hL (by kernel_rfl) (by kernel_rfl)
  clear hL
  have hW' := hW
  obtain ⟨p, q, hA0, hV, rfl, hfz, hnd⟩ := hW
  have hA : DataW.TrodAll enc Tryz.prog W 0 (fun _ => true) true Tryz.f4.params.toList args.toList ds p := hA0
  rw [Tryz.params4] at hA hval
  obtain ⟨v0, vs0, d0, ds0, p0, q0, hargs, rfl, rfl, h0, r0⟩ := trodAll_cons hA
  obtain ⟨v1, vs1, d1, ds1, p1, q1, hx1, rfl, rfl, h1, r1⟩ := trodAll_cons r0
  obtain ⟨rfl, rfl, rfl⟩ := trodAll_nil r1
  obtain rfl : args = #[v0, v1] := by cases args; simp_all
  obtain ⟨rfl, rfl⟩ := trodVars_none hV
  obtain ⟨s0, rfl, rfl, rfl, hm0⟩ := open_string Tryz.underlying9 (hval 0 9 v0 rfl rfl) h0
  obtain ⟨s1, rfl, rfl, rfl, hm1⟩ := open_int Tryz.underlying3 (hval 1 3 v1 rfl rfl) h1
  clear hA0
  simp only [List.append_nil] at hW' hk
  have hb0 : s0.data.toList.length ≤ 1048576 := bulk_str hk (by simp)
  refine ((run_kept (sp_ftells s0.data.toList s1 (by omega) (Go.Fw.immOf W) hC)).run).mono fun e W' he => ?_
  cases e
  case returned v =>
    obtain ⟨rfl, hg⟩ := he
    refine ⟨_, rfl, post_kept (pa := []) (pv := []) hW' (fun _ _ _ => trodAll_cons_mk (shut_bool Tryz.underlying4 _) trodAll_mk0) (fun _ _ => ?_) (fun _ _ => rfl) hg⟩
    exact trodAll_cons_mk (shut_string Tryz.underlying9 hm0) (trodAll_cons_mk (shut_int Tryz.underlying3 hm1) trodAll_mk0)
  all_goals exact he.elim

/-- A world for the witness: the settled one, the listed variables holding what they are laid with. -/
noncomputable def laidWorld (os : Os) : World := World.laidAll Tryz.prog os Rows.flowTellsUptoRow.laid
theorem laid_met (os : Os) : laidMet Tryz.prog Rows.flowTellsUptoRow.laid ((laidWorld os).forCall (fun _ _ => 0) ⟨#[], #[.string .empty, .int .i64 0], []⟩).memory :=
  laidMet_laidAll _ (by kernel_rfl) (by kernel_rfl)
theorem reads (os : Os) {H : Type} (enc : TypeId × Value → H) : ∃ places, DataW.whole enc Tryz.prog ((laidWorld os).forCall (fun _ _ => 0) ⟨#[], #[.string .empty, .int .i64 0], []⟩).memory Tryz.f4.params.toList Rows.flowTellsSpec.vars false (#[.string .empty, .int .i64 0] : Array Value).toList 8 = some ([.lit (.string []), .lit (.int .i64 0)], [], places) :=
  ⟨[], by kernel_rfl⟩

set_option maxRecDepth 100000 in
theorem lifted (os : Os) (started : os.Started) (H : Type) (enc : TypeId × Value → H) (F : Stop.Interp) :
    ReturnsInHanded {} Tryz.checked os 4 .any ((Rows.OpenSpec.upto Rows.flowTellsSpec).preRow enc Tryz.prog Tryz.f4 Rows.flowTellsUptoRow.domain false Rows.flowTellsUptoRow.laid) (((Rows.OpenSpec.upto Rows.flowTellsSpec).at F).post enc Tryz.prog Tryz.f4 false true false false) := by
  obtain ⟨places, hx⟩ := reads os enc
  refine returnsInHanded_of_row (C := Tryz.checked) (s := Rows.OpenSpec.upto Rows.flowTellsSpec) ownKnobNone started (by kernel_rfl) Tryz.func4
    (witness_row_at (enc := enc) (C := Tryz.checked) false (laidWorld os) #[.string .empty, .int .i64 0] (World.laidAll_os _ _ _) (by kernel_rfl) (by kernel_rfl) (by kernel_rfl)
      (OpenSpec.preRow_of_cond 8 hx (by kernel_rfl) (fun k hk => by cases hk; kernel_rfl) (by kernel_rfl) (laid_met os))) ?_
  intro W base args ds gs before hval hW _ hcond _ hL _ _
  exact contract H enc W base args ds gs before hval hW (hcond _ rfl) hL

theorem said : Rows.FlowTellsUptoSaid :=
  OpenClaim.holds_of_cond 4 Tryz.f4 rfl rfl rfl rfl rfl rfl rfl ⟨rfl, rfl, rfl, rfl, rfl⟩ rfl rfl rfl rfl rfl (by kernel_rfl) Tryz.func4 (by kernel_rfl)
    (of_decide_eq_true (by kernel_rfl)) (by unfold Func.isWrapper; first | (rw [if_pos (by decide +kernel)]; kernel_rfl) | (rw [if_neg (by decide +kernel)]; exact ⟨rfl, rfl⟩))
    (fun os started H enc _ F => by rw [OpenClaim.pre_eq_preRow]; exact lifted os started H enc F)

theorem plain (f : FuncId) (fn : Func) (hf : Tryz.pinned.checked.prog.funcNamed "undertone/underlaw6.FlowTells" = some f) (hfn : Tryz.pinned.checked.prog.funcs[f]? = some fn) :
    true = Tryz.pinned.checked.prog.looks [] ∧ ∀ (j : Nat) t, fn.params[j]? = some t → Tryz.pinned.checked.prog.wantsStandIn t = false := by
  obtain rfl : f = 4 := Option.some.inj ((show Tryz.prog.funcNamed "undertone/underlaw6.FlowTells" = some 4 by kernel_rfl).symm.trans hf) |>.symm
  obtain rfl : fn = Tryz.f4 := (Option.some.inj (Tryz.func4.symm.trans hfn)).symm
  refine ⟨by kernel_rfl, fun j t ht => ?_⟩
  rw [Tryz.params4] at ht
  have hm := Array.mem_of_getElem? ht
  simp only [List.mem_toArray, List.mem_cons, List.not_mem_nil, or_false] at hm
  rcases hm with rfl | rfl
  · exact (show Tryz.prog.wantsStandIn 9 = false by kernel_rfl)
  · exact (show Tryz.prog.wantsStandIn 3 = false by kernel_rfl)

theorem proved : Rows.FlowTellsUptoCardSaid :=
  Claim7.holds_tied_plain_at .later [] _ _ _ _ said (fun _ h => by cases h) (by kernel_rfl) (fun _ h => by cases h) flowTellsUpto_row_tie rfl ⟨rfl, rfl⟩ (by kernel_rfl) rfl plain (by kernel_rfl)
end Go.Proofs.YtkbiakajlfmakaaGreatDoor.flowTellsTop
end
