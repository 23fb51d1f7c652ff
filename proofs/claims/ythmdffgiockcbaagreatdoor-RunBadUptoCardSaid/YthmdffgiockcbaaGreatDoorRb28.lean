/- Own work: texts EfA, EfB, one behind the other. -/
import Derived.Test.YthmdffgiockcbaaGreatDoorRb27
section
namespace Go.Fw
theorem flatS_ins {l : List (List UInt8)} {k : Nat} {s : List UInt8} : ((l.take k ++ s :: l.drop k).flatMap encS) = (l.flatMap encS).take k ++ str s :: (l.flatMap encS).drop k := by
  rw [flat_one, flat_one, List.map_append, List.map_cons, List.map_take, List.map_drop]
theorem pmEf {x y z : HItem} : [x, y, z].Perm [y, z, x] := List.perm_append_comm (l₁ := [x]) (l₂ := [y, z])
theorem flatS_one (l : List (List UInt8)) : (l.flatMap encS).all (·.oneCell') = true := by
  induction l with
  | nil => rfl
  | cons p l ih => rw [List.flatMap_cons, List.all_append, ih]; rfl
end Go.Fw
namespace Go.Proofs.YthmdffgiockcbaaGreatDoor
open Go.Fw
abbrev strRow (l : List (List UInt8)) (a : Option Addr) (cp : Nat) : HItem := .row (.slice a l.length cp) 9 1 l.length (l.flatMap encS)
abbrev ToNm (l : List (List UInt8)) : Value → Imm → List HItem → Prop := fun v _ H' => ∃ a cp, v = .slice a l.length cp ∧ H' = [strRow l a cp]
theorem e_search (I : Imm) (l : List (List UInt8)) (a : Option Addr) (cp : Nat) (s : List UInt8) (hs : Sp.Srt l) (hn : l.length ≤ 1000000000) :
    CalR Tryz.prog 169 #[.slice a l.length cp, str s] I [strRow l a cp] (.tuple #[nt (posE l s), .bool (decide (s ∈ l))]) :=
  m_search Tryz.laysNm226 s hs (by omega)
theorem e_insert (I : Imm) (l : List (List UInt8)) (a : Option Addr) (cp vb : Nat) (s : List UInt8) (hs : Sp.Srt l) (hn : l.length ≤ 1000000000) (hm : s ∉ l) :
    CalM Tryz.prog 170 #[.slice a l.length cp, nt (posE l s), .slice (some ⟨vb, 0, none⟩) 1 1] I [strRow l a cp, .row (.slice (some ⟨vb, 0, none⟩) 1 1) 9 1 1 [str s]] (ToNm (Sp.insT s l)) := by
  obtain ⟨h1, h2, h3⟩ := pos_spec (s := s) hs
  have h := m_insert Tryz.laysNm222 (I := I) (ty := 9) rfl (n := l.length) (k := posE l s) (vb := vb) (cp := cp) (a := a) (xs := l.flatMap encS) s h3 (by omega) (flatS_one l)
  refine h.mono (fun v J H' _ hp => ?_)
  obtain ⟨a', cp', rfl, rfl⟩ := hp
  have e := Sp.insT_at h3 (fun j x hj hx => h1 j x hj hx) (fun x hx => h2 _ x (Nat.le_refl _) hx)
  refine ⟨a', cp', by rw [Sp.insT_len], ?_⟩
  rw [← flatS_ins, ← e]
  show _ = [HItem.row (.slice a' (Sp.insT s l).length cp') _ 1 (Sp.insT s l).length _]
  rw [Sp.insT_len]
set_option maxHeartbeats 4000000 in
theorem e_add (I : Imm) (l : List (List UInt8)) (a : Option Addr) (cp : Nat) (s : List UInt8) (hs : Sp.Srt l) (hn : l.length ≤ 1000000000) :
    CalM Tryz.prog 136 #[.slice a l.length cp, str s] I [strRow l a cp] (ToNm (Sp.addE l s)) := by
  refine CalM.of fun w E hm => enter (N := 24) Tryz.func136 rfl [(0, .slice a l.length cp), (1, str s)] args2 rfl ?_
  have hS := e_search I l a cp s hs hn
  by_cases h0 : s = [] ∨ s ∈ l
  · rw [Sp.addE_same h0]
    by_cases hm1 : s ∈ l
    · rw [decide_eq_true hm1] at hS
      repeat' (first|(refine m_readC (d:=10) hm (hc:=hS) (k:=?_); clear hm; intro _ hm)|refine op_move (k:=?_)|refine op_assign (k:=?_)|refine op_pick_true (k:=?_)|refine op_extract (k:=?_)|refine wl_skip (k:=?_)|refine wl_nil ?_|refine at_then_normal ?_|refine at_then_ret ?_|refine wc_seq ?_|refine wc_region ?_|refine wc_ret ?_|refine at_ret1 (h:=?_)|refine wc_cond_true (ht:=?_))
      all_goals try (exfalso; first | omega | contradiction)
      exact ⟨I, _, ⟨a, cp, rfl, rfl⟩, hm⟩
    · rw [decide_eq_false hm1] at hS
      have hs0 : s = [] := h0.resolve_right hm1
      subst hs0
      repeat' (first|(refine m_readC (d:=10) hm (hc:=hS) (k:=?_); clear hm; intro _ hm)|refine op_move (k:=?_)|refine op_assign (k:=?_)|refine op_pick_false (k:=?_)|refine op_eql_str (k:=?_)|refine op_extract (k:=?_)|refine wl_nil ?_|refine at_then_normal ?_|refine at_then_ret ?_|refine wc_seq ?_|refine wc_region ?_|refine wc_ret ?_|refine at_ret1 (h:=?_)|refine wc_cond_true (ht:=?_))
      all_goals try (exfalso; first | omega | contradiction)
      exact ⟨I, _, ⟨a, cp, rfl, rfl⟩, hm⟩
  · rw [Sp.addE_new h0]
    have hm1 : s ∉ l := fun h => h0 (.inr h)
    have hs0 : s ≠ [] := fun h => h0 (.inl h)
    rw [decide_eq_false hm1] at hS
    have hI := fun vb => e_insert I l a cp vb s hs hn hm1
    repeat' (first|(refine m_readC (d:=10) hm (hc:=hS) (k:=?_); clear hm; intro _ hm)|(refine m_buildRow (d:=22) hm (k:=?_); clear hm; intro bb _ hm)|(refine m_call (d:=23) hm (hp:=List.Perm.swap _ _ _) (hc:=hI bb) (k:=?_); clear hm; rintro _ I2 _ _ ⟨a2, cp2, rfl, rfl⟩ hleI2 hm; try simp only [setn] at hm)|refine op_move (k:=?_)|refine op_assign (k:=?_)|refine op_pick_false (k:=?_)|refine op_eql_str (k:=?_)|refine op_extract (k:=?_)|refine wl_nil ?_|refine at_then_normal ?_|refine wc_seq ?_|refine wc_region ?_|refine wc_skip ?_|refine wc_ret ?_|refine at_ret1 (h:=?_)|(refine wc_cond_dec (ht:=fun _ => ?_) (hf:=fun _ => ?_)<;> (try first | contradiction | (exfalso; omega))))
    all_goals try (exfalso; first | omega | contradiction)
    exact ⟨I2, _, ⟨a2, cp2, rfl, rfl⟩, hm⟩
abbrev EfSt (bd : Nat) (q : List (List UInt8) × List (List UInt8)) (sa : Option Addr) (sp : Nat) (ca : Option Addr) (cp : Nat) : List HItem :=
  [.cell bd [.slice sa q.1.length sp, .slice ca q.2.length cp] 243, strRow q.1 sa sp, strRow q.2 ca cp]
abbrev ToEf (bd : Nat) (q : List (List UInt8) × List (List UInt8)) : Value → Imm → List HItem → Prop := fun v _ H' => v = .tuple #[] ∧ ∃ sa sp ca cp, H' = EfSt bd q sa sp ca cp
structure EfX where
  k : Nat
  I : Imm
  sa : Option Addr
  sp : Nat
  ca : Option Addr
  cp : Nat
set_option maxHeartbeats 8000000 in
theorem e_expr {bd : Nat} : ∀ (n : Nat) (e : Sp.Ex), SizeOf.sizeOf e ≤ n → e.small → ∀ (I : Imm) (b o tc : Nat) (ea : Option Addr) (ec : Nat) (ys : List Value) (q : List (List UInt8) × List (List UInt8)) (sa : Option Addr) (sp : Nat) (ca : Option Addr) (cp : Nat),
    Sp.Srt q.2 → q.2.length + e.cnt ≤ 1000000000 → PtrI I b o tc (exCells e ea ec) → RowI I 102 6 (.slice ea e.args.length ec) e.args.length ys → ExsAt I e.args ys →
    CalM Tryz.prog 186 #[ptr bd, .pointer (some ⟨b, o, none⟩)] I (EfSt bd q sa sp ca cp) (ToEf bd (q.1, Sp.exE e q.2)) := by
  intro n
  induction n with
  | zero => intro e h; cases e; simp at h
  | succ n ih =>
  intro e hsz hsm I b o tc ea ec ys q sa sp ca cp hq hn hp hr hx
  obtain ⟨hal, hasm⟩ := Sp.small_args hsm
  have hcnt := Sp.Ex.cnt_eq e
  refine CalM.of fun w E hm => enter (N := 39) Tryz.func186 rfl [(0, ptr bd), (1, .pointer (some ⟨b, o, none⟩))] args2 rfl ?_
  rw [Sp.exE_eq]
  obtain ⟨c1, hc1⟩ : ∃ c1, c1 = if e.kind = 4 then Sp.addE q.2 e.name else q.2 := ⟨_, rfl⟩
  rw [← hc1]
  have hc1n : q.2.length ≤ c1.length ∧ c1.length ≤ q.2.length + 1 := by
    have := Sp.addE_len q.2 e.name
    rw [hc1]; split <;> omega
  have hc1s : Sp.Srt c1 := by
    rw [hc1]; split
    · exact Sp.addE_srt hq _
    · exact hq
  repeat' (first|(refine wc_cut_regN 0 (fun _ : EfX => [(0, ptr bd), (1, .pointer (some ⟨b, o, none⟩))]) (fun x w' => Mem E x.I (EfSt bd (q.1, c1) x.sa x.sp x.ca x.cp) w' ∧ Le I x.I) ?_ ?_))
  · refine ⟨?_⟩
    by_cases k4 : e.kind = 4
    · rw [if_pos k4] at hc1
      have hA := e_add I q.2 ca cp e.name hq (by omega)
      rw [← hc1] at hA
      repeat' (first|(refine wc_semi_memL (id:=1) (hm.perm pm1_2) [0,1,2,3,4,5,6,7,8] [9] 10 (h:=?_); clear hm; intro wd hR hm)|(refine mt_call (d:=19) hm (hc:=hA) (k:=?_); clear hm; rintro _ I2 _ _ ⟨a2, cp2, rfl, rfl⟩ hle hm; have hleI2 := hle; try simp only [setn] at hm)|refine mw_load1 hR (k:=?_)|refine iw_load1 hR (k:=?_)|(refine ws_nil ?_; replace hm := hR.back hm; clear hR; try simp only [setn] at hm)|refine i_load1 hm (k:=?_)|(refine m_store1 hm (k:=?_); clear hm; intro _ hm; try simp only [setn] at hm)|refine op_move (k:=?_)|refine op_eql (k:=?_)|refine op_nilCheck (k:=?_)|refine op_fieldAddr (k:=?_)|refine wl_nil ?_|refine at_then_normal ?_|refine wc_seq ?_|refine wc_region ?_|(refine wc_cond_dec (ht:=fun _ => ?_) (hf:=fun _ => ?_)<;> (try first | contradiction | (exfalso; omega)))|refine v_move (k:=?_)|refine v_nilCheck (k:=?_)|refine v_fieldAddr (k:=?_)|refine wv_nil ?_)
      all_goals try (exfalso; omega)
      exact at_cut (⟨0, I2, sa, sp, a2, cp2⟩ : EfX) (by exact ⟨rfl, rfl, trivial⟩) ⟨hm.perm pmEf, hleI2⟩
    · rw [if_neg k4] at hc1
      subst hc1
      repeat' (first|refine i_load1 hm (k:=?_)|refine op_move (k:=?_)|refine op_eql (k:=?_)|refine op_nilCheck (k:=?_)|refine op_fieldAddr (k:=?_)|refine wl_nil ?_|refine at_then_normal ?_|refine wc_seq ?_|refine wc_region ?_|refine wc_skip ?_|(refine wc_cond_dec (ht:=fun _ => ?_) (hf:=fun _ => ?_)<;> (try first | contradiction | (exfalso; omega))))
      all_goals try (exfalso; omega)
      exact at_cut (⟨0, I, sa, sp, ca, cp⟩ : EfX) (by exact ⟨rfl, rfl, trivial⟩) ⟨hm, Le.refl _⟩
  · clear hm hc1
    rintro ⟨_, I1, sa1, sp1, ca1, cp1⟩ w1 ⟨hm, hle1⟩
    dsimp only at hm hle1 ⊢
    have hp1 := hp.le hle1
    repeat' (first|refine i_load1 hm (k:=?_)|refine op_move (k:=?_)|refine op_len_slice (k:=?_)|refine op_nilCheck (k:=?_)|refine op_fieldAddr (k:=?_)|refine wl_nil ?_|refine at_then_normal ?_|refine wc_seq ?_|refine wc_region ?_|refine wc_block ?_)
    all_goals try (exfalso; omega)
    refine wc_loop (fun x : EfX => [(0, ptr bd), (1, .pointer (some ⟨b, o, none⟩)), (26, nt e.args.length), (27, nt x.k)])
      (fun x w' => Mem E x.I (EfSt bd (q.1, Sp.exsE (e.args.take x.k) c1) x.sa x.sp x.ca x.cp) w' ∧ Le I x.I ∧ x.k ≤ e.args.length) (fun x => e.args.length - x.k) ⟨0, I1, sa1, sp1, ca1, cp1⟩
      (by exact ⟨rfl, rfl, rfl, rfl, trivial⟩) ⟨by dsimp only; rw [List.take_zero, Sp.exsE]; exact hm, hle1, Nat.zero_le _⟩ ?_
    clear hm hle1 hp1
    rintro ⟨k, I2, sa2, sp2, ca2, cp2⟩ w2 ⟨hm, hle2, hk⟩
    dsimp only at hm hle2 hk ⊢
    have hp2 := hp.le hle2
    have hrow := hr.le hle2
    by_cases hlt : k < e.args.length
    · have hg : e.args[k]? = some e.args[k] := List.getElem?_eq_getElem hlt
      have hsz2 := Sp.size_args (List.getElem_mem hlt)
      have hsm2 := Sp.exsSmall_get hasm hg
      obtain ⟨ea2, ec2, ys2, hc2, hr2, hx2⟩ := (hx.get hg).out
      generalize e.args[k] = y at hg hsz2 hsm2 hc2 hr2 hx2
      have hst := Sp.exsE_step hg c1
      have hcy := Sp.exsCnt_take_le hg
      have hnn := Sp.exsE_n (e.args.take k) c1
      have hss := Sp.exsE_srt (e.args.take k) hc1s
      generalize Sp.exsE (e.args.take k) c1 = c2 at hm hst hnn hss
      have hcl := fun b o tc (hpt : PtrI I2 b o tc (exCells y ea2 ec2)) => ih y (by omega) hsm2 I2 b o tc ea2 ec2 ys2 (q.1, c2) sa2 sp2 ca2 cp2 hss (by dsimp only; omega) hpt (hr2.le hle2) (ExsAt.le hle2 _ _ hx2)
      repeat' (first|(refine i_indexAddr (d:=36) (hr:=hrow) (k:=?_); intro bt ot hpt; rw [show ((k : Int).toNat * 6) = k * 6 from rfl, hc2] at hpt)|(refine m_call (d:=37) hm (hc:=hcl _ _ _ hpt) (k:=?_); clear hm; rintro _ I3 _ _ ⟨rfl, sa3, sp3, ca3, cp3, rfl⟩ hle hm; have hleI3 := hle; try simp only [setn] at hm)|refine i_load1 hm (k:=?_)|refine op_move (k:=?_)|refine op_assign (k:=?_)|refine op_lss (k:=?_)|refine op_nilCheck (k:=?_)|refine op_add (k:=?_)|refine op_fieldAddr (k:=?_)|refine wl_nil ?_|refine at_then_normal ?_|refine at_block_normal ?_|refine wc_seq ?_|refine wc_region ?_|refine wc_block ?_|refine wc_skip ?_|(refine wc_cond_dec (ht:=fun _ => ?_) (hf:=fun _ => ?_)<;> (try first | contradiction | (exfalso; omega))))
      all_goals try (exfalso; omega)
      exact at_round (⟨k + 1, I3, sa3, sp3, ca3, cp3⟩ : EfX) (by exact ⟨rfl, rfl, rfl, rfl, trivial⟩) ⟨by dsimp only; rw [hst]; exact hm, hle2.trans hleI3, by dsimp only; omega⟩ (by dsimp only; omega)
    · obtain rfl : k = e.args.length := by omega
      rw [List.take_length] at hm
      repeat' (first|refine op_lss (k:=?_)|refine wl_nil ?_|refine at_then_normal ?_|refine at_then_exit ?_|refine at_block_exit ?_|refine wc_seq ?_|refine wc_region ?_|refine wc_exit ?_|refine at_end0 (h:=?_)|(refine wc_cond_dec (ht:=fun _ => ?_) (hf:=fun _ => ?_)<;> (try first | contradiction | (exfalso; omega))))
      all_goals try (exfalso; omega)
      exact ⟨I2, _, ⟨rfl, sa2, sp2, ca2, cp2, rfl⟩, hm⟩
end Go.Proofs.YthmdffgiockcbaaGreatDoor
end
section
namespace Go.Sp
structure Itm.fit (it : Itm) : Prop where
  sends : it.sends.length ≤ 1000000000
  body : it.body.length ≤ 40
  stms : stmsSmall it.body
theorem Itm.small.fit {it : Itm} (h : it.small) : it.fit := ⟨by have := h.sends; omega, h.body, h.stms⟩
end Go.Sp
namespace Go.Proofs.YthmdffgiockcbaaGreatDoor
open Go.Fw
theorem stE_sub {I : Imm} {x : Sp.Stm} {b o tc ec : Nat} {ea : Option Addr} {v1 v2 : Value} (hp : PtrI I b o tc (stCells x.kind x.name x.at_ x.label x.opn x.e ea ec v1 v2 x.fr x.to)) : PtrI I b (o + 5) tc (exCells x.e ea ec) :=
  hp.sub (cs' := exCells x.e ea ec) 5 (fun j u hj => by
    match j, hj with
    | 0, hj => exact hj
    | 1, hj => exact hj
    | 2, hj => exact hj
    | 3, hj => exact hj
    | 4, hj => exact hj
    | 5, hj => exact hj
    | j + 6, hj => cases hj)
set_option maxHeartbeats 16000000 in
theorem e_stmts {bd : Nat} : ∀ (n : Nat) (l : List Sp.Stm), SizeOf.sizeOf l ≤ n → l.length ≤ 64 → Sp.stmsSmall l → ∀ (I : Imm) (ab : Option Addr) (cb : Nat) (xb : List Value) (q : List (List UInt8) × List (List UInt8)) (sa : Option Addr) (sp : Nat) (ca : Option Addr) (cp : Nat),
    Sp.Srt q.1 ∧ Sp.Srt q.2 → q.1.length + q.2.length + Sp.stmsCnt l ≤ 1000000000 → RowI I 104 15 (.slice ab l.length cb) l.length xb → StsAt I l xb →
    CalM Tryz.prog 168 #[ptr bd, .slice ab l.length cb] I (EfSt bd q sa sp ca cp) (ToEf bd (Sp.stmsE l q)) := by
  intro n
  induction n with
  | zero => intro l h; cases l <;> simp at h
  | succ n ih =>
  intro l hsz hll hsm I ab cb xb q sa sp ca cp hq hn hr hx
  refine CalM.of fun w E hm => enter (N := 49) Tryz.func168 rfl [(0, ptr bd), (1, .slice ab l.length cb)] args2 rfl ?_
  repeat' (first|refine op_move (k:=?_)|refine op_len_slice (k:=?_)|refine wl_nil ?_|refine at_then_normal ?_|refine wc_seq ?_|refine wc_region ?_|refine wc_block ?_)
  refine wc_loop (fun x : EfX => [(0, ptr bd), (1, .slice ab l.length cb), (7, nt l.length), (8, nt x.k)])
    (fun x w' => Mem E x.I (EfSt bd (Sp.stmsE (l.take x.k) q) x.sa x.sp x.ca x.cp) w' ∧ Le I x.I ∧ x.k ≤ l.length) (fun x => l.length - x.k) ⟨0, I, sa, sp, ca, cp⟩
    (by exact ⟨rfl, rfl, rfl, rfl, trivial⟩) ⟨by dsimp only; rw [List.take_zero, Sp.stmsE]; exact hm, Le.refl _, Nat.zero_le _⟩ ?_
  clear hm
  rintro ⟨k, I1, sa1, sp1, ca1, cp1⟩ w1 ⟨hm, hle1, hk⟩
  dsimp only at hm hle1 hk ⊢
  have hrow := hr.le hle1
  by_cases hlt : k < l.length
  · have hg : l[k]? = some l[k] := List.getElem?_eq_getElem hlt
    have hme := Sp.sizeL_mem (List.getElem_mem hlt)
    obtain ⟨cs, hcs⟩ : ∃ cs, (xb.drop (k * 15)).take 15 = cs := ⟨_, rfl⟩
    have hat := hx.get hg
    rw [hcs] at hat
    have hsm2 := Sp.stmsSmall_get hsm hg
    generalize l[k] = y at hg hme hat hsm2
    have hst := Sp.stmsE_step hg q
    have hcy := Sp.stmsCnt_take_le hg
    have hnn := Sp.stmsE_n (l.take k) q
    have hss := Sp.stmsE_srt (l.take k) hq
    generalize Sp.stmsE (l.take k) q = r at hm hst hnn hss
    obtain ⟨s1, s2, s3, s4, s5⟩ := Sp.small_parts hsm2
    obtain ⟨z1, z2⟩ := Sp.size_thn (s := y)
    have hcnt := Sp.Stm.cnt_eq y
    obtain ⟨ea, ec, ex, a1', c1, xs1, a2', c2, xs2, rfl, hr3, hx3, hr4, hx4, hr5, hx5⟩ := hat.out
    rw [Sp.stmE_eq] at hst
    obtain ⟨r1, hr1⟩ : ∃ r1, r1 = if y.kind = 5 then Sp.addE r.1 y.name else r.1 := ⟨_, rfl⟩
    rw [← hr1] at hst
    have hr1n : r.1.length ≤ r1.length ∧ r1.length ≤ r.1.length + 1 := by
      have := Sp.addE_len r.1 y.name
      rw [hr1]; split <;> omega
    have hr1s : Sp.Srt r1 := by
      rw [hr1]; split
      · exact Sp.addE_srt hss.1 _
      · exact hss.1
    repeat' (first|(refine i_indexAddr (d:=13) (hr:=hrow) (k:=?_); intro bt ot hpt; rw [show ((k : Int).toNat * 15) = k * 15 from rfl, hcs] at hpt)|(refine wc_cut_regN 4 (fun _ : EfX => [(0, ptr bd), (1, .slice ab l.length cb), (5, .pointer (some ⟨bt, ot, none⟩)), (7, nt l.length), (8, nt k)]) (fun x w' => Mem E x.I (EfSt bd (r1, r.2) x.sa x.sp x.ca x.cp) w' ∧ Le I1 x.I) ?_ ?_)|refine op_move (k:=?_)|refine op_assign (k:=?_)|refine op_lss (k:=?_)|refine wl_nil ?_|refine at_then_normal ?_|refine wc_seq ?_|refine wc_region ?_|refine wc_block ?_|refine wc_skip ?_|(refine wc_cond_dec (ht:=fun _ => ?_) (hf:=fun _ => ?_)<;> (try first | contradiction | (exfalso; omega))))
    · refine ⟨?_⟩
      by_cases k5 : y.kind = 5
      · rw [if_pos k5] at hr1
        have hA := e_add I1 r.1 sa1 sp1 y.name hss.1 (by omega)
        rw [← hr1] at hA
        repeat' (first|(refine wc_semi_memL (id:=5) (hm.perm pm1_1) [0,1,2,3,4,5,6,7,8] [9] 10 (h:=?_); clear hm; intro wd hR hm)|(refine mt_call (d:=28) hm (hc:=hA) (k:=?_); clear hm; rintro _ I2 _ _ ⟨a2, cp2, rfl, rfl⟩ hle hm; have hleI2 := hle; try simp only [setn] at hm)|refine mw_load1 hR (k:=?_)|refine iw_load1 hR (k:=?_)|(refine ws_nil ?_; replace hm := hR.back hm; clear hR; try simp only [setn] at hm)|refine i_load1 hm (k:=?_)|(refine m_store1 hm (k:=?_); clear hm; intro _ hm; try simp only [setn] at hm)|refine op_move (k:=?_)|refine op_eql (k:=?_)|refine op_nilCheck (k:=?_)|refine op_fieldAddr (k:=?_)|refine wl_nil ?_|refine at_then_normal ?_|refine wc_seq ?_|refine wc_region ?_|(refine wc_cond_dec (ht:=fun _ => ?_) (hf:=fun _ => ?_)<;> (try first | contradiction | (exfalso; omega)))|refine v_move (k:=?_)|refine v_nilCheck (k:=?_)|refine v_fieldAddr (k:=?_)|refine wv_nil ?_)
        all_goals try (exfalso; omega)
        exact at_cut (⟨0, I2, a2, cp2, ca1, cp1⟩ : EfX) (by exact ⟨rfl, rfl, rfl, rfl, rfl, trivial⟩) ⟨hm.swap, hleI2⟩
      · rw [if_neg k5] at hr1
        subst hr1
        repeat' (first|refine i_load1 hm (k:=?_)|refine op_move (k:=?_)|refine op_eql (k:=?_)|refine op_nilCheck (k:=?_)|refine op_fieldAddr (k:=?_)|refine wl_nil ?_|refine at_then_normal ?_|refine wc_seq ?_|refine wc_region ?_|refine wc_skip ?_|(refine wc_cond_dec (ht:=fun _ => ?_) (hf:=fun _ => ?_)<;> (try first | contradiction | (exfalso; omega))))
        all_goals try (exfalso; omega)
        exact at_cut (⟨0, I1, sa1, sp1, ca1, cp1⟩ : EfX) (by exact ⟨rfl, rfl, rfl, rfl, rfl, trivial⟩) ⟨hm, Le.refl _⟩
    · clear hm hr1
      rintro ⟨_, I2, sa2, sp2, ca2, cp2⟩ w2 ⟨hm, hle2⟩
      dsimp only at hm hle2 ⊢
      have hpt2 := hpt.le hle2
      have hpe := stE_sub hpt2
      have hE := e_expr (bd := bd) _ y.e (Nat.le_refl _) s1 I2 bt (ot + 5) 104 ea ec ex (r1, r.2) sa2 sp2 ca2 cp2 hss.2 (by dsimp only; omega) hpe ((hr3.le hle1).le hle2) (ExsAt.le hle2 _ _ (ExsAt.le hle1 _ _ hx3))
      have hnE := Sp.exE_n y.e r.2
      have hsE := Sp.exE_srt y.e hss.2
      dsimp only at hE
      generalize Sp.exE y.e r.2 = r2 at hE hnE hsE hst
      have hT := fun (J : Imm) (m : Le I2 J) (sa : Option Addr) (sp : Nat) (ca : Option Addr) (cp : Nat) => ih y.thn (by omega) s2 s3 J a1' c1 xs1 (r1, r2) sa sp ca cp ⟨hr1s, hsE⟩ (by dsimp only; omega) (((hr4.le hle1).le hle2).le m) (StsAt.le m _ _ (StsAt.le hle2 _ _ (StsAt.le hle1 _ _ hx4)))
      have hnT := Sp.stmsE_n y.thn (r1, r2)
      have hsT := Sp.stmsE_srt y.thn (q := (r1, r2)) ⟨hr1s, hsE⟩
      dsimp only at hnT
      generalize Sp.stmsE y.thn (r1, r2) = r3 at hT hnT hsT hst
      have hL := fun (J : Imm) (m : Le I2 J) (sa : Option Addr) (sp : Nat) (ca : Option Addr) (cp : Nat) => ih y.els (by omega) s4 s5 J a2' c2 xs2 r3 sa sp ca cp hsT (by omega) (((hr5.le hle1).le hle2).le m) (StsAt.le m _ _ (StsAt.le hle2 _ _ (StsAt.le hle1 _ _ hx5)))
      rw [← hst] at hL
      repeat' (first|(refine m_call (d:=35) hm (hc:=hE) (k:=?_); clear hm; rintro _ I3 _ _ ⟨rfl, sa3, sp3, ca3, cp3, rfl⟩ hle hm; have hleI3 := hle; try simp only [setn] at hm; replace hpt2 := hpt2.le hleI3)|(refine m_call (d:=41) hm (hc:=hT I3 hleI3 _ _ _ _) (k:=?_); clear hm; rintro _ I4 _ _ ⟨rfl, sa4, sp4, ca4, cp4, rfl⟩ hle hm; have hleI4 := hle; try simp only [setn] at hm; replace hpt2 := hpt2.le hleI4)|(refine m_call (d:=47) hm (hc:=hL I4 (hleI3.trans hleI4) _ _ _ _) (k:=?_); clear hm; rintro _ I5 _ _ ⟨rfl, sa5, sp5, ca5, cp5, rfl⟩ hle hm; have hleI5 := hle; try simp only [setn] at hm)|refine i_load1 hm (k:=?_)|refine op_move (k:=?_)|refine op_nilCheck (k:=?_)|refine op_add (k:=?_)|refine op_fieldAddr (k:=?_)|refine wl_nil ?_|refine at_then_normal ?_|refine at_block_normal ?_|refine wc_seq ?_|refine wc_region ?_)
      all_goals try (exfalso; omega)
      exact at_round (⟨k + 1, I5, sa5, sp5, ca5, cp5⟩ : EfX) (by exact ⟨rfl, rfl, rfl, rfl, trivial⟩) ⟨hm, (((hle1.trans hle2).trans hleI3).trans hleI4).trans hleI5, by dsimp only; omega⟩ (by dsimp only; omega)
  · obtain rfl : k = l.length := by omega
    rw [List.take_length] at hm
    repeat' (first|refine op_lss (k:=?_)|refine wl_nil ?_|refine at_then_normal ?_|refine at_then_exit ?_|refine at_block_exit ?_|refine wc_seq ?_|refine wc_region ?_|refine wc_exit ?_|refine at_end0 (h:=?_)|(refine wc_cond_dec (ht:=fun _ => ?_) (hf:=fun _ => ?_)<;> (try first | contradiction | (exfalso; omega))))
    all_goals try (exfalso; omega)
    exact ⟨I1, _, ⟨rfl, sa1, sp1, ca1, cp1, rfl⟩, hm⟩
theorem _root_.Go.Fw.pmEg {x y z : HItem} {r : List HItem} : (x :: y :: z :: r).Perm (z :: x :: y :: r) := (List.perm_append_comm (l₁ := [x, y]) (l₂ := [z])).append_right r
abbrev ToOwn (it : Sp.Itm) : Value → Imm → List HItem → Prop := fun v _ H' => ∃ sa sp ca cp, v = .tuple #[.slice sa (Sp.ownE it).1.length sp, .slice ca (Sp.ownE it).2.length cp] ∧ H' = [strRow (Sp.ownE it).1 sa sp, strRow (Sp.ownE it).2 ca cp]
set_option maxHeartbeats 4000000 in
theorem e_own (it : Sp.Itm) (hs : it.fit) (hcn : Sp.stmsCnt it.body ≤ 400000000) (I : Imm) (cs : List Value) (hi : ItAt I it cs) : CalM Tryz.prog 135 #[.agg cs.toArray] I [] (ToOwn it) := by
  obtain ⟨ap, cp, as_, cs', ab, cb, ad, cd, xb, rfl, r1, r2, r3, r4, r5⟩ := hi
  have hsb := hs.body
  have hS := fun (J : Imm) (m : Le I J) (bd : Nat) => e_stmts (bd := bd) _ it.body (Nat.le_refl _) (by omega) hs.stms J ab cb xb ([], []) none 0 none 0 ⟨Sp.Srt.nil, Sp.Srt.nil⟩ (by simp; omega) (r3.le m) (StsAt.le m _ _ r4)
  rw [show Sp.stmsE it.body ([], []) = Sp.ownE it from rfl] at hS
  refine CalM.of fun w E hm => enter (N := 19) Tryz.func135 rfl [(0, .agg (itCells it.kind it.name it.label (.slice ap it.params.length cp) (.slice as_ it.sends.length cs') (.slice ab it.body.length cb) it.at_ it.size it.mark (.slice ad it.diags.length cd)).toArray)] args1 rfl ?_
  obtain ⟨r, hr⟩ : ∃ r, r = Sp.ownE it := ⟨_, rfl⟩
  rw [← hr] at hS
  repeat' (first|refine wc_hold 2 ?_|(refine m_box (d:=1) hm (k:=?_); clear hm; intro b1 _ hm)|(refine m_box (d:=6) hm (k:=?_); clear hm; intro b6 _ hm)|refine op_assign (k:=?_)|refine op_struct (k:=?_)|refine wl_nil ?_|refine at_then_normal ?_|refine wc_seq ?_|refine wc_region ?_)
  all_goals try (exfalso; omega)
  have hm := ((hm.nil 9 1).nil 9 1).perm pmEg
  refine ⟨?_⟩
  repeat' (first|(refine m_call (d:=10) hm (hp:=pm3_0) (hc:=hS I (Le.refl _) b6) (k:=?_); clear hm; rintro _ I2 _ _ ⟨rfl, sa2, sp2, ca2, cp2, rfl⟩ hleI2 hm; try simp only [setn] at hm)|refine m_load1 hm (k:=?_)|refine mq_load1 hm (k:=?_)|refine op_move (k:=?_)|refine op_fieldAddr (k:=?_)|refine wl_nil ?_|refine at_then_normal ?_|refine wc_seq ?_|refine wc_region ?_|refine wc_ret ?_|refine at_ret2 (h:=?_)|refine wc_quiet (h:=?_)|(refine wq_nil ?_; intro _ hkq; replace hm := hm.kept0 hkq; clear hkq)|refine q_move (k:=?_)|refine q_assign (k:=?_)|refine q_nilCheck (k:=?_)|refine q_fieldAddr (k:=?_))
  all_goals try (exfalso; omega)
  subst hr
  exact ⟨I2, _, ⟨sa2, sp2, ca2, cp2, rfl, rfl⟩, hm.tl.left (H := [_, _])⟩
end Go.Proofs.YthmdffgiockcbaaGreatDoor
end
