/- Own work: texts InfC, FwU, one behind the other. -/
import Derived.Test.YthmdffgiockcbaaDoorIf27
section
namespace Go.Sp
theorem val_up {o : Lab} {f n : Nat} {l : Li} (h : l.op ≠ some f) : l.val (upL o f n) = l.val o := by
  rw [Li.val, Li.val]
  cases hop : l.op with
  | none => rfl
  | some g =>
    show (if g = f then n else o g) = o g
    rw [if_neg (fun e => h (by rw [hop, e]))]
theorem raiseI_fst (p : LP) (f a : Nat) : (raiseI p f a).1 = upL p.1 f (p.1 f ||| a) := by
  rw [raiseI]
  split
  · rename_i h
    funext g
    show p.1 g = if g = f then _ else _
    rw [h]
    split
    · rename_i e; rw [e]
    · rfl
  · rfl
theorem lets_eq (y : Stm) : y.lets = (if y.kind = 1 then [y.fr] else []) ++ (letsS y.thn ++ letsS y.els) := by cases y; rw [Stm.lets]; rfl
theorem opsL_cons (l : Li) (sc : List Li) : opsL (l :: sc) = l.op.toList ++ opsL sc := by
  rw [opsL, List.filterMap_cons]
  cases l.op <;> rfl
/-- what is to come stands at places of its own. -/
structure Apart (sc : List Li) (y : Stm) (D : List Nat) : Prop where
  rest : (opsL sc ++ D).Nodup
  thn : (opsL sc ++ letsS y.thn).Nodup
  els : (opsL sc ++ letsS y.els).Nodup
  out : y.kind = 1 → y.fr ∉ opsL sc
  next : y.kind = 1 → ∀ n lb, (opsL (sc ++ [⟨n, lb, opOf y.opn y.fr⟩]) ++ D).Nodup
theorem Apart.of {sc : List Li} {y : Stm} {D : List Nat} (h : (opsL sc ++ (y.lets ++ D)).Nodup) : Apart sc y D := by
  have e := lets_eq y
  have sT : (letsS y.thn).Sublist y.lets := by
    rw [e]; exact (List.sublist_append_left _ _).trans (List.sublist_append_right _ _)
  have sE : (letsS y.els).Sublist y.lets := by
    rw [e]; exact (List.sublist_append_right _ _).trans (List.sublist_append_right _ _)
  refine ⟨h.sublist ((List.Sublist.refl _).append (List.sublist_append_right _ _)), h.sublist ((List.Sublist.refl _).append (sT.trans (List.sublist_append_left _ _))),
    h.sublist ((List.Sublist.refl _).append (sE.trans (List.sublist_append_left _ _))), fun hk => ?_, fun hk n lb => ?_⟩
  · intro hf
    rw [e, if_pos hk] at h
    exact (List.nodup_append.1 h).2.2 _ hf _ (by simp) rfl
  · rw [opsL_snoc]
    refine h.sublist ?_
    rw [List.append_assoc]
    refine (List.Sublist.refl _).append (List.Sublist.append ?_ (List.Sublist.refl _))
    rw [e, if_pos hk]
    refine List.Sublist.trans ?_ (List.sublist_append_left _ _)
    show ((opOf y.opn y.fr).toList).Sublist [y.fr]
    rw [opOf]
    split
    · exact List.Sublist.refl _
    · exact List.nil_sublist _
end Go.Sp
namespace Go.Proofs.YthmdffgiockcbaaDoor
open Go.Fw
theorem enc_up {o : Sp.Lab} {f n : Nat} : ∀ {sc : List Loc}, f ∉ Sp.opsL (sc.map (·.1)) → sc.flatMap (encLi (Sp.upL o f n)) = sc.flatMap (encLi o)
  | [], _ => rfl
  | p :: sc, h => by
    rw [List.map_cons, Sp.opsL_cons] at h
    have h1 : p.1.op ≠ some f := fun e => h (by rw [e]; exact List.mem_append_left _ List.mem_cons_self)
    rw [List.flatMap_cons, List.flatMap_cons, enc_up (fun hf => h (List.mem_append_right _ hf))]
    show [str p.1.name, nt (p.1.val _), p.2] ++ _ = _
    rw [Sp.val_up h1]
theorem enc_raise {p : Sp.LP} {op : Option Nat} {a : Nat} {sc : List Loc} (h : ∀ f, op = some f → f ∉ Sp.opsL (sc.map (·.1))) : sc.flatMap (encLi (Sp.raiseO p op a).1) = sc.flatMap (encLi p.1) := by
  cases op with
  | none => rfl
  | some f =>
    show sc.flatMap (encLi (Sp.raiseI p f a).1) = _
    rw [Sp.raiseI_fst, enc_up (h f rfl)]
theorem enc_set {o : Sp.Lab} {f n : Nat} : ∀ {sc : List Loc} {i : Nat} {p : Loc}, sc[i]? = some p → p.1.op = some f → (Sp.opsL (sc.map (·.1))).Nodup → (sc.flatMap (encLi o)).set (i * 3 + 1) (nt n) = sc.flatMap (encLi (Sp.upL o f n))
  | [], i, p, h, _, _ => by simp at h
  | q :: sc, 0, p, h, hop, hn => by
    simp only [List.getElem?_cons_zero, Option.some.injEq] at h
    subst h
    rw [List.map_cons, Sp.opsL_cons, hop] at hn
    have h1 : f ∉ Sp.opsL (sc.map (·.1)) := (List.nodup_cons.1 hn).1
    rw [List.flatMap_cons, List.flatMap_cons, enc_up h1]
    have e : q.1.val (Sp.upL o f n) = n := by
      rw [Sp.Li.val, hop]
      show (if f = f then n else o f) = n
      rw [if_pos rfl]
    show _ = [str q.1.name, nt (q.1.val _), q.2] ++ _
    rw [e]; rfl
  | q :: sc, i + 1, p, h, hop, hn => by
    rw [List.getElem?_cons_succ] at h
    rw [List.map_cons, Sp.opsL_cons] at hn
    have hf : f ∈ Sp.opsL (sc.map (·.1)) := Sp.opsL_mem (List.mem_map_of_mem (f := (·.1)) (List.mem_of_getElem? h)) hop
    have h1 : q.1.op ≠ some f := fun e => by
      rw [e] at hn
      exact (List.nodup_cons.1 hn).1 hf
    have ih := enc_set (o := o) (n := n) h hop (List.nodup_append.1 hn).2.1
    rw [List.flatMap_cons, List.flatMap_cons, ← ih, show (i + 1) * 3 + 1 = i * 3 + 1 + 3 by omega]
    have e : encLi (Sp.upL o f n) q = encLi o q := by
      show [str q.1.name, nt (q.1.val _), q.2] = _
      rw [Sp.val_up h1]
    rw [e]; rfl
theorem enc_len (o : Sp.Lab) : ∀ (sc : List Loc), (sc.flatMap (encLi o)).length = sc.length * 3
  | [] => rfl
  | p :: sc => by
    have ih := enc_len o sc
    rw [List.flatMap_cons, List.length_append, ih]
    show 3 + sc.length * 3 = (sc.length + 1) * 3
    omega
theorem stE_subI {I : Imm} {x : Sp.Stm} {b o tc ec : Nat} {ea : Option Addr} {v1 v2 : Value} (hp : PtrI I b o tc (stCells x.kind x.name x.at_ x.label x.opn x.e ea ec v1 v2 x.fr x.to)) : PtrI I b (o + 5) tc (exCells x.e ea ec) :=
  hp.sub (cs' := exCells x.e ea ec) 5 (fun j u hj => by
    match j, hj with
    | 0, hj => exact hj
    | 1, hj => exact hj
    | 2, hj => exact hj
    | 3, hj => exact hj
    | 4, hj => exact hj
    | 5, hj => exact hj
    | j + 6, hj => cases hj)
theorem _root_.Go.Fw.pmIc {r c f m : HItem} : [r, c, f, m].Perm [c, f, r, m] := List.perm_append_comm (l₁ := [r]) (l₂ := [c, f]) |>.append_right [m]
structure InX where
  k : Nat
  I : Imm
  sc : List Loc
  p : Sp.LP
  sa : Option Addr
  sp : Nat
  zs : EntsZ
section
variable {bd bf bo : Nat} {its : List Sp.Itm} {a : Option Addr} {cp : Nat} {xs : List Value}
set_option maxHeartbeats 64000000 in
theorem i_block (hlab : Sp.itLab its) : ∀ (n : Nat) (l : List Sp.Stm), SizeOf.sizeOf l ≤ n → l.length ≤ 64 → Sp.stmsSmall l → Sp.stmsAll Sp.anyP Sp.labS l → ∀ (I : Imm) (ab : Option Addr) (cb : Nat) (xb : List Value) (sc : List Loc) (un : Nat) (p : Sp.LP) (sa : Option Addr) (sp : Nat) (zs : EntsZ),
    un < 256 → Sp.okL p → Sp.okSc (sc.map (·.1)) → sc.length + Sp.stmsCnt l ≤ 1000000000 → (Sp.opsL (sc.map (·.1)) ++ Sp.letsS l).Nodup → (∀ q ∈ sc, AtOk I q.2 q.1.op) → OpenZ zs p.1 →
    FE I its a cp xs → PtrI I bf 0 25 [.slice a its.length cp] → RowI I 43 15 (.slice ab l.length cb) l.length xb → StsAt I l xb →
    CalM Tryd.prog 12 #[ptr bd, .slice ab l.length cb, nt un] I (InSt bd bf sc p.1 p.2 sa sp bo zs) (fun v _ H' => v = .tuple #[] ∧ ∃ sa' sp' zs', OpenZ zs' (Sp.stmsI its l (sc.map (·.1)) un p).2.1 ∧
      H' = InSt bd bf sc (Sp.stmsI its l (sc.map (·.1)) un p).2.1 (Sp.stmsI its l (sc.map (·.1)) un p).2.2 sa' sp' bo zs') := by
  intro n
  induction n with
  | zero => intro l h; cases l <;> simp at h
  | succ n ih =>
  intro l hsz hll hsm hall I ab cb xb sc un p sa sp zs hun hok0 hos0 hn hnd0 hat0 hz0 hfe hpf hr hx
  refine CalM.of fun w E hm => enter (N := 147) Tryd.func12 rfl [(0, ptr bd), (1, .slice ab l.length cb), (2, nt un)] args3 rfl ?_
  repeat' (first
  | refine m_load1 hm (k:=?_)
  | refine op_move (k:=?_)
  | refine op_assign (k:=?_)
  | refine op_len_slice (k:=?_)
  | refine op_nilCheck (k:=?_)
  | refine op_fieldAddr (k:=?_)
  | refine wl_nil ?_
  | refine at_then_normal ?_
  | refine wc_seq ?_
  | refine wc_region ?_
  | refine wc_block ?_)
  refine wc_loop (fun x : InX => [(0, ptr bd), (1, .slice ab l.length cb), (2, nt un), (6, nt sc.length), (18, nt l.length), (19, nt x.k)])
    (fun x w' => Mem E x.I (InSt bd bf x.sc x.p.1 x.p.2 x.sa x.sp bo x.zs) w' ∧ Le I x.I ∧ x.k ≤ l.length ∧ Sp.stmsI its (l.take x.k) (sc.map (·.1)) un p = (x.sc.map (·.1), x.p) ∧ (∃ r, x.sc = sc ++ r) ∧ x.sc.length ≤ sc.length + Sp.stmsCnt (l.take x.k) ∧
      (Sp.opsL (x.sc.map (·.1)) ++ Sp.letsS (l.drop x.k)).Nodup ∧ (∀ q ∈ x.sc, AtOk x.I q.2 q.1.op) ∧ OpenZ x.zs x.p.1) (fun x => l.length - x.k) ⟨0, I, sc, p, sa, sp, zs⟩
    (by exact ⟨rfl, rfl, rfl, rfl, rfl, rfl, trivial⟩) ⟨hm, Le.refl _, Nat.zero_le _, by dsimp only; rw [List.take_zero, Sp.stmsI], ⟨[], (List.append_nil _).symm⟩, Nat.le_add_right _ _, by dsimp only; rw [List.drop_zero]; exact hnd0, hat0, hz0⟩ ?_
  clear hm hnd0 hat0 hz0
  rintro ⟨k, I1, sc1, p1, sa1, sp1, zs1⟩ w1 ⟨hm, hle1, hk, hinv, ⟨rr, hrr⟩, hscl, hnd, hats, hz⟩
  dsimp only at hm hle1 hk hinv hrr hscl hnd hats hz ⊢
  have hok := Sp.stmsI_ok hlab (l.take k) (Sp.stmsAll_take k hall) hok0 hos0 hun
  rw [hinv] at hok
  obtain ⟨hokp, hoks⟩ := hok
  dsimp only at hokp hoks
  by_cases hlt : k < l.length
  · have hg : l[k]? = some l[k] := List.getElem?_eq_getElem hlt
    have hme := Sp.sizeL_mem (List.getElem_mem hlt)
    obtain ⟨cs, hcs⟩ : ∃ cs, (xb.drop (k * 15)).take 15 = cs := ⟨_, rfl⟩
    have hat := hx.get hg
    rw [hcs] at hat
    have hsm2 := Sp.stmsSmall_get hsm hg
    have hal2 := Sp.stmsAll_get hall hg
    rw [List.drop_eq_getElem_cons hlt, Sp.letsS] at hnd
    generalize l[k] = y at hg hme hat hsm2 hal2 hnd
    have hst := Sp.stmsI_step its hg (sc.map (·.1)) un p
    have hcy := Sp.stmsCnt_take_le hg
    rw [hinv, Sp.stmI_eq] at hst
    dsimp only at hst
    have hap := Sp.Apart.of hnd
    obtain ⟨s1, s2, s3, s4, s5⟩ := Sp.small_parts hsm2
    obtain ⟨n1, n2, n3, n4⟩ := Sp.Stm.all_node hal2
    obtain ⟨z1, z2⟩ := Sp.size_thn (s := y)
    have hcnt := Sp.Stm.cnt_eq y
    have hcs1 : Sp.stmsCnt (l.take (k + 1)) = Sp.stmsCnt (l.take k) + y.cnt := by rw [Sp.take_succ_get hg, Sp.stmsCnt_app, Sp.stmsCnt_one]
    obtain ⟨ea, ec, ex, a1', c1, xs1, a2', c2, xs2, rfl, hr3, hx3, hr4, hx4, hr5, hx5⟩ := hat.out
    have hrow := hr.le hle1
    have hfe1 := hfe.le hle1
    have hpf1 := hpf.le hle1
    have hsl := Sp.lcOf_lab hokp hoks
    have hE := fun (b3 o3 : Nat) (hp3 : PtrI I1 b3 o3 43 (exCells y.e ea ec)) => i_expr (bd := bd) (bf := bf) (sc := sc1) (o := p1.1) (more := p1.2) (sa := sa1) (sp := sp1) (bo := bo) (zs := zs1) hlab hsl (by omega) _ y.e (Nat.le_refl _) s1 I1 b3 o3 43 ea ec ex hfe1 hpf1 hp3 (hr3.le hle1) (ExsAt.le hle1 _ _ hx3)
    have hav0 := Sp.plainF_lt hlab hsl y.e
    generalize Sp.plainF its (Sp.lcOf p1.1 (sc1.map (·.1))) y.e = a0 at hE hav0 hst
    have hJ := fun (J : Imm) => joinA J a0 un hav0 hun
    have hav := Sp.or_lt hav0 hun
    generalize a0 ||| un = av at hJ hav hst
    repeat' (first
    | (refine i_indexAddr (d:=24) (hr:=hrow) (k:=?_); intro bt ot hpt; rw [show ((k : Int).toNat * 15) = k * 15 from rfl, hcs] at hpt)
    | (refine m_call (d:=29) hm (hp:=pm3_0) (hc:=hE bt (ot + 5) (stE_subI hpt)) (k:=?_); clear hm; rintro _ I2 _ _ ⟨rfl, rfl⟩ hleI2 hm; try simp only [setn] at hm)
    | (refine m_readC (d:=31) hm (hc:=hJ _) (k:=?_); clear hm; intro _ hm)
    | refine wc_hold 6 ?_
    | refine op_move (k:=?_)
    | refine op_assign (k:=?_)
    | refine op_lss (k:=?_)
    | refine op_nilCheck (k:=?_)
    | refine op_fieldAddr (k:=?_)
    | refine wl_nil ?_
    | refine at_then_normal ?_
    | refine wc_seq ?_
    | refine wc_region ?_
    | refine wc_block ?_
    | refine wc_skip ?_
    | (refine wc_cond_dec (ht:=fun _ => ?_) (hf:=fun _ => ?_)<;> (try first | contradiction | (exfalso; omega))))
    all_goals try (exfalso; omega)
    have hpt2 := hpt.le hleI2
    have hle2 := hle1.trans hleI2
    refine ⟨?_⟩
    by_cases k1 : y.kind = 1
    · rw [if_pos k1] at hst
      have hR := i_raise (bd := bd) (bf := bf) (sc := sc1) (o := p1.1) (more := p1.2) (sa := sa1) (sp := sp1) (bo := bo) (zs := zs1) I2 (.pointer (some ⟨bt, ot, none⟩)) (Sp.opOf y.opn y.fr) p1.1 av hav (.inr ⟨bt, ot, _, ec, y, ea, _, _, rfl, hpt2, rfl⟩) hz hokp
      rw [show ((p1.1, p1.2) : Sp.LP) = p1 from rfl] at hR
      have henc : sc1.flatMap (encLi (Sp.raiseO p1 (Sp.opOf y.opn y.fr) av).1) = sc1.flatMap (encLi p1.1) := enc_raise (fun f hf => by
        rw [Sp.opOf] at hf
        split at hf
        · cases hf; exact hap.out k1
        · cases hf)
      have hnx := hap.next k1 y.name y.label
      generalize Sp.raiseO p1 (Sp.opOf y.opn y.fr) av = q at hR henc hst
      cases ho : y.opn with
      | true =>
        rw [ho] at hst hnx hpt2
        repeat' (first
        | (refine m_call (d:=41) hm (hp:=pm3_0) (hc:=hR) (k:=?_); clear hm; rintro _ I3 _ _ ⟨rfl, zs3, hz3, rfl⟩ hleI3 hm; try simp only [setn] at hm; rw [← henc] at hm; replace hpt2 := hpt2.le hleI3)
        | (refine wc_semi_memL (id:=9) (hm.perm pm0) [0,1,2,3,4,5,6,7,8,9] [10] 11 (h:=?_); clear hm; intro wd hR hm)
        | (refine wc_quiet_tail (id:=11) 9 (h:=?_))
        | (refine mq_lookupZ (d := 64) hm (by rfl) (by rfl) (by rfl) (by rfl) gt3 zero_nt ?_; rw [hz3.get y.fr])
        | (refine wc_semi_memL (id:=12) (hm.perm pm1_2) [0,1,2,3,4,5] [6,7] 8 (h:=?_); clear hm; intro wd hR hm)
        | refine mw_loadAll hR (k:=?_)
        | refine mw_load1 hR (k:=?_)
        | refine iw_load1 hR (k:=?_)
        | (refine mt_allocS (d:=10) hm (k:=?_); clear hm; intro b10 _ hm)
        | (refine mt_push (d:=73) hm (k:=?_); clear hm; intro a73 cp73 _ _ hm; replace hm := hR.back hm; clear hR; try simp only [setn] at hm)
        | (refine ws_nil ?_; replace hm := hR.back hm; clear hR; try simp only [setn] at hm)
        | refine i_load1 hm (k:=?_)
        | refine mq_load1 hm (k:=?_)
        | refine iq_load1 hm (k:=?_)
        | (refine m_storeAll hm (k:=?_); clear hm; intro _ hm; try simp only [setn] at hm)
        | (refine m_store1 hm (k:=?_); clear hm; intro _ hm; try simp only [setn] at hm)
        | refine op_move (k:=?_)
        | refine op_assign (k:=?_)
        | refine op_eql (k:=?_)
        | refine op_nilCheck (k:=?_)
        | refine op_add (k:=?_)
        | refine op_fieldAddr (k:=?_)
        | refine wl_nil ?_
        | refine at_then_normal ?_
        | refine at_block_normal ?_
        | refine wc_seq ?_
        | refine wc_region ?_
        | refine wc_block ?_
        | (refine wq_nil_tail ?_; intro _ hkq; replace hm := hm.kept0 hkq; clear hkq)
        | refine wc_cond_true (ht:=?_)
        | (refine wc_cond_dec (ht:=fun _ => ?_) (hf:=fun _ => ?_)<;> (try first | contradiction | (exfalso; omega)))
        | refine q_move (k:=?_)
        | refine q_nilCheck (k:=?_)
        | refine q_fieldAddr (k:=?_)
        | refine v_move (k:=?_)
        | refine v_nilCheck (k:=?_)
        | refine v_fieldAddr (k:=?_)
        | refine v_struct (k:=?_)
        | refine wv_nil ?_)
        all_goals try (exfalso; first | omega | contradiction)
        refine at_round (⟨k + 1, I3, sc1 ++ [(⟨y.name, y.label, Sp.opOf true y.fr⟩, .pointer (some ⟨bt, ot, none⟩))], q, a73, cp73, zs3⟩ : InX) (by exact ⟨rfl, rfl, rfl, rfl, rfl, rfl, trivial⟩)
          ⟨?_, hle2.trans hleI3, by dsimp only; omega, by dsimp only; rw [hst, List.map_append]; rfl, ⟨rr ++ [_], by dsimp only; rw [hrr, List.append_assoc]⟩, by dsimp only; rw [List.length_append]; show _ + 1 ≤ _; omega, by dsimp only; rw [List.map_append]; exact hnx, fun q' hq' => ?_, hz3⟩ (by dsimp only; omega)
        · dsimp only [InSt]
          rw [List.flatMap_append, List.length_append]
          exact (hm.perm pmIc).tl
        · rcases List.mem_append.1 hq' with h | h
          · exact ((hats q' h).le hleI2).le hleI3
          · obtain rfl := List.mem_singleton.1 h
            exact .inr ⟨bt, ot, _, ec, y, ea, _, _, rfl, by rw [ho]; exact hpt2, by rw [ho]⟩
      | false =>
        rw [ho] at hst hnx hpt2
        repeat' (first
        | (refine m_call (d:=41) hm (hp:=pm3_0) (hc:=hR) (k:=?_); clear hm; rintro _ I3 _ _ ⟨rfl, zs3, hz3, rfl⟩ hleI3 hm; try simp only [setn] at hm; rw [← henc] at hm; replace hpt2 := hpt2.le hleI3)
        | (refine wc_semi_memL (id:=9) (hm.perm pm0) [0,1,2,3,4,5,6,7,8,9] [10] 11 (h:=?_); clear hm; intro wd hR hm)
        | (refine wc_semi_memL (id:=12) (hm.perm pm1_2) [0,1,2,3,4,5] [6,7] 8 (h:=?_); clear hm; intro wd hR hm)
        | refine mw_loadAll hR (k:=?_)
        | refine mw_load1 hR (k:=?_)
        | refine iw_load1 hR (k:=?_)
        | (refine mt_allocS (d:=10) hm (k:=?_); clear hm; intro b10 _ hm)
        | (refine mt_push (d:=73) hm (k:=?_); clear hm; intro a73 cp73 _ _ hm; replace hm := hR.back hm; clear hR; try simp only [setn] at hm)
        | (refine ws_nil ?_; replace hm := hR.back hm; clear hR; try simp only [setn] at hm)
        | refine i_load1 hm (k:=?_)
        | (refine m_storeAll hm (k:=?_); clear hm; intro _ hm; try simp only [setn] at hm)
        | (refine m_store1 hm (k:=?_); clear hm; intro _ hm; try simp only [setn] at hm)
        | refine op_move (k:=?_)
        | refine op_assign (k:=?_)
        | refine op_eql (k:=?_)
        | refine op_nilCheck (k:=?_)
        | refine op_add (k:=?_)
        | refine op_fieldAddr (k:=?_)
        | refine wl_nil ?_
        | refine at_then_normal ?_
        | refine at_block_normal ?_
        | refine wc_seq ?_
        | refine wc_region ?_
        | refine wc_block ?_
        | refine wc_skip ?_
        | refine wc_cond_false (hf:=?_)
        | (refine wc_cond_dec (ht:=fun _ => ?_) (hf:=fun _ => ?_)<;> (try first | contradiction | (exfalso; omega)))
        | refine v_move (k:=?_)
        | refine v_nilCheck (k:=?_)
        | refine v_fieldAddr (k:=?_)
        | refine v_struct (k:=?_)
        | refine wv_nil ?_)
        all_goals try (exfalso; first | omega | contradiction)
        refine at_round (⟨k + 1, I3, sc1 ++ [(⟨y.name, y.label, Sp.opOf false y.fr⟩, .pointer (some ⟨bt, ot, none⟩))], q, a73, cp73, zs3⟩ : InX) (by exact ⟨rfl, rfl, rfl, rfl, rfl, rfl, trivial⟩)
          ⟨?_, hle2.trans hleI3, by dsimp only; omega, by dsimp only; rw [hst, List.map_append]; rfl, ⟨rr ++ [_], by dsimp only; rw [hrr, List.append_assoc]⟩, by dsimp only; rw [List.length_append]; show _ + 1 ≤ _; omega, by dsimp only; rw [List.map_append]; exact hnx, fun q' hq' => ?_, hz3⟩ (by dsimp only; omega)
        · dsimp only [InSt]
          rw [List.flatMap_append, List.length_append]
          exact (hm.perm pmIc).tl
        · rcases List.mem_append.1 hq' with h | h
          · exact ((hats q' h).le hleI2).le hleI3
          · obtain rfl := List.mem_singleton.1 h
            exact .inr ⟨bt, ot, _, ec, y, ea, _, _, rfl, by rw [ho]; exact hpt2, by rw [ho]⟩
    rw [if_neg k1] at hst
    by_cases k2 : y.kind = 2
    · rw [if_pos k2] at hst
      have hG := i_get (bd := bd) (bf := bf) (sc := sc1) (o := p1.1) (more := p1.2) (sa := sa1) (sp := sp1) (bo := bo) (zs := zs1) y.name I2 (by omega)
      repeat' (first
      | (refine m_call (d:=83) hm (hp:=pm3_0) (hc:=hG) (k:=?_); clear hm; rintro _ I3 _ w3 (⟨i, q, b2, hgi, hfl, hsa, rfl, rfl⟩ | ⟨hfl, bl, rfl, rfl⟩) hleI3 hm)
      | refine wc_hold 15 ?_
      | refine i_load1 hm (k:=?_)
      | refine op_move (k:=?_)
      | refine op_assign (k:=?_)
      | refine op_eql (k:=?_)
      | refine op_nilCheck (k:=?_)
      | refine op_fieldAddr (k:=?_)
      | refine wl_nil ?_
      | refine at_then_normal ?_
      | refine wc_seq ?_
      | refine wc_region ?_
      | refine wc_block ?_
      | (refine wc_cond_dec (ht:=fun _ => ?_) (hf:=fun _ => ?_)<;> (try first | contradiction | (exfalso; omega))))
      all_goals try (exfalso; first | omega | contradiction)
      · subst hsa
        rw [Sp.setI, hfl] at hst
        dsimp only at hst
        have hqm := List.mem_of_getElem? hgi
        have hA := ((hats q hqm).le hleI2).le hleI3
        obtain ⟨q1, q2, q3⟩ := encLi_at (o := p1.1) hgi
        have hR := i_raise (bd := bd) (bf := bf) (sc := sc1) (o := p1.1) (more := p1.2) (sa := some ⟨b2, 0, none⟩) (sp := sp1) (bo := bo) (zs := zs1) I3 q.2 q.1.op p1.1 av hav hA hz hokp
        rw [show ((p1.1, p1.2) : Sp.LP) = p1 from rfl] at hR
        have hatn := fun (J : Imm) (m : Le I3 J) (q' : Loc) (h : q' ∈ sc1) => (((hats q' h).le hleI2).le hleI3).le m
        rcases hA with ⟨hv, hop⟩ | ⟨b9, o9, tc9, ec9, y9, ea9, v1, v2, hv, hp9, hop⟩
        · rw [hop] at hR hst
          rw [show Sp.raiseO p1 none av = p1 from rfl] at hR hst
          rw [hv] at hR q3
          refine ⟨?_⟩
          repeat' (first
          | (refine mi_loadRow (i := 1) (d := 88) hm (by rfl) (by rfl) (by rfl) gt1 (by exact q3) ?_)
          | (refine m_call (d:=90) hm (hp:=pm3_0) (hc:=hR) (k:=?_); clear hm; rintro _ I4 _ _ ⟨rfl, zs4, hz4, rfl⟩ hleI4 hm; try simp only [setn] at hm)
          | (refine mi_loadRow (i := 1) (d := 94) hm (by rfl) (by rfl) (by rfl) gt1 (by exact q3) ?_)
          | (refine op_neq_nilptr (e := 43) (by kernel_rfl) (by rfl) (by rfl) (by rfl) (by rfl) ?_)
          | refine op_move (k:=?_)
          | refine op_pick_false (k:=?_)
          | refine op_nilCheck (k:=?_)
          | refine op_add (k:=?_)
          | refine op_fieldAddr (k:=?_)
          | refine wl_skip (k:=?_)
          | refine wl_nil ?_
          | refine at_then_normal ?_
          | refine at_block_normal ?_
          | refine wc_seq ?_
          | refine wc_region ?_
          | refine wc_skip ?_
          | refine wc_cond_false (hf:=?_))
          all_goals try (exfalso; first | omega | contradiction)
          exact at_round (⟨k + 1, I4, sc1, p1, some ⟨b2, 0, none⟩, sp1, zs4⟩ : InX) (by exact ⟨rfl, rfl, rfl, rfl, rfl, rfl, trivial⟩)
            ⟨hm, (hle2.trans hleI3).trans hleI4, by dsimp only; omega, hst, ⟨rr, hrr⟩, by dsimp only; omega, hap.rest, hatn I4 hleI4, hz4⟩ (by dsimp only; omega)
        · rw [hv] at hR q3
          cases ho9 : y9.opn with
          | false =>
            rw [ho9] at hop hp9
            rw [hop] at hR hst
            rw [show Sp.raiseO p1 (Sp.opOf false y9.fr) av = p1 from rfl] at hR hst
            refine ⟨?_⟩
            repeat' (first
            | (refine mi_loadRow (i := 1) (d := 88) hm (by rfl) (by rfl) (by rfl) gt1 (by exact q3) ?_)
            | (refine m_call (d:=90) hm (hp:=pm3_0) (hc:=hR) (k:=?_); clear hm; rintro _ I4 _ _ ⟨rfl, zs4, hz4, rfl⟩ hleI4 hm; try simp only [setn] at hm; replace hp9 := hp9.le hleI4)
            | (refine mi_loadRow (i := 1) (d := 94) hm (by rfl) (by rfl) (by rfl) gt1 (by exact q3) ?_)
            | (refine mi_loadRow (i := 1) (d := 100) hm (by rfl) (by rfl) (by rfl) gt1 (by exact q3) ?_)
            | (refine op_neq_nilptr (e := 43) (by kernel_rfl) (by rfl) (by rfl) (by rfl) (by rfl) ?_)
            | refine i_load1 hm (k:=?_)
            | refine op_move (k:=?_)
            | refine op_pick_true (k:=?_)
            | refine op_nilCheck (k:=?_)
            | refine op_add (k:=?_)
            | refine op_fieldAddr (k:=?_)
            | refine wl_nil ?_
            | refine at_then_normal ?_
            | refine at_block_normal ?_
            | refine wc_seq ?_
            | refine wc_region ?_
            | refine wc_skip ?_
            | refine wc_cond_false (hf:=?_))
            all_goals try (exfalso; first | omega | contradiction)
            exact at_round (⟨k + 1, I4, sc1, p1, some ⟨b2, 0, none⟩, sp1, zs4⟩ : InX) (by exact ⟨rfl, rfl, rfl, rfl, rfl, rfl, trivial⟩)
              ⟨hm, (hle2.trans hleI3).trans hleI4, by dsimp only; omega, hst, ⟨rr, hrr⟩, by dsimp only; omega, hap.rest, hatn I4 hleI4, hz4⟩ (by dsimp only; omega)
          | true =>
            rw [ho9] at hop hp9
            rw [hop] at hR hst
            rw [show Sp.raiseO p1 (Sp.opOf true y9.fr) av = Sp.raiseI p1 y9.fr av from rfl] at hR hst
            have hset : (sc1.flatMap (encLi p1.1)).set (i * 3 + 1) (nt ((Sp.raiseI p1 y9.fr av).1 y9.fr)) = sc1.flatMap (encLi (Sp.raiseI p1 y9.fr av).1) := by
              rw [Sp.raiseI_fst]
              have e : Sp.upL p1.1 y9.fr (p1.1 y9.fr ||| av) y9.fr = p1.1 y9.fr ||| av := by
                show (if y9.fr = y9.fr then _ else _) = _
                rw [if_pos rfl]
              rw [e]
              exact enc_set hgi hop (List.nodup_append.1 hap.rest).1
            have hil : i * 3 + 1 < (sc1.flatMap (encLi p1.1)).length := by
              rw [enc_len]
              have := (List.getElem?_eq_some_iff.1 hgi).1
              omega
            generalize Sp.raiseI p1 y9.fr av = q9 at hR hst hset
            refine ⟨?_⟩
            repeat' (first
            | (refine mi_loadRow (i := 1) (d := 88) hm (by rfl) (by rfl) (by rfl) gt1 (by exact q3) ?_)
            | (refine m_call (d:=90) hm (hp:=pm3_0) (hc:=hR) (k:=?_); clear hm; rintro _ I4 _ _ ⟨rfl, zs4, hz4, rfl⟩ hleI4 hm; try simp only [setn] at hm; replace hp9 := hp9.le hleI4)
            | (refine mi_loadRow (i := 1) (d := 94) hm (by rfl) (by rfl) (by rfl) gt1 (by exact q3) ?_)
            | (refine mi_loadRow (i := 1) (d := 100) hm (by rfl) (by rfl) (by rfl) gt1 (by exact q3) ?_)
            | (refine op_neq_nilptr (e := 43) (by kernel_rfl) (by rfl) (by rfl) (by rfl) (by rfl) ?_)
            | (refine wc_quiet_tail (id:=17) 13 (h:=?_))
            | (refine mq_loadRow (i := 1) (d := 113) hm (by rfl) (by rfl) (by rfl) gt1 (by exact q3) ?_)
            | (refine mq_lookupZ (d := 117) hm (by rfl) (by rfl) (by rfl) (by rfl) gt2 zero_nt ?_; rw [hz4.get y9.fr])
            | (refine mi_storeRow (i := 1) hm (by rfl) (by rfl) (by rfl) (by rfl) gt1 (by rfl) (by rfl) hil ?_; clear hm; intro _ hm; try simp only [setn] at hm; rw [hset] at hm)
            | refine i_load1 hm (k:=?_)
            | refine mq_load1 hm (k:=?_)
            | refine iq_load1 hm (k:=?_)
            | refine op_move (k:=?_)
            | refine op_pick_true (k:=?_)
            | refine op_nilCheck (k:=?_)
            | refine op_add (k:=?_)
            | refine op_fieldAddr (k:=?_)
            | refine wl_nil ?_
            | refine at_then_normal ?_
            | refine at_block_normal ?_
            | refine wc_seq ?_
            | refine wc_region ?_
            | (refine wq_nil_tail ?_; intro _ hkq; replace hm := hm.kept0 hkq; clear hkq)
            | refine wc_cond_true (ht:=?_)
            | refine q_move (k:=?_)
            | refine q_nilCheck (k:=?_)
            | refine q_fieldAddr (k:=?_))
            all_goals try (exfalso; first | omega | contradiction)
            exact at_round (⟨k + 1, I4, sc1, q9, some ⟨b2, 0, none⟩, sp1, zs4⟩ : InX) (by exact ⟨rfl, rfl, rfl, rfl, rfl, rfl, trivial⟩)
              ⟨hm, (hle2.trans hleI3).trans hleI4, by dsimp only; omega, hst, ⟨rr, hrr⟩, by dsimp only; omega, hap.rest, hatn I4 hleI4, hz4⟩ (by dsimp only; omega)
      · rw [Sp.setI, hfl] at hst
        dsimp only at hst
        have hR := i_raise (bd := bd) (bf := bf) (sc := sc1) (o := p1.1) (more := p1.2) (sa := sa1) (sp := sp1) (bo := bo) (zs := zs1) I3 (.pointer none) none p1.1 av hav (.inl ⟨rfl, rfl⟩) hz hokp
        rw [show ((p1.1, p1.2) : Sp.LP) = p1 from rfl, show Sp.raiseO p1 none av = p1 from rfl] at hR
        refine ⟨?_⟩
        repeat' (first
        | (refine m_call (d:=90) hm (hp:=pm3_1) (hc:=hR) (k:=?_); clear hm; rintro _ I4 _ _ ⟨rfl, zs4, hz4, rfl⟩ hleI4 hm; try simp only [setn] at hm)
        | (refine op_neq_nilptr (e := 43) (by kernel_rfl) (by rfl) (by rfl) (by rfl) (by rfl) ?_)
        | refine m_load1 hm (k:=?_)
        | refine op_move (k:=?_)
        | refine op_pick_false (k:=?_)
        | refine op_nilCheck (k:=?_)
        | refine op_add (k:=?_)
        | refine op_fieldAddr (k:=?_)
        | refine wl_skip (k:=?_)
        | refine wl_nil ?_
        | refine at_then_normal ?_
        | refine at_block_normal ?_
        | refine wc_seq ?_
        | refine wc_region ?_
        | refine wc_skip ?_
        | refine wc_cond_false (hf:=?_))
        all_goals try (exfalso; first | omega | contradiction)
        exact at_round (⟨k + 1, I4, sc1, p1, sa1, sp1, zs4⟩ : InX) (by exact ⟨rfl, rfl, rfl, rfl, rfl, rfl, trivial⟩)
          ⟨hm.left (H := [_, _, _]), (hle2.trans hleI3).trans hleI4, by dsimp only; omega, hst, ⟨rr, hrr⟩, by dsimp only; omega, hap.rest, fun q' h => (((hats q' h).le hleI2).le hleI3).le hleI4, hz4⟩ (by dsimp only; omega)
    rw [if_neg k2] at hst
    by_cases k34 : y.kind = 3 ∨ y.kind = 4
    · rw [if_pos k34] at hst
      have hT := ih y.thn (by omega) s2 s3 n3 I2 a1' c1 xs1 sc1 av p1 sa1 sp1 zs1 hav hokp hoks (by omega) hap.thn (fun q' h => (hats q' h).le hleI2) hz (hfe1.le hleI2) (hpf1.le hleI2) ((hr4.le hle1).le hleI2) (StsAt.le hleI2 _ _ (StsAt.le hle1 _ _ hx4))
      have hokT := Sp.stmsI_ok hlab y.thn n3 hokp hoks hav
      generalize (Sp.stmsI its y.thn (sc1.map (·.1)) av p1).2 = q3 at hT hokT hst
      have hE2 := fun (J : Imm) (m : Le I2 J) (sa : Option Addr) (sp : Nat) (zs : EntsZ) (hzz : OpenZ zs q3.1) => ih y.els (by omega) s4 s5 n4 J a2' c2 xs2 sc1 av q3 sa sp zs hav hokT.1 hoks (by omega) hap.els (fun q' h => ((hats q' h).le hleI2).le m) hzz ((hfe1.le hleI2).le m) ((hpf1.le hleI2).le m) (((hr5.le hle1).le hleI2).le m) (StsAt.le m _ _ (StsAt.le hleI2 _ _ (StsAt.le hle1 _ _ hx5)))
      generalize (Sp.stmsI its y.els (sc1.map (·.1)) av q3).2 = q4 at hE2 hst
      repeat' (first
      | (refine m_call (d:=129) hm (hp:=pm3_0) (hc:=hT) (k:=?_); clear hm; rintro _ I3 _ _ ⟨rfl, sa3, sp3, zs3, hz3, rfl⟩ hleI3 hm; try simp only [setn] at hm; replace hpt2 := hpt2.le hleI3)
      | (refine m_call (d:=136) hm (hp:=pm3_0) (hc:=hE2 I3 hleI3 sa3 sp3 zs3 hz3) (k:=?_); clear hm; rintro _ I4 _ _ ⟨rfl, sa4, sp4, zs4, hz4, rfl⟩ hleI4 hm; try simp only [setn] at hm)
      | refine i_load1 hm (k:=?_)
      | refine op_move (k:=?_)
      | refine op_assign (k:=?_)
      | refine op_eql (k:=?_)
      | refine op_nilCheck (k:=?_)
      | refine op_add (k:=?_)
      | refine op_fieldAddr (k:=?_)
      | refine wl_nil ?_
      | refine at_then_normal ?_
      | refine at_block_normal ?_
      | refine wc_seq ?_
      | refine wc_region ?_
      | refine wc_block ?_
      | refine wc_skip ?_
      | (refine wc_cond_dec (ht:=fun _ => ?_) (hf:=fun _ => ?_)<;> (try first | contradiction | (exfalso; omega))))
      all_goals try (exfalso; first | omega | contradiction)
      all_goals exact at_round (⟨k + 1, I4, sc1, q4, sa4, sp4, zs4⟩ : InX) (by exact ⟨rfl, rfl, rfl, rfl, rfl, rfl, trivial⟩) ⟨hm, (hle2.trans hleI3).trans hleI4, by dsimp only; omega, hst, ⟨rr, hrr⟩, by dsimp only; omega, hap.rest, fun q' h => (((hats q' h).le hleI2).le hleI3).le hleI4, hz4⟩ (by dsimp only; omega)
    · rw [if_neg k34] at hst
      repeat' (first
      | refine i_load1 hm (k:=?_)
      | refine op_move (k:=?_)
      | refine op_assign (k:=?_)
      | refine op_eql (k:=?_)
      | refine op_nilCheck (k:=?_)
      | refine op_add (k:=?_)
      | refine op_fieldAddr (k:=?_)
      | refine wl_nil ?_
      | refine at_then_normal ?_
      | refine at_block_normal ?_
      | refine wc_seq ?_
      | refine wc_region ?_
      | refine wc_block ?_
      | refine wc_skip ?_
      | (refine wc_cond_dec (ht:=fun _ => ?_) (hf:=fun _ => ?_)<;> (try first | contradiction | (exfalso; omega))))
      all_goals try (exfalso; first | omega | contradiction)
      exact at_round (⟨k + 1, I2, sc1, p1, sa1, sp1, zs1⟩ : InX) (by exact ⟨rfl, rfl, rfl, rfl, rfl, rfl, trivial⟩)
        ⟨hm, hle2, by dsimp only; omega, hst, ⟨rr, hrr⟩, by dsimp only; omega, hap.rest, fun q' h => (hats q' h).le hleI2, hz⟩ (by dsimp only; omega)
  · obtain rfl : k = l.length := by omega
    rw [List.take_length] at hinv
    rw [hinv]
    have hpl : sc.length ≤ sc1.length := by rw [hrr, List.length_append]; omega
    have htk : (sc1.flatMap (encLi p1.1)).take (sc.length * 3) = sc.flatMap (encLi p1.1) := by
      rw [hrr, List.flatMap_append, ← enc_len p1.1 sc, List.take_left]
    repeat' (first
    | (refine m_sliceTo (d:=144) hm (hmn:=hpl) (k:=?_); clear hm; intro hm; try simp only [setn] at hm)
    | refine m_load1 hm (k:=?_)
    | (refine m_store1 hm (k:=?_); clear hm; intro _ hm; try simp only [setn] at hm)
    | refine op_move (k:=?_)
    | refine op_lss (k:=?_)
    | refine op_nilCheck (k:=?_)
    | refine op_fieldAddr (k:=?_)
    | refine wl_nil ?_
    | refine at_then_normal ?_
    | refine at_then_exit ?_
    | refine at_block_exit ?_
    | refine wc_seq ?_
    | refine wc_region ?_
    | refine wc_exit ?_
    | refine at_end0 (h:=?_)
    | (refine wc_cond_dec (ht:=fun _ => ?_) (hf:=fun _ => ?_)<;> (try first | contradiction | (exfalso; omega))))
    all_goals try (exfalso; omega)
    rw [htk] at hm
    exact ⟨I1, _, ⟨rfl, sa1, sp1, zs1, hz, rfl⟩, hm⟩
end
end Go.Proofs.YthmdffgiockcbaaDoor
end
section
namespace Go.Fw
open Go
/-- a map of numbers that does not turn. -/
def MapIZ (I : Imm) (b : Nat) (es : EntsZ) : Prop := I b = some (.map (entsZ es 0).toArray es.length)
theorem MapIZ.le {I I' : Imm} {b : Nat} {es : EntsZ} (h : MapIZ I b es) (hl : Le I I') : MapIZ I' b es := hl _ _ h
theorem Mem.freezeMZ {E : Ent} {I : Imm} {H : List HItem} {w : World} {b : Nat} {es : EntsZ} (hm : Mem E I (.mz b es :: H) w) : ∃ I', Le I I' ∧ Mem E I' H w ∧ MapIZ I' b es := by
  have hf := hm.free _ List.mem_cons_self b rfl
  exact ⟨I.add b (.map (entsZ es 0).toArray es.length), Le.add hf, hm.tl.freezeB (hm.ok _ List.mem_cons_self) hf (hm.born _ List.mem_cons_self b rfl) (fun h hh e => (List.pairwise_cons.1 hm.dist).1 h hh b rfl e), Imm.add_self _ _ _⟩
/-- what a call only reads is lent to it: it does not turn meanwhile. -/
theorem CalM.lend {P : Program} {f : FuncId} {args : Array Value} {I : Imm} {B H : List HItem} {Post : Value → List HItem → Prop} {QJ : Imm → Prop}
    (hJ : ∀ E w, Mem E I (B ++ H) w → ∃ J, Le I J ∧ Mem E J H w ∧ QJ J) (hc : ∀ J, Le I J → QJ J → CalM P f args J H (fun v _ H' => Post v H')) :
    CalM P f args I (B ++ H) (fun v _ H' => ∃ H'', H' = B ++ H'' ∧ Post v H'') := by
  refine CalM.of fun w E hm => ?_
  obtain ⟨J, hl, hmJ, hq⟩ := hJ E w hm
  have hcr := (hc J hl hq).run w ⟨Kept.refl _ _, Le.refl _, hmJ.inv, hmJ.ok, hmJ.free, fun x hx c hc => .inl (by simp only [blks, List.mem_filterMap]; exact ⟨x, hx, hc⟩), hmJ.dist, fun _ _ h => .inl h⟩
  refine hcr.mono fun v w' ⟨J', H', hP, h2⟩ => ⟨I, B ++ H', ⟨H', rfl, hP⟩, ?_⟩
  have h3 : Mem E J' H' w' := by simpa using (Mem.back (R := []) (by simpa using hmJ) h2)
  have hl' : Le I J' := hl.trans h2.le
  have hBH : ∀ x ∈ B, ∀ b, x.blk = some b → b ∉ blks H := fun x hx b hb hbl => by
    obtain ⟨k, hk, hkb⟩ := mem_blks hbl
    exact (List.pairwise_append.1 hm.dist).2.2 x hx k hk b hb hkb
  refine ⟨h3.kept, hm.le, fun c o hc => h3.inv c o (hl' c o hc), fun x hx => ?_, fun x hx c hc => ?_, fun x hx c hc => ?_, List.pairwise_append.2 ⟨(List.pairwise_append.1 hm.dist).1, h3.dist, fun x hx y hy c hc hc' => ?_⟩, hm.grow⟩
  · rcases List.mem_append.1 hx with hx | hx
    · exact (hm.ok x (List.mem_append_left _ hx)).kept h2.kept (hBH x hx)
    · exact h3.ok x hx
  · rcases List.mem_append.1 hx with hx | hx
    · exact hm.free x (List.mem_append_left _ hx) c hc
    · have := h3.free x hx c hc
      cases hI : I c with
      | none => rfl
      | some o => rw [hl' c o hI] at this; cases this
  · rcases List.mem_append.1 hx with hx | hx
    · exact hm.born x (List.mem_append_left _ hx) c hc
    · exact h3.born x hx c hc
  · have hlt := (hm.ok x (List.mem_append_left _ hx)).lt hc
    rcases h2.born y hy c hc' with h | h
    · exact hBH x hx c hc h
    · exact absurd hlt (Nat.not_lt.2 h)
section
variable {P : Program} {N : Nat} {ds : List Deferred} {Q : Exit → Act → World → Prop} {K : Act → World → Prop} {KV : Act → Prop} {l : Log} {w w0 : World} {ops : Array Oper} {os tail : List Oper} {X : List Nat}
variable {d : Nat} {ty : TypeId} {pos : String} {af : Array Edge} {g : Option (Nat × Bool)} {t : TypeId} {x y : Operand} {E : Ent} {I I0 : Imm} {H G R : List HItem} {n f : Nat} {listed : Array Bool}
theorem wu_fieldAddr {i off : Nat} [Fld P t i off] {b o' : Nat} (hC : Kept X w0 w) (hw : want ops l ⟨some d, .fieldAddr t x i, ty, pos, af, g⟩ = some true) (hN : Nat.blt d N = true)
    (hx : ev l x = some (.pointer (some ⟨b, o', none⟩))) (k : WA P N ds ops Q X w0 n f listed tail ((d, .pointer (some ⟨b, o' + off, none⟩)) :: l) w) :
    WU P N ds ops Q X w0 n f listed tail ⟨some d, .fieldAddr t x i, ty, pos, af, g⟩ l w :=
  wu_value rfl hw hN (fun a ha => by
    obtain ⟨fs, f, inf, h1, h2, h3, h4, h5⟩ := Fld.out (P := P) (t := t) (i := i)
    have h6 := run_underlying (P := P) (w := w) h1
    simp [execOp, Instr.fieldAt, Instr.sureAddr, ha.ev hx, h6, h2, fieldPlace, sizeOf, typeInfo, h4, h5, h3, Addr.add_lit]) hC k
theorem wu_nilCheck {p : Addr} (hC : Kept X w0 w) (hw : want ops l ⟨some d, .nilCheck x, ty, pos, af, g⟩ = some true) (hN : Nat.blt d N = true)
    (hx : ev l x = some (.pointer (some p))) (k : WA P N ds ops Q X w0 n f listed tail ((d, .pointer (some p)) :: l) w) : WU P N ds ops Q X w0 n f listed tail ⟨some d, .nilCheck x, ty, pos, af, g⟩ l w :=
  wu_value rfl hw hN (fun c hc => by simp [execOp, hc.ev hx]) hC k
theorem run_load1 [TyOne P t] {a : Act} (ha : Fits N ds l a) {b off : Nat} {c : Array Value} {e : TypeId} {fr : Nat × Nat} {v : Value} (hx : ev l x = some (.pointer (some ⟨b, off, none⟩))) (hb : w.heap[b]? = some (.cells c e fr)) (hc : c[off]? = some v) :
    (execOp a.eval ⟨some d, .load t x, ty, pos, af, g⟩).run P w = .ok (.value v) w := by
  obtain ⟨dd, h1, h2⟩ := TyOne.out (P := P) (t := t)
  have h4 := cell_of hb hc
  simp [execOp, Instr.loadAt, Instr.sureAddr, loadVar, run_isAgg h1, h2, ha.ev hx, load, Sem.run, h4]
/-- a cell of an owned row, in turn. -/
theorem mu_loadRow [TyOne P t] {i b off m cp sz : Nat} {e : TypeId} {xs : List Value} {v : Value} (hm : Mem ⟨w0, X, I0⟩ I H w) (hw : want ops l ⟨some d, .load t x, ty, pos, af, g⟩ = some true) (hN : Nat.blt d N = true)
    (hx : ev l x = some (.pointer (some ⟨b, off, none⟩))) (hb : H[i]? = some (.row (.slice (some ⟨b, 0, none⟩) m cp) e sz m xs)) (hc : xs[off]? = some v)
    (k : WA P N ds ops Q X w0 n f listed tail ((d, v) :: l) w) : WU P N ds ops Q X w0 n f listed tail ⟨some d, .load t x, ty, pos, af, g⟩ l w := by
  obtain ⟨c, fr, h1, h2⟩ := Mem.rowCell (hm.ok _ (List.mem_of_getElem? hb)) hc
  exact wu_value rfl hw hN (fun a ha => run_load1 ha hx h1 h2) hm.kept k
theorem mu_store1 {i b off by_ : Nat} [Elem P t 1 by_] {c : List Value} {e : TypeId} {v : Value} {dst : Option Nat} (hm : Mem ⟨w0, X, I0⟩ I H w) (hd : dst = none) (hw : want ops l ⟨dst, .store t x y, ty, pos, af, g⟩ = some true)
    (hx : ev l x = some (.pointer (some ⟨b, off, none⟩))) (hy : ev l y = some v) (hb : H[i]? = some (.obj b (.cells c.toArray e (0, 0)))) (hn : v.cells.toList = [v]) (ho : Nat.blt off c.length = true) (h1 : v.oneCell' = true)
    (k : ∀ w', Mem ⟨w0, X, I0⟩ I (H.set i (.obj b (.cells (c.set off v).toArray e (0, 0)))) w' → WA P N ds ops Q X w0 n f listed tail l w') :
    WU P N ds ops Q X w0 n f listed tail ⟨dst, .store t x y, ty, pos, af, g⟩ l w := by
  subst hd
  have hget := hm.get hb
  have hlt : off < c.length := by simpa [Nat.blt_eq] using ho
  have h2 := run_storeVar (P := P) (t := t) (off := off) (n := 1) v hget (by rw [← Array.length_toList, hn]; rfl) (by simp; omega) (by rw [hn]; simp [h1])
  generalize hc' : (c.toArray.toList.take off ++ v.cells.toList ++ c.toArray.toList.drop (off + 1)).toArray = c' at h2
  have e0 : c' = (c.set off v).toArray := by
    rw [← hc', hn, ← splice1 ho, List.append_assoc]
  rw [e0] at h2
  have hk : Kept [b] w (w.setRow b (c.set off v).toArray) := Kept.setRow hget _
  have hm' := hm.turn (h' := .obj b (.cells (c.set off v).toArray e (0, 0))) hb (by simpa [HItem.blk] using hk) (by
    show (w.setRow b (c.set off v).toArray).heap[b]? = _
    rw [setRow_heap w b c.toArray _ e (0, 0) hget]) (.inl rfl)
  refine wu_skip rfl hw (fun a ha => ?_) hm'.kept (k _ hm')
  simp only [execOp, Instr.storeAt, Instr.sureAddr, ha.ev hx, ha.ev hy, Sem.run_bind, Sem.run_pure, Result.andThen, h2]
/-- a cell of the owned row that stands first is written, in turn. -/
theorem mu_storeRow {by_ : Nat} [Elem P t 1 by_] {b off m cap sz : Nat} {e : TypeId} {xs : List Value} {v : Value} {dst : Option Nat} (hm : Mem ⟨w0, X, I0⟩ I (.row (.slice (some ⟨b, 0, none⟩) m cap) e sz m xs :: H) w) (hd : dst = none) (hw : want ops l ⟨dst, .store t x y, ty, pos, af, g⟩ = some true)
    (hx : ev l x = some (.pointer (some ⟨b, off, none⟩))) (hy : ev l y = some v) (hn1 : v.cells.toList = [v]) (h1 : v.oneCell' = true) (ho : off < xs.length)
    (k : ∀ w', Mem ⟨w0, X, I0⟩ I (.row (.slice (some ⟨b, 0, none⟩) m cap) e sz m (xs.set off v) :: H) w' → WA P N ds ops Q X w0 n f listed tail l w') :
    WU P N ds ops Q X w0 n f listed tail ⟨dst, .store t x y, ty, pos, af, g⟩ l w := by
  have h0 := hm.rowLen
  rcases Nat.eq_zero_or_pos m with hn | hn
  · subst hn; rw [Nat.zero_mul] at h0; omega
  obtain ⟨b', cp, cur, hv, hm2, hcp, hcm, hs, ht⟩ := hm.openRow hn
  injection hv with e1 _ e3
  injection e1 with e1
  injection e1 with e1
  subst e1; subst e3
  obtain ⟨cL, rfl⟩ : ∃ cL : List Value, cur = cL.toArray := ⟨cur.toList, by simp⟩
  have hs' : cL.length = cap * sz := by simpa using hs
  have ht' : cL.take (m * sz) = xs := by simpa using ht
  have hle : m * sz ≤ cap * sz := Nat.mul_le_mul_right _ hcp
  refine mu_store1 (i := 0) hm2 hd hw hx hy rfl hn1 (by rw [Nat.blt_eq]; omega) h1 (fun w2 hm3 => k w2 ?_)
  have hm4 : Mem ⟨w0, X, I0⟩ I (.obj b (.cells (cL.set off v).toArray e (0, 0)) :: H) w2 := hm3
  exact hm4.shutRow hcp hcm (by simpa using hs') (by simp only; rw [List.take_set, ht'])
theorem iu_lookupZ {kt et : TypeId} [TyMap P t kt et] [TyInt P kt .i64] {b : Nat} {es : EntsZ} {s : Int} {zv : Value} (hm : Mem ⟨w0, X, I0⟩ I H w) (hb : MapIZ I b es) (hw : want ops l ⟨some d, .lookup t x y false, ty, pos, af, g⟩ = some true) (hN : Nat.blt d N = true)
    (hx : ev l x = some (.map (some b))) (hy : ev l y = some (numZ s)) (hz : ∀ w, (zeroValue et).run P w = .ok zv w)
    (k : WA P N ds ops Q X w0 n f listed tail ((d, mlookZ es s zv) :: l) w) : WU P N ds ops Q X w0 n f listed tail ⟨some d, .lookup t x y false, ty, pos, af, g⟩ l w :=
  wu_value rfl hw hN (fun a ha => run_lookupZ ha hx hy (hm.inv _ _ hb) hz) hm.kept k
end
end Go.Fw
end
