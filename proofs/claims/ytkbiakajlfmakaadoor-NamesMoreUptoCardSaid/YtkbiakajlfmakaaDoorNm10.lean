/- Own work: texts PostVar, PpD, ExM, PpE, PpF, PpG, one behind the other. -/
import Derived.Test.YtkbiakajlfmakaaDoorNm9
import Derived.MakeChecks
import Derived.LaidSub
import Derived.Lay
import Derived.Stop.LaidErr
import Derived.WideLaws
import Derived.Lib.MinMax
section
namespace Go.Proofs.YtkbiakajlfmakaaDoor
open Go.Fw
open Go.RowKit
theorem star_es : "*" ++ "errors.errorString" = "*errors.errorString" := by decide
theorem row_es (u : TypeId) (h : Tryd.prog.typeName? 3 u = some "*errors.errorString") : u = 261 :=
  typeName_ptr_named (nm := "errors.errorString") (by rw [star_es]; kernel_rfl) (by kernel_rfl) (by decide) u (by rw [star_es]; exact h)
theorem conv_of {l : List (String × DataW Unit)} {W : World} (h : laidMetH Tryd.prog l W) (hp : (l.all fun x => x.2.handleName?.isNone) = true)
    (he : l.filter (fun x => x.1 == "strconv.ErrRange") = [("strconv.ErrRange", Rows.laid_strconv_ErrRange)]) : Conv (immOf W) := by
  rw [MakeChecks.laidMetH_plain _ _ _ hp] at h
  have h1 := h.filter (fun x => x.1 == "strconv.ErrRange")
  rw [he] at h1
  obtain ⟨a, s, hv, _⟩ := laid_sentinel (g := 2) h1 (by kernel_rfl) (ti := 149) (by kernel_rfl) Tryd.underlying149 row_es Tryd.underlying261 Tryd.underlying263 rfl rfl Tryd.underlying9 (by kernel_rfl) (by kernel_rfl)
  have hg : Tryd.prog.globalNamed "strconv.ErrRange" = some 2 := by kernel_rfl
  simp only [World.var?, hg, Option.bind_some] at hv
  split at hv
  · rename_i cs ty fr hw
    obtain rfl := Option.some.inj hv
    exact ⟨_, _, _, _, _, hw, rfl⟩
  · cases hv
/-- a law's walk, at a world that holds the variable. -/
theorem run_kept {f : FuncId} {args : Array Value} {v : Value} {W : World} (h : CalM Tryd.prog f args (immOf W) [] (fun u _ H' => u = v ∧ H' = [])) : Cal Tryd.prog f args W (fun u W' => u = v ∧ Kept [] W W') :=
  (h.run W (Mem.start (immOf_inv W))).mono (fun _ _ ⟨_, _, ⟨h1, _⟩, h2⟩ => ⟨h1, h2.kept⟩)
end Go.Proofs.YtkbiakajlfmakaaDoor
end
section
namespace Go.Fw
open Go
section
variable {P : Program} {N : Nat} {ds : List Deferred} {Q : Exit → Act → World → Prop} {l : Log} {w : World} {ops : Array Oper} {os : List Oper}
variable {d : Nat} {ty : TypeId} {pos : String} {af : Array Edge} {g : Option (Nat × Bool)} {t t' : TypeId} {x y : Operand}
theorem op_neq_held {te : TypeId} {pe : Value} {c : Value} (hw : want ops l ⟨some d, .binOp .neq t x (.const c) t', ty, pos, af, g⟩ = some true) (hN : Nat.blt d N = true)
    (hx : ev l x = some (.iface te pe)) (hc : c = .nilIface) (ht : P.underlying t = some (.interface (P.methodsAt t))) (k : WL P N ds ops Q os ((d, .bool true) :: l) w) :
    WL P N ds ops Q (⟨some d, .binOp .neq t x (.const c) t', ty, pos, af, g⟩ :: os) l w :=
  wl_value rfl hw hN (fun a ha => by
    subst hc
    have h := run_neq_held_nil (P := P) w t te pe ht
    have e2 : a.eval (.const .nilIface) = .nilIface := rfl
    simp [execOp, ha.ev hx, e2, eqGuard, h]) k
theorem op_neq_none {c : Value} (hw : want ops l ⟨some d, .binOp .neq t x (.const c) t', ty, pos, af, g⟩ = some true) (hN : Nat.blt d N = true)
    (hx : ev l x = some .nilIface) (hc : c = .nilIface) (ht : P.underlying t = some (.interface (P.methodsAt t))) (k : WL P N ds ops Q os ((d, .bool false) :: l) w) :
    WL P N ds ops Q (⟨some d, .binOp .neq t x (.const c) t', ty, pos, af, g⟩ :: os) l w :=
  wl_value rfl hw hN (fun a ha => by
    subst hc
    have h := run_equal_nil_nil (P := P) w t ht
    have e2 : a.eval (.const .nilIface) = .nilIface := rfl
    simp [execOp, ha.ev hx, e2, eqGuard, binOp, h]) k
end
end Go.Fw
namespace Go.Proofs.YtkbiakajlfmakaaDoor
open Go.Fw
section
variable {I : Imm} {pb deep lc dc b1 : Nat} {la da : Option Addr} {T : Sp.Src} {E : Ent} {R : List HItem} {w : World} {s : Sp.St}
theorem p_decA (hdp : deep ≤ 12) (hm : Mem E I (.cell b1 [ptr pb] 189 :: qObj pb la lc T s (deep + 1) da dc :: R) w) :
    CalD Tryd.prog 211 #[ptr b1] w (fun w' => Mem E I (.cell b1 [ptr pb] 189 :: qObj pb la lc T s deep da dc :: R) w') := by
  refine enterD (N := 8) Tryd.func211 rfl [(0, ptr b1)] args1 rfl ?_
  have hsub : (((deep + 1 : Nat) : Int)) - 1 = (deep : Int) := by omega
  repeat' (first
    | (refine op_sub (by rfl) (by rfl) (by rfl) (by rfl) (by omega) ?_; rw [hsub])
    | refine m_load1 hm (by rfl) (by rfl) (by rfl) (by first | exact gt0 | exact gt1 | exact gt2 | exact gt3 | exact gt4 | exact gt5 | exact gt6) (by rfl) ?_
    | (refine m_store1 hm (by rfl) (by rfl) (by rfl) (by rfl) (by first | exact gt0 | exact gt1 | exact gt2 | exact gt3 | exact gt4 | exact gt5 | exact gt6) (by rfl) (by rfl) (by rfl) ?_; clear hm; intro _ hm; try simp only [setn] at hm)
    | refine op_nilCheck (by rfl) (by rfl) (by rfl) ?_
    | refine op_fieldAddr (by rfl) (by rfl) (by rfl) ?_
    | refine wl_nil ?_
    | refine wc_region ?_
    | refine at_end0 (by rfl) ?_)
  exact hm
theorem p_decB (hdp : deep ≤ 12) (hm : Mem E I (.cell b1 [ptr pb] 189 :: qObj pb la lc T s (deep + 1) da dc :: R) w) :
    CalD Tryd.prog 185 #[ptr b1] w (fun w' => Mem E I (.cell b1 [ptr pb] 189 :: qObj pb la lc T s deep da dc :: R) w') := by
  refine enterD (N := 8) Tryd.func185 rfl [(0, ptr b1)] args1 rfl ?_
  have hsub : (((deep + 1 : Nat) : Int)) - 1 = (deep : Int) := by omega
  repeat' (first
    | (refine op_sub (by rfl) (by rfl) (by rfl) (by rfl) (by omega) ?_; rw [hsub])
    | refine m_load1 hm (by rfl) (by rfl) (by rfl) (by first | exact gt0 | exact gt1 | exact gt2 | exact gt3 | exact gt4 | exact gt5 | exact gt6) (by rfl) ?_
    | (refine m_store1 hm (by rfl) (by rfl) (by rfl) (by rfl) (by first | exact gt0 | exact gt1 | exact gt2 | exact gt3 | exact gt4 | exact gt5 | exact gt6) (by rfl) (by rfl) (by rfl) ?_; clear hm; intro _ hm; try simp only [setn] at hm)
    | refine op_nilCheck (by rfl) (by rfl) (by rfl) ?_
    | refine op_fieldAddr (by rfl) (by rfl) (by rfl) ?_
    | refine wl_nil ?_
    | refine wc_region ?_
    | refine at_end0 (by rfl) ?_)
  exact hm
end
end Go.Proofs.YtkbiakajlfmakaaDoor
end
section
namespace Go.Sp
theorem tight_le (t : List UInt8) : tight t ≤ 3 := by
  rw [tight]
  split
  · omega
  · split
    · omega
    · split <;> omega
end Go.Sp
namespace Go.Proofs.YtkbiakajlfmakaaDoor
open Go.Fw
/-- an expression's cells, its arguments' slice seen. -/
abbrev exCells (e : Sp.Ex) (ea : Option Addr) (ec : Nat) : List Value := [nt e.kind, str e.name, nt e.n, .slice ea e.args.length ec, nt e.fr, nt e.to]
abbrev ex0 : List Value := [.int .i64 0, str [], .int .i64 0, .slice none 0 0, .int .i64 0, .int .i64 0]
theorem exAt_cells {I : Imm} {e : Sp.Ex} {ea : Option Addr} {ec : Nat} {xs : List Value} (h1 : RowI I 120 6 (.slice ea e.args.length ec) e.args.length xs) (h2 : ExsAt I e.args xs) : ExAt I e (exCells e ea ec) := by
  cases e with
  | mk k nm n args f t => exact .of h1 h2
theorem exs2 {I : Imm} {e1 e2 : Sp.Ex} {c1 c2 : List Value} (h1 : ExAt I e1 c1) (h2 : ExAt I e2 c2) : ExsAt I [e1, e2] (c1 ++ (c2 ++ [])) := by
  rw [ExsAt]; exact ⟨c1, _, rfl, h1, by rw [ExsAt]; exact ⟨c2, [], rfl, h2, .nil⟩⟩
theorem Ok.digs {T : Sp.Src} (h : Ok T) {i : Nat} (hk : (T.tok i).kind = 2) : ∀ c ∈ (T.tok i).text, 48 ≤ c.toNat ∧ c.toNat ≤ 57 := by
  rcases Nat.lt_or_ge i T.l.length with h1 | h1
  · rw [Sp.Src.tok, List.getD_eq_getElem?_getD, List.getElem?_eq_getElem h1] at hk ⊢
    exact h.dig _ (List.getElem_mem h1) hk
  · rw [Sp.tok_end h1] at hk; cases hk
theorem st_row0 (I : Imm) : RowI I 122 15 (.slice none ([] : List Sp.Stm).length 0) ([] : List Sp.Stm).length [] := rowI_nil _ _ _ _ _
theorem stAt_cells {I : Imm} {s : Sp.Stm} {ea a1 a2 : Option Addr} {ec c1 c2 : Nat} {ex xs1 xs2 : List Value}
    (h2 : RowI I 120 6 (.slice ea s.e.args.length ec) s.e.args.length ex) (h3 : ExsAt I s.e.args ex)
    (h4 : RowI I 122 15 (.slice a1 s.thn.length c1) s.thn.length xs1) (h5 : StsAt I s.thn xs1) (h6 : RowI I 122 15 (.slice a2 s.els.length c2) s.els.length xs2) (h7 : StsAt I s.els xs2) :
    StAt I s (stCells s.kind s.name s.at_ s.label s.opn s.e ea ec (.slice a1 s.thn.length c1) (.slice a2 s.els.length c2) s.fr s.to) := by
  cases s with
  | mk k nm a lb o e thn els f t => exact .of h2 h3 h4 h5 h6 h7
abbrev nil0 : Value := .slice none 0 0
abbrev parRow (l : List Sp.Par) (n : Nat) (a : Option Addr) (c : Nat) : HItem := .row (.slice a n c) 60 3 n (l.flatMap encPar)
abbrev sndRow (l : List Sp.Rf) (n : Nat) (a : Option Addr) (c : Nat) : HItem := .row (.slice a n c) 75 2 n (l.flatMap encRf)
/-- what comes of a text's file. -/
abbrev ToFile (err : Nat) (its : List Sp.Itm) : Value → Imm → List HItem → Prop := fun v I' H' => ∃ a cp xs, v = .tuple #[.agg [.slice a its.length cp].toArray, nt err] ∧ RowI I' 33 10 (.slice a its.length cp) its.length xs ∧ ItsAt I' its xs ∧ H' = []
abbrev itRow (k : Nat) (a : Option Addr) (cp : Nat) (xs : List Value) : HItem := .row (.slice a k cp) 33 10 k xs
structure ItX where
  I : Imm
  da : Option Addr
  dc : Nat
  ap : Option Addr
  cp : Nat
  as_ : Option Addr
  cs : Nat
  ab : Option Addr
  cb : Nat
  xb : List Value
abbrev itV (q : Sp.Itm) (x : ItX) : List Value := itCells q.kind q.name q.label (.slice x.ap q.params.length x.cp) (.slice x.as_ q.sends.length x.cs) (.slice x.ab q.body.length x.cb) q.at_ q.size q.mark nil0
/-- what comes of an item. -/
abbrev ToIt (it : Sp.Itm) : Value → Imm → List HItem → Prop := fun v I' H' => ∃ cs, v = .agg cs.toArray ∧ ItAt I' it cs ∧ H' = []
end Go.Proofs.YtkbiakajlfmakaaDoor
end
section
namespace Go.Fw
open Go
section
variable {P : Program} {N : Nat} {ds : List Deferred} {Q : Exit → Act → World → Prop} {K : Act → World → Prop} {l : Log} {w : World} {ops : Array Oper} {os : List Oper}
variable {d : Nat} {ty : TypeId} {pos : String} {af : Array Edge} {g : Option (Nat × Bool)} {t t' : TypeId} {x y : Operand}
theorem op_max {ts : Array TypeId} {a b : Nat} (hw : want ops l ⟨some d, .call ⟨.builtin .max, #[x, y], ts⟩, ty, pos, af, g⟩ = some true) (hN : Nat.blt d N = true)
    (hx : ev l x = some (.int .i64 (a : Int))) (hy : ev l y = some (.int .i64 (b : Int))) (k : WL P N ds ops Q os ((d, .int .i64 ((max a b : Nat) : Int)) :: l) w) :
    WL P N ds ops Q (⟨some d, .call ⟨.builtin .max, #[x, y], ts⟩, ty, pos, af, g⟩ :: os) l w :=
  wl_value rfl hw hN (fun c hc => by
    have h := Lib.run_max_ints (P := P) w ts ty .i64 .i64 (a : Int) (b : Int)
    simp [execOp, resolve, invoke, builtin, hc.ev hx, hc.ev hy, h]
    omega) k
theorem q_max {ts : Array TypeId} {a b : Nat} (hw : want ops l ⟨some d, .call ⟨.builtin .max, #[x, y], ts⟩, ty, pos, af, g⟩ = some true) (hN : Nat.blt d N = true)
    (hx : ev l x = some (.int .i64 (a : Int))) (hy : ev l y = some (.int .i64 (b : Int))) (k : WQ P N ds ops w K os ((d, .int .i64 ((max a b : Nat) : Int)) :: l)) :
    WQ P N ds ops w K (⟨some d, .call ⟨.builtin .max, #[x, y], ts⟩, ty, pos, af, g⟩ :: os) l :=
  wq_value rfl hw hN (fun w' hkq c hc => by
    have h := Lib.run_max_ints (P := P) w' ts ty .i64 .i64 (a : Int) (b : Int)
    simp [execOp, resolve, invoke, builtin, hc.ev hx, hc.ev hy, h]
    omega) k
end
end Go.Fw
namespace Go.Proofs.YtkbiakajlfmakaaDoor
open Go.Fw
def AtomQ (T : Sp.Src) (pb f : Nat) : Prop := ∀ (I : Imm) (la : Option Addr) (lc deep : Nat) (da : Option Addr) (dc : Nat) (s : Sp.St), Conv I → TokR I T la lc → s.i ≤ T.l.length → 3 * (T.l.length - s.i) + 2 ≤ f →
  s.ds.length + 2 * (T.l.length - s.i) + 4 ≤ 1099511627776 → deep ≤ 12 → CalM Tryd.prog 208 #[ptr pb] I (QSt pb la lc T s deep da dc) (ToQE pb la lc T deep (Sp.atom T f deep s))
def ExprQ (T : Sp.Src) (pb f : Nat) : Prop := ∀ (I : Imm) (la : Option Addr) (lc deep : Nat) (da : Option Addr) (dc : Nat) (s : Sp.St) (m : Nat), Conv I → TokR I T la lc → s.i ≤ T.l.length → 3 * (T.l.length - s.i) + 3 ≤ f →
  s.ds.length + 2 * (T.l.length - s.i) + 4 ≤ 1099511627776 → deep ≤ 12 → CalM Tryd.prog 202 #[ptr pb, nt m] I (QSt pb la lc T s deep da dc) (ToQE pb la lc T deep (Sp.expr T f deep m s))
structure QExp where
  f : Nat
  e : Sp.Ex
  s : Sp.St
  I : Imm
  ea : Option Addr
  ec : Nat
  xs : List Value
  da : Option Addr
  dc : Nat
set_option maxHeartbeats 4000000 in
theorem p_expr_step (T : Sp.Src) (pb : Nat) (hT : Ok T) (n : Nat) (ih : ∀ g, g < n → AtomQ T pb g ∧ ExprQ T pb g) : ExprQ T pb n := by
  intro I la lc deep da dc s m hC hr hi hf hd hdp
  obtain ⟨f, rfl⟩ : ∃ f, n = f + 1 := ⟨n - 1, by omega⟩
  have h2 := hT.size
  have h3 := hT.len
  have hat := (ih f (by omega)).1 I la lc deep da dc s hC hr hi (by omega) hd hdp
  have hg := (Sp.goes_expr T f).1 deep s
  rw [Sp.expr]
  generalize Sp.atom T f deep s = r0 at hat hg ⊢
  have hg1 := hg.le
  have hg2 := hg.top hi
  have hg3 := hg.ds
  refine CalM.of fun w E hm => enter (N := 47) Tryd.func202 rfl [(0, ptr pb), (1, nt m)] args2 rfl ?_
  repeat' (first
    | (refine m_call hm (by rfl) (by rfl) (by rfl) (by first | exact pm0 | exact pm1_0 | exact pm1_1 | exact pm1_2 | exact pm1_3 | exact pm2_0 | exact pm2_1 | exact pm2_2 | exact pm2_3 | exact pm2_4 | exact pm3_0 | exact pm3_1 | exact pm3_2) (hat) ?_; clear hm; rintro _ I1 _ _ ⟨⟨ea, ec, xs, rfl, hrow, hexs⟩, da1, dc1, rfl⟩ hle hm; have hleI1 := hle; try simp only [setn] at hm)
    | (refine m_allocS (d := 4) hm (by rfl) (by rfl) ?_; clear hm; intro b4 _ hm)
    | (refine m_varS (d := 5) hm (by rfl) (by rfl) (by rfl) (by rfl) (by rfl) ?_; clear hm; intro b5 _ hm)
    | refine op_move (by rfl) (by rfl) (by rfl) ?_
    | refine wl_nil ?_
    | refine at_then_normal ?_
    | refine wc_seq ?_
    | refine wc_region ?_
    | refine wc_block ?_)
  refine wc_loop (fun x : QExp => [(0, ptr pb), (1, nt m), (4, ptr b4), (5, ptr b5)])
    (fun x w' => Mem E x.I [qObj pb la lc T x.s deep x.da x.dc, dgRow x.s.ds x.da x.dc, .cell b5 (exCells x.e x.ea x.ec) 120, .cell b4 ex0 120] w' ∧ Le I x.I ∧ RowI x.I 120 6 (.slice x.ea x.e.args.length x.ec) x.e.args.length x.xs ∧ ExsAt x.I x.e.args x.xs ∧
      Sp.opL T x.f deep m x.e x.s = Sp.opL T f deep m r0.1 r0.2 ∧ 3 * (T.l.length - x.s.i) + 1 ≤ x.f ∧ x.f ≤ f ∧ x.s.i ≤ T.l.length ∧ x.s.ds.length + 2 * (T.l.length - x.s.i) ≤ s.ds.length + 2 * (T.l.length - s.i) + 1)
    (fun x => T.l.length - x.s.i) ⟨f, r0.1, r0.2, I1, ea, ec, xs, da1, dc1⟩ (by exact ⟨rfl, rfl, rfl, rfl, trivial⟩) ⟨hm.perm pm2_1, hleI1, hrow, hexs, rfl, by dsimp only; omega, Nat.le_refl _, hg2, by dsimp only; omega⟩ ?_
  clear hm hrow hexs hleI1
  rintro ⟨f1, e1, s1, I2, ea1, ec1, xs1, da2, dc2⟩ w2 ⟨hm, hle0, hrow, hexs, hO, hf1, hff, hi1, hd1⟩
  dsimp only at hm hle0 hrow hexs hO hf1 hff hi1 hd1 ⊢
  obtain ⟨f1, rfl⟩ : ∃ f', f1 = f' + 1 := ⟨f1 - 1, by omega⟩
  rw [Sp.opL] at hO
  dsimp only at hO
  replace hr := hr.le hle0
  replace hC := hC.le hle0
  have h1 := hT.at_ s1.i
  have ht := p_tight (T.tok s1.i).text
  by_cases hc : Sp.tight (T.tok s1.i).text < m ∨ Sp.tight (T.tok s1.i).text = 0
  · rw [if_pos hc] at hO
    rw [← hO]
    repeat' (first
      | (refine m_readC hm (by rfl) (by rfl) (by rfl) (by first | exact sub_nil | exact sub1_0 | exact sub1_1 | exact sub1_2 | exact sub1_3 | exact sub2_0 | exact sub2_1 | exact sub2_2 | exact sub2_3 | exact sub2_4) (p_peek s1 hr) ?_; clear hm; intro _ hm)
      | (refine op_call (by rfl) (by rfl) (by rfl) (by exact ht _) ?_; rintro _ _ ⟨rfl, rfl⟩)
      | refine m_loadAll hm (by rfl) (by rfl) (by rfl) (by first | exact gt0 | exact gt1 | exact gt2 | exact gt3 | exact gt4 | exact gt5 | exact gt6) (by rfl) ?_
      | (refine m_storeAll hm (by rfl) (by rfl) (by rfl) (by rfl) (by first | exact gt0 | exact gt1 | exact gt2 | exact gt3 | exact gt4 | exact gt5 | exact gt6) (by rfl) (by rfl) (by rfl) ?_; clear hm; intro _ hm; try simp only [setn] at hm)
      | refine m_ret_agg hm (by rfl) (by rfl) (by first | exact gt0 | exact gt1 | exact gt2 | exact gt3 | exact gt4 | exact gt5 | exact gt6) (by rfl) ?_
      | refine op_move (by rfl) (by rfl) (by rfl) ?_
      | refine op_assign (by rfl) (by rfl) (by rfl) ?_
      | refine op_pick_true (by rfl) (by rfl) (by rfl) (by rfl) ?_
      | refine op_pick_false (by rfl) (by rfl) (by rfl) (by rfl) ?_
      | refine op_lss (by rfl) (by rfl) (by rfl) (by rfl) ?_
      | refine op_eql (by rfl) (by rfl) (by rfl) (by rfl) ?_
      | refine wl_skip (by rfl) (by rfl) (by rfl) ?_
      | (refine wl_split_dec (by rfl) (by rfl) (by rfl) (fun _ => ?_) (fun _ => ?_) <;> (try first | contradiction | (exfalso; omega)))
      | refine wl_nil ?_
      | refine at_then_normal ?_
      | refine at_then_ret ?_
      | refine at_block_ret ?_
      | refine wc_seq ?_
      | refine wc_region ?_
      | refine wc_block ?_
      | refine wc_ret ?_
      | refine wc_cond_true (by rfl) ?_
      | (refine wc_cond_dec (by rfl) (fun _ => ?_) (fun _ => ?_) <;> (try first | contradiction | (exfalso; omega))))
    all_goals first
      | exact ⟨I2, _, ⟨⟨ea1, ec1, xs1, rfl, hrow, hexs⟩, da2, dc2, rfl⟩, hm.left (H := [_, _])⟩
      | (exfalso; omega)
  · rw [if_neg hc] at hO
    have htl := Sp.tight_le (T.tok s1.i).text
    have hlt : s1.i < T.l.length := Sp.tok_lt (Sp.tight_ne (by omega))
    have hex := fun da dc => (ih f1 (by omega)).2 I2 la lc deep da dc s1.next (Sp.tight (T.tok s1.i).text + 1) hC hr (by rw [Sp.next_i]; omega) (by rw [Sp.next_i]; omega) (by rw [Sp.next_i, Sp.next_ds]; omega) hdp
    have hg := (Sp.goes_expr T f1).2.2.1 deep (Sp.tight (T.tok s1.i).text + 1) s1.next
    generalize Sp.expr T f1 deep (Sp.tight (T.tok s1.i).text + 1) s1.next = r at hO hex hg
    have hg1 := hg.le
    have hg2 := hg.top (by rw [Sp.next_i]; omega)
    have hg3 := hg.ds
    rw [Sp.next_i] at hg1 hg3
    rw [Sp.next_ds] at hg3
    repeat' (first
      | (refine m_readC hm (by rfl) (by rfl) (by rfl) (by first | exact sub_nil | exact sub1_0 | exact sub1_1 | exact sub1_2 | exact sub1_3 | exact sub2_0 | exact sub2_1 | exact sub2_2 | exact sub2_3 | exact sub2_4) (p_peek s1 hr) ?_; clear hm; intro _ hm)
      | (refine op_call (by rfl) (by rfl) (by rfl) (by exact ht _) ?_; rintro _ _ ⟨rfl, rfl⟩)
      | (refine m_call hm (by rfl) (by rfl) (by rfl) (by first | exact pm0 | exact pm1_0 | exact pm1_1 | exact pm1_2 | exact pm1_3 | exact pm2_0 | exact pm2_1 | exact pm2_2 | exact pm2_3 | exact pm2_4 | exact pm3_0 | exact pm3_1 | exact pm3_2) (hex _ _) ?_; clear hm; rintro _ I3 _ _ ⟨⟨ea2, ec2, xs2, rfl, hrow2, hexs2⟩, da3, dc3, rfl⟩ hle hm; have hleI3 := hle; try simp only [setn] at hm)
      | (refine i_buildSlice hm (by rfl) (by rfl) (by rfl) (by rfl) (by rfl) (by rfl) (by rfl) ?_; clear hm; intro I4 a4 _ hle4 hm hrow4)
      | (refine op_max (by rfl) (by rfl) (by rfl) (by rfl) ?_)
      | (refine m_varS (d := 8) hm (by rfl) (by rfl) (by rfl) (by rfl) (by rfl) ?_; clear hm; intro b8 _ hm)
      | refine m_load1 hm (by rfl) (by rfl) (by rfl) (by first | exact gt0 | exact gt1 | exact gt2 | exact gt3 | exact gt4 | exact gt5 | exact gt6) (by rfl) ?_
      | refine m_loadAll hm (by rfl) (by rfl) (by rfl) (by first | exact gt0 | exact gt1 | exact gt2 | exact gt3 | exact gt4 | exact gt5 | exact gt6) (by rfl) ?_
      | (refine m_storeAll hm (by rfl) (by rfl) (by rfl) (by rfl) (by first | exact gt0 | exact gt1 | exact gt2 | exact gt3 | exact gt4 | exact gt5 | exact gt6) (by rfl) (by rfl) (by rfl) ?_; clear hm; intro _ hm; try simp only [setn] at hm)
      | (refine m_store1 hm (by rfl) (by rfl) (by rfl) (by rfl) (by first | exact gt0 | exact gt1 | exact gt2 | exact gt3 | exact gt4 | exact gt5 | exact gt6) (by rfl) (by rfl) (by rfl) ?_; clear hm; intro _ hm; try simp only [setn] at hm)
      | refine op_move (by rfl) (by rfl) (by rfl) ?_
      | refine op_assign (by rfl) (by rfl) (by rfl) ?_
      | refine op_pick_false (by rfl) (by rfl) (by rfl) (by rfl) ?_
      | refine op_lss (by rfl) (by rfl) (by rfl) (by rfl) ?_
      | refine op_eql (by rfl) (by rfl) (by rfl) (by rfl) ?_
      | refine op_nilCheck (by rfl) (by rfl) (by rfl) ?_
      | refine op_add (by rfl) (by rfl) (by rfl) (by rfl) (by omega) ?_
      | refine op_fieldAddr (by rfl) (by rfl) (by rfl) ?_
      | refine op_struct (by rfl) (by rfl) (by rfl) (by rfl) ?_
      | (refine wl_split_dec (by rfl) (by rfl) (by rfl) (fun _ => ?_) (fun _ => ?_) <;> (try first | contradiction | (exfalso; omega)))
      | refine wl_nil ?_
      | refine at_then_normal ?_
      | refine at_block_normal ?_
      | refine wc_seq ?_
      | refine wc_region ?_
      | refine wc_block ?_
      | refine wc_skip ?_
      | (refine wc_cond_dec (by rfl) (fun _ => ?_) (fun _ => ?_) <;> (try first | contradiction | (exfalso; omega))))
    all_goals try (exfalso; omega)
    exact at_round (⟨f1, .mk 3 (T.tok s1.i).text 0 [e1, r.1] e1.fr (max r.1.to e1.to), r.2, I4, a4, 2, _, da3, dc3⟩ : QExp) (by exact ⟨rfl, rfl, rfl, rfl, trivial⟩)
      ⟨hm.tl, (hle0.trans hleI3).trans hle4, hrow4, exs2 (ExAt.le (hleI3.trans hle4) _ _ (exAt_cells hrow hexs)) (ExAt.le hle4 _ _ (exAt_cells hrow2 hexs2)), hO, by dsimp only; omega, by dsimp only; omega, hg2, by dsimp only; omega⟩ (by dsimp only; omega)
end Go.Proofs.YtkbiakajlfmakaaDoor
end
section
namespace Go.Fw
theorem front_perm {α : Type} : ∀ (H : List α) (k : Nat) (x : α), H[k]? = some x → H.Perm (x :: H.eraseIdx k)
  | [], _, _, h => by simp at h
  | a :: H, 0, x, h => by
    simp only [List.getElem?_cons_zero, Option.some.injEq] at h
    subst h
    exact .refl _
  | a :: H, k + 1, x, h => ((front_perm H k x (by simpa using h)).cons a).trans (.swap _ _ _)
theorem Mem.front {E : Ent} {I : Imm} {H : List HItem} {w : World} (hm : Mem E I H w) (k : Nat) {x : HItem} (h : H[k]? = some x) : Mem E I (x :: H.eraseIdx k) w := by
  exact hm.perm (front_perm H k x h)
end Go.Fw
namespace Go.Proofs.YtkbiakajlfmakaaDoor
open Go.Fw
section
variable {T : Sp.Src} {pb f : Nat} {I : Imm} {la : Option Addr} {lc deep : Nat} {da : Option Addr} {dc : Nat} {s : Sp.St}
/-- the end of 'atom', its deferred step back. -/
theorem p_retA {E : Ent} {N i b1 b2 ec : Nat} {ea : Option Addr} {xs : List Value} {R : List HItem} {l : Log} {w : World} {e : Sp.Ex} {s' : Sp.St} (hdp : deep ≤ 12) (hx : lk l 2 = some (ptr b2))
    (hm : Mem E I (.cell b1 [ptr pb] 189 :: qObj pb la lc T s' (deep + 1) da dc :: dgRow s'.ds da dc :: R) w) (hb : R[i]? = some (.cell b2 (exCells e ea ec) 120))
    (hrow : RowI I 120 6 (.slice ea e.args.length ec) e.args.length xs) (hexs : ExsAt I e.args xs) :
    At N [⟨.fn (.func 211) #[ptr b1], #[]⟩] (bodyPostD Tryd.prog Tryd.f208 (Ret (fun v w' => ∃ I' H', ToQE pb la lc T deep (e, s') v I' H' ∧ Mem E I' H' w'))) .ret l w :=
  m_retD_cell (i := i + 3) (H' := .cell b1 [ptr pb] 189 :: qObj pb la lc T s' deep da dc :: dgRow s'.ds da dc :: R) rfl hx (p_decA hdp hm) hb rfl
    (fun w' hm' => ⟨I, _, ⟨⟨ea, ec, xs, rfl, hrow, hexs⟩, da, dc, rfl⟩, hm'.tl.left (H := [_, _])⟩)
theorem ex0_row (I : Imm) : RowI I 120 6 (.slice none ([] : List Sp.Ex).length 0) ([] : List Sp.Ex).length [] := rowI_nil _ _ _ _ _
set_option maxHeartbeats 4000000 in
theorem pa_end (hT : Ok T) (hr : TokR I T la lc) (hi : s.i ≤ T.l.length) (hd : s.ds.length + 4 ≤ 1099511627776) (hend : T.l.length ≤ s.i) :
    CalM Tryd.prog 208 #[ptr pb] I (QSt pb la lc T s deep da dc) (ToQE pb la lc T deep (Sp.none_ T s 2)) := by
  refine CalM.of fun w E hm => enter_defers (N := 153) Tryd.func208 rfl [(0, ptr pb)] args1 rfl ?_
  repeat' (first
    | (refine m_readC hm (by rfl) (by rfl) (by rfl) (by first | exact sub_nil | exact sub1_0 | exact sub1_1 | exact sub1_2 | exact sub1_3 | exact sub2_0 | exact sub2_1 | exact sub2_2 | exact sub2_3 | exact sub2_4) (p_here s hr) ?_; clear hm; intro _ hm)
    | (refine m_call hm (by rfl) (by rfl) (by rfl) (by first | exact pm0 | exact pm1_0 | exact pm1_1 | exact pm1_2 | exact pm1_3 | exact pm2_0 | exact pm2_1 | exact pm2_2 | exact pm2_3 | exact pm2_4 | exact pm3_0 | exact pm3_1 | exact pm3_2) (p_none s 2 hr hT hi (by omega)) ?_; clear hm; rintro _ _ _ _ ⟨⟨ea, ec, xs, rfl, hrow, hexs⟩, da', dc', rfl⟩ hle hm; try simp only [setn] at hm)
    | (refine at_retD0_cell hm (by rfl) (by rfl) (by first | exact gt0 | exact gt1 | exact gt2 | exact gt3 | exact gt4 | exact gt5 | exact gt6) (by rfl) ?_)
    | (refine m_box (d := 1) hm (by rfl) (by rfl) (by rfl) (by rfl) ?_; clear hm; intro b1 _ hm)
    | (refine m_allocS (d := 2) hm (by rfl) (by rfl) ?_; clear hm; intro b2 _ hm)
    | refine m_load1 hm (by rfl) (by rfl) (by rfl) (by first | exact gt0 | exact gt1 | exact gt2 | exact gt3 | exact gt4 | exact gt5 | exact gt6) (by rfl) ?_
    | refine mq_load1 hm (by rfl) (by rfl) (by rfl) (by first | exact gt0 | exact gt1 | exact gt2 | exact gt3 | exact gt4 | exact gt5 | exact gt6) (by rfl) ?_
    | (refine m_storeAll hm (by rfl) (by rfl) (by rfl) (by rfl) (by first | exact gt0 | exact gt1 | exact gt2 | exact gt3 | exact gt4 | exact gt5 | exact gt6) (by rfl) (by rfl) (by rfl) ?_; clear hm; intro _ hm; try simp only [setn] at hm)
    | refine op_assign (by rfl) (by rfl) (by rfl) ?_
    | refine wl_nil ?_
    | refine at_then_normal ?_
    | refine at_then_ret ?_
    | refine wc_seq ?_
    | refine wc_region ?_
    | refine wc_ret ?_
    | refine wc_quiet (by kernel_rfl) ?_
    | (refine wq_nil ?_; intro _ hkq; replace hm := hm.kept0 hkq; clear hkq)
    | (refine wc_cond_dec (by rfl) (fun _ => ?_) (fun _ => ?_) <;> (try first | contradiction | (exfalso; omega)))
    | refine q_eql (by rfl) (by rfl) (by rfl) (by rfl) ?_
    | refine q_len_slice (by rfl) (by rfl) (by rfl) ?_
    | refine q_nilCheck (by rfl) (by rfl) (by rfl) ?_
    | refine q_fieldAddr (by rfl) (by rfl) (by rfl) ?_)
  all_goals try (exfalso; omega)
  exact ⟨_, _, ⟨⟨ea, ec, xs, rfl, hrow, hexs⟩, da', dc', rfl⟩, hm.left (H := [_, _])⟩
set_option maxHeartbeats 4000000 in
theorem pa_deep (hT : Ok T) (hr : TokR I T la lc) (hi : s.i ≤ T.l.length) (hd : s.ds.length + 4 ≤ 1099511627776) (hend : s.i < T.l.length) (hdp : deep = 12) :
    CalM Tryd.prog 208 #[ptr pb] I (QSt pb la lc T s deep da dc) (ToQE pb la lc T deep (Sp.none_ T s 12)) := by
  refine CalM.of fun w E hm => enter_defers (N := 153) Tryd.func208 rfl [(0, ptr pb)] args1 rfl ?_
  repeat' (first
    | (refine m_readC hm (by rfl) (by rfl) (by rfl) (by first | exact sub_nil | exact sub1_0 | exact sub1_1 | exact sub1_2 | exact sub1_3 | exact sub2_0 | exact sub2_1 | exact sub2_2 | exact sub2_3 | exact sub2_4) (p_here s hr) ?_; clear hm; intro _ hm)
    | (refine m_call hm (by rfl) (by rfl) (by rfl) (by first | exact pm0 | exact pm1_0 | exact pm1_1 | exact pm1_2 | exact pm1_3 | exact pm2_0 | exact pm2_1 | exact pm2_2 | exact pm2_3 | exact pm2_4 | exact pm3_0 | exact pm3_1 | exact pm3_2) (p_none s 12 hr hT hi (by omega)) ?_; clear hm; rintro _ _ _ _ ⟨⟨ea, ec, xs, rfl, hrow, hexs⟩, da', dc', rfl⟩ hle hm; try simp only [setn] at hm)
    | (refine at_retD0_cell hm (by rfl) (by rfl) (by first | exact gt0 | exact gt1 | exact gt2 | exact gt3 | exact gt4 | exact gt5 | exact gt6) (by rfl) ?_)
    | (refine m_box (d := 1) hm (by rfl) (by rfl) (by rfl) (by rfl) ?_; clear hm; intro b1 _ hm)
    | (refine m_allocS (d := 2) hm (by rfl) (by rfl) ?_; clear hm; intro b2 _ hm)
    | refine m_load1 hm (by rfl) (by rfl) (by rfl) (by first | exact gt0 | exact gt1 | exact gt2 | exact gt3 | exact gt4 | exact gt5 | exact gt6) (by rfl) ?_
    | refine mq_load1 hm (by rfl) (by rfl) (by rfl) (by first | exact gt0 | exact gt1 | exact gt2 | exact gt3 | exact gt4 | exact gt5 | exact gt6) (by rfl) ?_
    | (refine m_storeAll hm (by rfl) (by rfl) (by rfl) (by rfl) (by first | exact gt0 | exact gt1 | exact gt2 | exact gt3 | exact gt4 | exact gt5 | exact gt6) (by rfl) (by rfl) (by rfl) ?_; clear hm; intro _ hm; try simp only [setn] at hm)
    | refine op_assign (by rfl) (by rfl) (by rfl) ?_
    | refine op_eql (by rfl) (by rfl) (by rfl) (by rfl) ?_
    | refine op_nilCheck (by rfl) (by rfl) (by rfl) ?_
    | refine op_fieldAddr (by rfl) (by rfl) (by rfl) ?_
    | refine wl_nil ?_
    | refine at_then_normal ?_
    | refine at_then_ret ?_
    | refine wc_seq ?_
    | refine wc_region ?_
    | refine wc_skip ?_
    | refine wc_ret ?_
    | refine wc_quiet (by kernel_rfl) ?_
    | (refine wq_nil ?_; intro _ hkq; replace hm := hm.kept0 hkq; clear hkq)
    | (refine wc_cond_dec (by rfl) (fun _ => ?_) (fun _ => ?_) <;> (try first | contradiction | (exfalso; omega)))
    | refine q_eql (by rfl) (by rfl) (by rfl) (by rfl) ?_
    | refine q_len_slice (by rfl) (by rfl) (by rfl) ?_
    | refine q_nilCheck (by rfl) (by rfl) (by rfl) ?_
    | refine q_fieldAddr (by rfl) (by rfl) (by rfl) ?_)
  all_goals try (exfalso; omega)
  exact ⟨_, _, ⟨⟨ea, ec, xs, rfl, hrow, hexs⟩, da', dc', rfl⟩, hm.left (H := [_, _])⟩
set_option maxHeartbeats 4000000 in
theorem pa_none (hT : Ok T) (hr : TokR I T la lc) (hi : s.i ≤ T.l.length) (hd : s.ds.length + 4 ≤ 1099511627776) (hend : s.i < T.l.length) (hdp : deep < 12) (hk : (T.tok s.i).kind ≠ 2) (hp : (T.tok s.i).text ≠ [40]) (hname : Sp.name (T.tok s.i).text = false) :
    CalM Tryd.prog 208 #[ptr pb] I (QSt pb la lc T s deep da dc) (ToQE pb la lc T deep (Sp.none_ T s 2)) := by
  have h1 := hT.at_ s.i
  have h2 := hT.size
  have htk := tok_get hend
  have hn := c_name (T.tok s.i).text (by omega)
  rw [hname] at hn
  refine CalM.of fun w E hm => enter_defers (N := 153) Tryd.func208 rfl [(0, ptr pb)] args1 rfl ?_
  repeat' (first
    | (refine m_readC hm (by rfl) (by rfl) (by rfl) (by first | exact sub_nil | exact sub1_0 | exact sub1_1 | exact sub1_2 | exact sub1_3 | exact sub2_0 | exact sub2_1 | exact sub2_2 | exact sub2_3 | exact sub2_4) (p_here s hr) ?_; clear hm; intro _ hm)
    | (refine wc_semi_mem (id := 8) (hm.perm pm0) 10 11 (by kernel_rfl) ?_; clear hm; intro wd hR hm)
    | (refine iw_indexFlat (by rfl) (by rfl) (by rfl) (by rfl) (by exact hr) (by intro _; rfl) (by omega) (by omega) (by exact htk) ?_; intro b1' o1 hp1)
    | (refine op_call (by rfl) (by rfl) (by rfl) (by exact hn _) ?_; rintro _ _ ⟨rfl, hk⟩; replace hm := hm.kept0 hk)
    | (refine m_call hm (by rfl) (by rfl) (by rfl) (by first | exact pm0 | exact pm1_0 | exact pm1_1 | exact pm1_2 | exact pm1_3 | exact pm2_0 | exact pm2_1 | exact pm2_2 | exact pm2_3 | exact pm2_4 | exact pm3_0 | exact pm3_1 | exact pm3_2) (p_none s 2 hr hT hi (by omega)) ?_; clear hm; rintro _ _ _ _ ⟨⟨ea, ec, xs, rfl, hrow, hexs⟩, da', dc', rfl⟩ hle hm; try simp only [setn] at hm)
    | refine mw_load1 hR (by rfl) (by rfl) (by rfl) (by first | exact gt0 | exact gt1 | exact gt2 | exact gt3 | exact gt4 | exact gt5 | exact gt6) (by rfl) ?_
    | refine iw_loadN hR (by rfl) (by rfl) (by rfl) (by assumption) (by rfl) ?_
    | (refine mt_allocS (d := 4) hm (by rfl) (by rfl) ?_; clear hm; intro b4 _ hm)
    | (refine ws_nil ?_; replace hm := hR.back hm; clear hR; try simp only [setn] at hm)
    | (refine m_box (d := 1) hm (by rfl) (by rfl) (by rfl) (by rfl) ?_; clear hm; intro b1 _ hm)
    | (refine m_allocS (d := 2) hm (by rfl) (by rfl) ?_; clear hm; intro b2 _ hm)
    | refine m_load1 hm (by rfl) (by rfl) (by rfl) (by first | exact gt0 | exact gt1 | exact gt2 | exact gt3 | exact gt4 | exact gt5 | exact gt6) (by rfl) ?_
    | refine mq_load1 hm (by rfl) (by rfl) (by rfl) (by first | exact gt0 | exact gt1 | exact gt2 | exact gt3 | exact gt4 | exact gt5 | exact gt6) (by rfl) ?_
    | (refine m_storeAll hm (by rfl) (by rfl) (by rfl) (by rfl) (by first | exact gt0 | exact gt1 | exact gt2 | exact gt3 | exact gt4 | exact gt5 | exact gt6) (by rfl) (by rfl) (by rfl) ?_; clear hm; intro _ hm; try simp only [setn] at hm)
    | (refine m_store1 hm (by rfl) (by rfl) (by rfl) (by rfl) (by first | exact gt0 | exact gt1 | exact gt2 | exact gt3 | exact gt4 | exact gt5 | exact gt6) (by rfl) (by rfl) (by rfl) ?_; clear hm; intro _ hm; try simp only [setn] at hm)
    | refine op_assign (by rfl) (by rfl) (by rfl) ?_
    | refine op_eql (by rfl) (by rfl) (by rfl) (by rfl) ?_
    | refine op_eql_str (by rfl) (by rfl) (by rfl) (by rfl) ?_
    | refine op_not (by rfl) (by rfl) (by rfl) ?_
    | refine op_nilCheck (by rfl) (by rfl) (by rfl) ?_
    | refine op_makeFunc (by rfl) (by rfl) (by rfl) ?_
    | refine op_add (by rfl) (by rfl) (by rfl) (by rfl) (by omega) ?_
    | refine op_fieldAddr (by rfl) (by rfl) (by rfl) ?_
    | refine wl_nil ?_
    | refine at_then_normal ?_
    | refine at_then_ret ?_
    | refine at_block_ret ?_
    | refine wc_seq ?_
    | refine wc_region ?_
    | refine wc_block ?_
    | refine wc_skip ?_
    | refine wc_ret ?_
    | refine op_defer (by rfl) (by rfl) (by rfl) ?_
    | refine wc_quiet (by kernel_rfl) ?_
    | (refine wq_nil ?_; intro _ hkq; replace hm := hm.kept0 hkq; clear hkq)
    | refine wc_cond_true (by rfl) ?_
    | (refine wc_cond_dec (by rfl) (fun _ => ?_) (fun _ => ?_) <;> (try first | contradiction | (exfalso; omega)))
    | refine q_eql (by rfl) (by rfl) (by rfl) (by rfl) ?_
    | refine q_len_slice (by rfl) (by rfl) (by rfl) ?_
    | refine q_nilCheck (by rfl) (by rfl) (by rfl) ?_
    | refine q_fieldAddr (by rfl) (by rfl) (by rfl) ?_
    | refine v_nilCheck (by rfl) (by rfl) (by rfl) ?_
    | refine v_fieldAddr (by rfl) (by rfl) (by rfl) ?_
    | refine wv_nil ?_)
  all_goals try (exfalso; first | omega | contradiction)
  exact p_retA (i := 1) (by omega) rfl (hm.front 4 rfl) rfl hrow hexs
set_option maxHeartbeats 4000000 in
theorem pa_num (hT : Ok T) (hC : Conv I) (hr : TokR I T la lc) (hi : s.i ≤ T.l.length) (hd : s.ds.length + 4 ≤ 1099511627776) (hend : s.i < T.l.length) (hdp : deep < 12) (hk : (T.tok s.i).kind = 2) :
    CalM Tryd.prog 208 #[ptr pb] I (QSt pb la lc T s deep da dc) (ToQE pb la lc T deep
      (if 1000000000 < Sp.digits (T.tok s.i).text then (.mk 1 [] 0 [] (T.tok s.i).pos ((T.tok s.i).pos + (T.tok s.i).text.length), (s.bad T 3).next) else (.mk 1 [] (Sp.digits (T.tok s.i).text) [] (T.tok s.i).pos ((T.tok s.i).pos + (T.tok s.i).text.length), s.next))) := by
  have h1 := hT.at_ s.i
  have h2 := hT.size
  have h3 := hT.len
  have htk := tok_get hend
  have hl1 : 1 ≤ (T.tok s.i).text.length := by
    rw [Sp.Src.tok, List.getD_eq_getElem?_getD, List.getElem?_eq_getElem hend]
    exact hT.len1 _ (List.getElem_mem hend)
  have hat := p_atoi (I := I) (T.tok s.i).text hl1 (by omega) (hT.digs hk) hC
  have hbi : (s.bad T 3).i = s.i := rfl
  have hen : T.endOf (s.i + 1) = (T.tok s.i).pos + (T.tok s.i).text.length := rfl
  have hls := p_last (pb := pb) (deep := deep + 1) (da := da) (dc := dc) s.next hr hT (by rw [Sp.next_i]; omega)
  have hlb := fun da dc => p_last (pb := pb) (deep := deep + 1) (da := da) (dc := dc) (s.bad T 3).next hr hT (by rw [Sp.next_i]; omega)
  rw [show T.endOf s.next.i = (T.tok s.i).pos + (T.tok s.i).text.length from hen] at hls
  rw [show T.endOf (s.bad T 3).next.i = (T.tok s.i).pos + (T.tok s.i).text.length from hen] at hlb
  refine CalM.of fun w E hm => enter_defers (N := 153) Tryd.func208 rfl [(0, ptr pb)] args1 rfl ?_
  by_cases hbig : 1000000000 < Sp.digits (T.tok s.i).text
  · rw [if_pos hbig]
    repeat' (first
      | (refine m_readC hm (by rfl) (by rfl) (by rfl) (by first | exact sub_nil | exact sub1_0 | exact sub1_1 | exact sub1_2 | exact sub1_3 | exact sub2_0 | exact sub2_1 | exact sub2_2 | exact sub2_3 | exact sub2_4) (p_here s hr) ?_; clear hm; intro _ hm)
      | (refine wc_semi_mem (id := 8) (hm.perm pm0) 10 11 (by kernel_rfl) ?_; clear hm; intro wd hR hm)
      | (refine iw_indexFlat (by rfl) (by rfl) (by rfl) (by rfl) (by exact hr) (by intro _; rfl) (by omega) (by omega) (by exact htk) ?_; intro b1' o1 hp1)
      | (refine m_call hm (by rfl) (by rfl) (by rfl) (by first | exact pm0 | exact pm1_0 | exact pm1_1 | exact pm1_2 | exact pm1_3 | exact pm2_0 | exact pm2_1 | exact pm2_2 | exact pm2_3 | exact pm2_4 | exact pm3_0 | exact pm3_1 | exact pm3_2) (hat) ?_; clear hm; rintro _ _ _ _ ⟨rfl, rfl, (⟨hsm, rfl⟩ | ⟨_, nv, ev, rfl, (⟨rfl, hnv⟩ | ⟨te, pe, rfl⟩)⟩)⟩ hle hm; try simp only [setn] at hm)
      | (refine op_neq_held (by rfl) (by rfl) (by rfl) (by rfl) (by kernel_rfl) ?_)
      | (refine op_neq_none (by rfl) (by rfl) (by rfl) (by rfl) (by kernel_rfl) ?_)
      | (refine m_call hm (by rfl) (by rfl) (by rfl) (by first | exact pm0 | exact pm1_0 | exact pm1_1 | exact pm1_2 | exact pm1_3 | exact pm2_0 | exact pm2_1 | exact pm2_2 | exact pm2_3 | exact pm2_4 | exact pm3_0 | exact pm3_1 | exact pm3_2) (p_tell s 3 hr hT hi (by omega)) ?_; clear hm; rintro _ _ _ _ ⟨rfl, rfl, da', dc', rfl⟩ hle hm; try simp only [setn] at hm)
      | (refine m_readC hm (by rfl) (by rfl) (by rfl) (by first | exact sub_nil | exact sub1_0 | exact sub1_1 | exact sub1_2 | exact sub1_3 | exact sub2_0 | exact sub2_1 | exact sub2_2 | exact sub2_3 | exact sub2_4) (hlb _ _) ?_; clear hm; intro _ hm)
      | refine mw_load1 hR (by rfl) (by rfl) (by rfl) (by first | exact gt0 | exact gt1 | exact gt2 | exact gt3 | exact gt4 | exact gt5 | exact gt6) (by rfl) ?_
      | refine iw_loadN hR (by rfl) (by rfl) (by rfl) (by assumption) (by rfl) ?_
      | (refine mt_allocS (d := 4) hm (by rfl) (by rfl) ?_; clear hm; intro b4 _ hm)
      | (refine ws_nil ?_; replace hm := hR.back hm; clear hR; try simp only [setn] at hm)
      | (refine m_box (d := 1) hm (by rfl) (by rfl) (by rfl) (by rfl) ?_; clear hm; intro b1 _ hm)
      | (refine m_allocS (d := 2) hm (by rfl) (by rfl) ?_; clear hm; intro b2 _ hm)
      | refine m_load1 hm (by rfl) (by rfl) (by rfl) (by first | exact gt0 | exact gt1 | exact gt2 | exact gt3 | exact gt4 | exact gt5 | exact gt6) (by rfl) ?_
      | refine mq_load1 hm (by rfl) (by rfl) (by rfl) (by first | exact gt0 | exact gt1 | exact gt2 | exact gt3 | exact gt4 | exact gt5 | exact gt6) (by rfl) ?_
      | (refine m_storeAll hm (by rfl) (by rfl) (by rfl) (by rfl) (by first | exact gt0 | exact gt1 | exact gt2 | exact gt3 | exact gt4 | exact gt5 | exact gt6) (by rfl) (by rfl) (by rfl) ?_; clear hm; intro _ hm; try simp only [setn] at hm)
      | (refine m_store1 hm (by rfl) (by rfl) (by rfl) (by rfl) (by first | exact gt0 | exact gt1 | exact gt2 | exact gt3 | exact gt4 | exact gt5 | exact gt6) (by rfl) (by rfl) (by rfl) ?_; clear hm; intro _ hm; try simp only [setn] at hm)
      | refine op_move (by rfl) (by rfl) (by rfl) ?_
      | refine op_assign (by rfl) (by rfl) (by rfl) ?_
      | refine op_pick_true (by rfl) (by rfl) (by rfl) (by rfl) ?_
      | refine op_pick_false (by rfl) (by rfl) (by rfl) (by rfl) ?_
      | refine op_gtr (by rfl) (by rfl) (by rfl) (by rfl) ?_
      | refine op_eql (by rfl) (by rfl) (by rfl) (by rfl) ?_
      | refine op_extract (by rfl) (by rfl) (by rfl) (by rfl) ?_
      | refine op_nilCheck (by rfl) (by rfl) (by rfl) ?_
      | refine op_makeFunc (by rfl) (by rfl) (by rfl) ?_
      | refine op_add (by rfl) (by rfl) (by rfl) (by rfl) (by omega) ?_
      | refine op_fieldAddr (by rfl) (by rfl) (by rfl) ?_
      | refine op_struct (by rfl) (by rfl) (by rfl) (by rfl) ?_
      | refine wl_skip (by rfl) (by rfl) (by rfl) ?_
      | refine wl_nil ?_
      | refine at_then_normal ?_
      | refine at_then_ret ?_
      | refine at_block_ret ?_
      | refine wc_seq ?_
      | refine wc_region ?_
      | refine wc_block ?_
      | refine wc_skip ?_
      | refine wc_ret ?_
      | refine op_defer (by rfl) (by rfl) (by rfl) ?_
      | refine wc_quiet (by kernel_rfl) ?_
      | (refine wq_nil ?_; intro _ hkq; replace hm := hm.kept0 hkq; clear hkq)
      | refine wc_cond_true (by rfl) ?_
      | (refine wc_cond_dec (by rfl) (fun _ => ?_) (fun _ => ?_) <;> (try first | contradiction | (exfalso; omega)))
      | refine q_eql (by rfl) (by rfl) (by rfl) (by rfl) ?_
      | refine q_len_slice (by rfl) (by rfl) (by rfl) ?_
      | refine q_nilCheck (by rfl) (by rfl) (by rfl) ?_
      | refine q_fieldAddr (by rfl) (by rfl) (by rfl) ?_
      | refine v_nilCheck (by rfl) (by rfl) (by rfl) ?_
      | refine v_fieldAddr (by rfl) (by rfl) (by rfl) ?_
      | refine wv_nil ?_)
    all_goals try (exfalso; first | omega | contradiction)
    all_goals exact p_retA (i := 1) (e := .mk 1 [] 0 [] (T.tok s.i).pos ((T.tok s.i).pos + (T.tok s.i).text.length)) (s' := (s.bad T 3).next) (by omega) rfl (hm.front 4 rfl) rfl (ex0_row _) .nil
  · rw [if_neg hbig]
    repeat' (first
      | (refine m_readC hm (by rfl) (by rfl) (by rfl) (by first | exact sub_nil | exact sub1_0 | exact sub1_1 | exact sub1_2 | exact sub1_3 | exact sub2_0 | exact sub2_1 | exact sub2_2 | exact sub2_3 | exact sub2_4) (p_here s hr) ?_; clear hm; intro _ hm)
      | (refine wc_semi_mem (id := 8) (hm.perm pm0) 10 11 (by kernel_rfl) ?_; clear hm; intro wd hR hm)
      | (refine iw_indexFlat (by rfl) (by rfl) (by rfl) (by rfl) (by exact hr) (by intro _; rfl) (by omega) (by omega) (by exact htk) ?_; intro b1' o1 hp1)
      | (refine m_call hm (by rfl) (by rfl) (by rfl) (by first | exact pm0 | exact pm1_0 | exact pm1_1 | exact pm1_2 | exact pm1_3 | exact pm2_0 | exact pm2_1 | exact pm2_2 | exact pm2_3 | exact pm2_4 | exact pm3_0 | exact pm3_1 | exact pm3_2) (hat) ?_; clear hm; rintro _ _ _ _ ⟨rfl, rfl, (⟨hsm, rfl⟩ | ⟨hbg, nv, ev, rfl, _⟩)⟩ hle hm; try simp only [setn] at hm)
      | (refine op_neq_none (by rfl) (by rfl) (by rfl) (by rfl) (by kernel_rfl) ?_)
      | (refine m_readC hm (by rfl) (by rfl) (by rfl) (by first | exact sub_nil | exact sub1_0 | exact sub1_1 | exact sub1_2 | exact sub1_3 | exact sub2_0 | exact sub2_1 | exact sub2_2 | exact sub2_3 | exact sub2_4) (hls) ?_; clear hm; intro _ hm)
      | refine mw_load1 hR (by rfl) (by rfl) (by rfl) (by first | exact gt0 | exact gt1 | exact gt2 | exact gt3 | exact gt4 | exact gt5 | exact gt6) (by rfl) ?_
      | refine iw_loadN hR (by rfl) (by rfl) (by rfl) (by assumption) (by rfl) ?_
      | (refine mt_allocS (d := 4) hm (by rfl) (by rfl) ?_; clear hm; intro b4 _ hm)
      | (refine ws_nil ?_; replace hm := hR.back hm; clear hR; try simp only [setn] at hm)
      | (refine m_box (d := 1) hm (by rfl) (by rfl) (by rfl) (by rfl) ?_; clear hm; intro b1 _ hm)
      | (refine m_allocS (d := 2) hm (by rfl) (by rfl) ?_; clear hm; intro b2 _ hm)
      | refine m_load1 hm (by rfl) (by rfl) (by rfl) (by first | exact gt0 | exact gt1 | exact gt2 | exact gt3 | exact gt4 | exact gt5 | exact gt6) (by rfl) ?_
      | refine mq_load1 hm (by rfl) (by rfl) (by rfl) (by first | exact gt0 | exact gt1 | exact gt2 | exact gt3 | exact gt4 | exact gt5 | exact gt6) (by rfl) ?_
      | (refine m_storeAll hm (by rfl) (by rfl) (by rfl) (by rfl) (by first | exact gt0 | exact gt1 | exact gt2 | exact gt3 | exact gt4 | exact gt5 | exact gt6) (by rfl) (by rfl) (by rfl) ?_; clear hm; intro _ hm; try simp only [setn] at hm)
      | (refine m_store1 hm (by rfl) (by rfl) (by rfl) (by rfl) (by first | exact gt0 | exact gt1 | exact gt2 | exact gt3 | exact gt4 | exact gt5 | exact gt6) (by rfl) (by rfl) (by rfl) ?_; clear hm; intro _ hm; try simp only [setn] at hm)
      | refine op_move (by rfl) (by rfl) (by rfl) ?_
      | refine op_assign (by rfl) (by rfl) (by rfl) ?_
      | refine op_pick_false (by rfl) (by rfl) (by rfl) (by rfl) ?_
      | refine op_gtr (by rfl) (by rfl) (by rfl) (by rfl) ?_
      | refine op_eql (by rfl) (by rfl) (by rfl) (by rfl) ?_
      | refine op_extract (by rfl) (by rfl) (by rfl) (by rfl) ?_
      | refine op_nilCheck (by rfl) (by rfl) (by rfl) ?_
      | refine op_makeFunc (by rfl) (by rfl) (by rfl) ?_
      | refine op_add (by rfl) (by rfl) (by rfl) (by rfl) (by omega) ?_
      | refine op_fieldAddr (by rfl) (by rfl) (by rfl) ?_
      | refine op_struct (by rfl) (by rfl) (by rfl) (by rfl) ?_
      | refine wl_nil ?_
      | refine at_then_normal ?_
      | refine at_then_ret ?_
      | refine at_block_ret ?_
      | refine wc_seq ?_
      | refine wc_region ?_
      | refine wc_block ?_
      | refine wc_skip ?_
      | refine wc_ret ?_
      | refine op_defer (by rfl) (by rfl) (by rfl) ?_
      | refine wc_quiet (by kernel_rfl) ?_
      | (refine wq_nil ?_; intro _ hkq; replace hm := hm.kept0 hkq; clear hkq)
      | (refine wc_cond_dec (by rfl) (fun _ => ?_) (fun _ => ?_) <;> (try first | contradiction | (exfalso; omega)))
      | refine q_eql (by rfl) (by rfl) (by rfl) (by rfl) ?_
      | refine q_len_slice (by rfl) (by rfl) (by rfl) ?_
      | refine q_nilCheck (by rfl) (by rfl) (by rfl) ?_
      | refine q_fieldAddr (by rfl) (by rfl) (by rfl) ?_
      | refine v_nilCheck (by rfl) (by rfl) (by rfl) ?_
      | refine v_fieldAddr (by rfl) (by rfl) (by rfl) ?_
      | refine wv_nil ?_)
    all_goals try (exfalso; first | omega | contradiction)
    exact p_retA (i := 1) (e := .mk 1 [] (Sp.digits (T.tok s.i).text) [] (T.tok s.i).pos ((T.tok s.i).pos + (T.tok s.i).text.length)) (s' := s.next) (by omega) rfl (((hm.front 4 rfl).front 4 rfl).front 4 rfl) rfl (ex0_row _) .nil
end
end Go.Proofs.YtkbiakajlfmakaaDoor
end
section
namespace Go.Proofs.YtkbiakajlfmakaaDoor
open Go.Fw
section
variable {T : Sp.Src} {pb f : Nat} {I : Imm} {la : Option Addr} {lc deep : Nat} {da : Option Addr} {dc : Nat} {s : Sp.St}
set_option maxHeartbeats 4000000 in
theorem pa_par (hT : Ok T) (hC : Conv I) (hr : TokR I T la lc) (hf : 3 * (T.l.length - s.i) + 2 ≤ f + 1) (ih : ExprQ T pb f)
    (hd : s.ds.length + 2 * (T.l.length - s.i) + 4 ≤ 1099511627776) (hend : s.i < T.l.length) (hdp : deep < 12) (hk : (T.tok s.i).kind ≠ 2) (hpar : (T.tok s.i).text = [40]) :
    CalM Tryd.prog 208 #[ptr pb] I (QSt pb la lc T s deep da dc) (ToQE pb la lc T deep ((Sp.expr T f (deep + 1) 1 s.next).1, ((Sp.expr T f (deep + 1) 1 s.next).2.need T [41]).2)) := by
  have h1 := hT.at_ s.i
  have h2 := hT.size
  have h3 := hT.len
  have htk := tok_get hend
  have hex := fun da dc => ih I la lc (deep + 1) da dc s.next 1 hC hr (by rw [Sp.next_i]; omega) (by rw [Sp.next_i]; omega) (by rw [Sp.next_i, Sp.next_ds]; omega) (by omega)
  have hg := (Sp.goes_expr T f).2.2.1 (deep + 1) 1 s.next
  generalize Sp.expr T f (deep + 1) 1 s.next = r at hex hg ⊢
  have hg1 := hg.le
  have hg2 := hg.top (by rw [Sp.next_i]; omega)
  have hg3 := hg.ds
  rw [Sp.next_i] at hg1 hg3
  rw [Sp.next_ds] at hg3
  refine CalM.of fun w E hm => enter_defers (N := 153) Tryd.func208 rfl [(0, ptr pb)] args1 rfl ?_
  repeat' (first
    | (refine m_readC hm (by rfl) (by rfl) (by rfl) (by first | exact sub_nil | exact sub1_0 | exact sub1_1 | exact sub1_2 | exact sub1_3 | exact sub2_0 | exact sub2_1 | exact sub2_2 | exact sub2_3 | exact sub2_4) (p_here s hr) ?_; clear hm; intro _ hm)
    | (refine wc_semi_mem (id := 8) (hm.perm pm0) 10 11 (by kernel_rfl) ?_; clear hm; intro wd hR hm)
    | (refine iw_indexFlat (by rfl) (by rfl) (by rfl) (by rfl) (by exact hr) (by intro _; rfl) (by omega) (by omega) (by exact htk) ?_; intro b1' o1 hp1)
    | (refine m_call hm (by rfl) (by rfl) (by rfl) (by first | exact pm0 | exact pm1_0 | exact pm1_1 | exact pm1_2 | exact pm1_3 | exact pm2_0 | exact pm2_1 | exact pm2_2 | exact pm2_3 | exact pm2_4 | exact pm3_0 | exact pm3_1 | exact pm3_2) (hex _ _) ?_; clear hm; rintro _ I2 _ _ ⟨⟨ea, ec, xs, rfl, hrow, hexs⟩, da', dc', rfl⟩ hle hm; have hleI2 := hle; try simp only [setn] at hm)
    | (refine m_call hm (by rfl) (by rfl) (by rfl) (by first | exact pm0 | exact pm1_0 | exact pm1_1 | exact pm1_2 | exact pm1_3 | exact pm2_0 | exact pm2_1 | exact pm2_2 | exact pm2_3 | exact pm2_4 | exact pm3_0 | exact pm3_1 | exact pm3_2) (p_must r.2 [41] (by simp) (hr.le hleI2) hT (by omega) hg2) ?_; clear hm; rintro _ _ _ _ ⟨rfl, rfl, da2, dc2, rfl⟩ hle hm; try simp only [setn] at hm)
    | refine mw_load1 hR (by rfl) (by rfl) (by rfl) (by first | exact gt0 | exact gt1 | exact gt2 | exact gt3 | exact gt4 | exact gt5 | exact gt6) (by rfl) ?_
    | refine iw_loadN hR (by rfl) (by rfl) (by rfl) (by assumption) (by rfl) ?_
    | (refine mt_allocS (d := 4) hm (by rfl) (by rfl) ?_; clear hm; intro b4 _ hm)
    | (refine ws_nil ?_; replace hm := hR.back hm; clear hR; try simp only [setn] at hm)
    | (refine m_box (d := 1) hm (by rfl) (by rfl) (by rfl) (by rfl) ?_; clear hm; intro b1 _ hm)
    | (refine m_allocS (d := 2) hm (by rfl) (by rfl) ?_; clear hm; intro b2 _ hm)
    | (refine m_varS (d := 7) hm (by rfl) (by rfl) (by rfl) (by rfl) (by rfl) ?_; clear hm; intro b7 _ hm)
    | refine m_load1 hm (by rfl) (by rfl) (by rfl) (by first | exact gt0 | exact gt1 | exact gt2 | exact gt3 | exact gt4 | exact gt5 | exact gt6) (by rfl) ?_
    | refine m_loadAll hm (by rfl) (by rfl) (by rfl) (by first | exact gt0 | exact gt1 | exact gt2 | exact gt3 | exact gt4 | exact gt5 | exact gt6) (by rfl) ?_
    | refine mq_load1 hm (by rfl) (by rfl) (by rfl) (by first | exact gt0 | exact gt1 | exact gt2 | exact gt3 | exact gt4 | exact gt5 | exact gt6) (by rfl) ?_
    | (refine m_storeAll hm (by rfl) (by rfl) (by rfl) (by rfl) (by first | exact gt0 | exact gt1 | exact gt2 | exact gt3 | exact gt4 | exact gt5 | exact gt6) (by rfl) (by rfl) (by rfl) ?_; clear hm; intro _ hm; try simp only [setn] at hm)
    | (refine m_store1 hm (by rfl) (by rfl) (by rfl) (by rfl) (by first | exact gt0 | exact gt1 | exact gt2 | exact gt3 | exact gt4 | exact gt5 | exact gt6) (by rfl) (by rfl) (by rfl) ?_; clear hm; intro _ hm; try simp only [setn] at hm)
    | refine op_assign (by rfl) (by rfl) (by rfl) ?_
    | refine op_eql (by rfl) (by rfl) (by rfl) (by rfl) ?_
    | refine op_eql_str (by rfl) (by rfl) (by rfl) (by rfl) ?_
    | refine op_nilCheck (by rfl) (by rfl) (by rfl) ?_
    | refine op_makeFunc (by rfl) (by rfl) (by rfl) ?_
    | refine op_add (by rfl) (by rfl) (by rfl) (by rfl) (by omega) ?_
    | refine op_fieldAddr (by rfl) (by rfl) (by rfl) ?_
    | refine wl_nil ?_
    | refine at_then_normal ?_
    | refine at_then_ret ?_
    | refine at_block_ret ?_
    | refine wc_seq ?_
    | refine wc_region ?_
    | refine wc_block ?_
    | refine wc_skip ?_
    | refine wc_ret ?_
    | refine op_defer (by rfl) (by rfl) (by rfl) ?_
    | refine wc_quiet (by kernel_rfl) ?_
    | (refine wq_nil ?_; intro _ hkq; replace hm := hm.kept0 hkq; clear hkq)
    | (refine wc_cond_dec (by rfl) (fun _ => ?_) (fun _ => ?_) <;> (try first | contradiction | (exfalso; omega)))
    | refine q_eql (by rfl) (by rfl) (by rfl) (by rfl) ?_
    | refine q_len_slice (by rfl) (by rfl) (by rfl) ?_
    | refine q_nilCheck (by rfl) (by rfl) (by rfl) ?_
    | refine q_fieldAddr (by rfl) (by rfl) (by rfl) ?_
    | refine v_nilCheck (by rfl) (by rfl) (by rfl) ?_
    | refine v_fieldAddr (by rfl) (by rfl) (by rfl) ?_
    | refine wv_nil ?_)
  all_goals try (exfalso; first | omega | contradiction)
  exact p_retA (i := 2) (e := r.1) (s' := (r.2.need T [41]).2) (by omega) rfl (hm.front 5 rfl) rfl hrow hexs
set_option maxHeartbeats 4000000 in
theorem pa_var (hT : Ok T) (hr : TokR I T la lc) (hi : s.i ≤ T.l.length) (hd : s.ds.length + 4 ≤ 1099511627776) (hend : s.i < T.l.length) (hdp : deep < 12) (hk : (T.tok s.i).kind ≠ 2) (hp : (T.tok s.i).text ≠ [40]) (hname : Sp.name (T.tok s.i).text = true) (hopen : T.is (s.i + 1) [40] = false) :
    CalM Tryd.prog 208 #[ptr pb] I (QSt pb la lc T s deep da dc) (ToQE pb la lc T deep (.mk 2 (T.tok s.i).text 0 [] (T.tok s.i).pos ((T.tok s.i).pos + (T.tok s.i).text.length), s.next)) := by
  have h1 := hT.at_ s.i
  have h2 := hT.size
  have h3 := hT.len
  have htk := tok_get hend
  have hn := c_name (T.tok s.i).text (by omega)
  rw [hname] at hn
  have he := fun da dc => p_eat (pb := pb) (deep := deep + 1) (da := da) (dc := dc) s.next [40] (by simp) hr hT (by rw [Sp.next_i]; omega)
  rw [show T.is s.next.i [40] = false from hopen, if_neg (by simp)] at he
  have hen : T.endOf (s.i + 1) = (T.tok s.i).pos + (T.tok s.i).text.length := rfl
  have hls := fun da dc => p_last (pb := pb) (deep := deep + 1) (da := da) (dc := dc) s.next hr hT (by rw [Sp.next_i]; omega)
  rw [show T.endOf s.next.i = (T.tok s.i).pos + (T.tok s.i).text.length from hen] at hls
  refine CalM.of fun w E hm => enter_defers (N := 153) Tryd.func208 rfl [(0, ptr pb)] args1 rfl ?_
  repeat' (first
    | (refine m_readC hm (by rfl) (by rfl) (by rfl) (by first | exact sub_nil | exact sub1_0 | exact sub1_1 | exact sub1_2 | exact sub1_3 | exact sub2_0 | exact sub2_1 | exact sub2_2 | exact sub2_3 | exact sub2_4) (p_here s hr) ?_; clear hm; intro _ hm)
    | (refine wc_semi_mem (id := 8) (hm.perm pm0) 10 11 (by kernel_rfl) ?_; clear hm; intro wd hR hm)
    | (refine iw_indexFlat (by rfl) (by rfl) (by rfl) (by rfl) (by exact hr) (by intro _; rfl) (by omega) (by omega) (by exact htk) ?_; intro b1' o1 hp1)
    | (refine op_call (by rfl) (by rfl) (by rfl) (by exact hn _) ?_; rintro _ _ ⟨rfl, hk⟩; replace hm := hm.kept0 hk)
    | (refine m_call hm (by rfl) (by rfl) (by rfl) (by first | exact pm0 | exact pm1_0 | exact pm1_1 | exact pm1_2 | exact pm1_3 | exact pm2_0 | exact pm2_1 | exact pm2_2 | exact pm2_3 | exact pm2_4 | exact pm3_0 | exact pm3_1 | exact pm3_2) (he _ _) ?_; clear hm; rintro _ _ _ _ ⟨rfl, rfl, da', dc', rfl⟩ hle hm; try simp only [setn] at hm)
    | (refine m_readC hm (by rfl) (by rfl) (by rfl) (by first | exact sub_nil | exact sub1_0 | exact sub1_1 | exact sub1_2 | exact sub1_3 | exact sub2_0 | exact sub2_1 | exact sub2_2 | exact sub2_3 | exact sub2_4) (hls _ _) ?_; clear hm; intro _ hm)
    | refine mw_load1 hR (by rfl) (by rfl) (by rfl) (by first | exact gt0 | exact gt1 | exact gt2 | exact gt3 | exact gt4 | exact gt5 | exact gt6) (by rfl) ?_
    | refine iw_loadN hR (by rfl) (by rfl) (by rfl) (by assumption) (by rfl) ?_
    | (refine mt_allocS (d := 4) hm (by rfl) (by rfl) ?_; clear hm; intro b4 _ hm)
    | (refine ws_nil ?_; replace hm := hR.back hm; clear hR; try simp only [setn] at hm)
    | (refine m_box (d := 1) hm (by rfl) (by rfl) (by rfl) (by rfl) ?_; clear hm; intro b1 _ hm)
    | (refine m_allocS (d := 2) hm (by rfl) (by rfl) ?_; clear hm; intro b2 _ hm)
    | (refine m_varS (d := 8) hm (by rfl) (by rfl) (by rfl) (by rfl) (by rfl) ?_; clear hm; intro b8 _ hm)
    | refine m_load1 hm (by rfl) (by rfl) (by rfl) (by first | exact gt0 | exact gt1 | exact gt2 | exact gt3 | exact gt4 | exact gt5 | exact gt6) (by rfl) ?_
    | refine m_loadAll hm (by rfl) (by rfl) (by rfl) (by first | exact gt0 | exact gt1 | exact gt2 | exact gt3 | exact gt4 | exact gt5 | exact gt6) (by rfl) ?_
    | refine mq_load1 hm (by rfl) (by rfl) (by rfl) (by first | exact gt0 | exact gt1 | exact gt2 | exact gt3 | exact gt4 | exact gt5 | exact gt6) (by rfl) ?_
    | (refine m_storeAll hm (by rfl) (by rfl) (by rfl) (by rfl) (by first | exact gt0 | exact gt1 | exact gt2 | exact gt3 | exact gt4 | exact gt5 | exact gt6) (by rfl) (by rfl) (by rfl) ?_; clear hm; intro _ hm; try simp only [setn] at hm)
    | (refine m_store1 hm (by rfl) (by rfl) (by rfl) (by rfl) (by first | exact gt0 | exact gt1 | exact gt2 | exact gt3 | exact gt4 | exact gt5 | exact gt6) (by rfl) (by rfl) (by rfl) ?_; clear hm; intro _ hm; try simp only [setn] at hm)
    | refine op_move (by rfl) (by rfl) (by rfl) ?_
    | refine op_assign (by rfl) (by rfl) (by rfl) ?_
    | refine op_eql (by rfl) (by rfl) (by rfl) (by rfl) ?_
    | refine op_eql_str (by rfl) (by rfl) (by rfl) (by rfl) ?_
    | refine op_not (by rfl) (by rfl) (by rfl) ?_
    | refine op_nilCheck (by rfl) (by rfl) (by rfl) ?_
    | refine op_makeFunc (by rfl) (by rfl) (by rfl) ?_
    | refine op_add (by rfl) (by rfl) (by rfl) (by rfl) (by omega) ?_
    | refine op_fieldAddr (by rfl) (by rfl) (by rfl) ?_
    | refine op_struct (by rfl) (by rfl) (by rfl) (by rfl) ?_
    | refine wl_nil ?_
    | refine at_then_normal ?_
    | refine at_block_normal ?_
    | refine wc_seq ?_
    | refine wc_region ?_
    | refine wc_block ?_
    | refine wc_skip ?_
    | refine wc_ret ?_
    | refine op_defer (by rfl) (by rfl) (by rfl) ?_
    | refine wc_quiet (by kernel_rfl) ?_
    | (refine wq_nil ?_; intro _ hkq; replace hm := hm.kept0 hkq; clear hkq)
    | refine wc_cond_false (by rfl) ?_
    | (refine wc_cond_dec (by rfl) (fun _ => ?_) (fun _ => ?_) <;> (try first | contradiction | (exfalso; omega)))
    | refine q_eql (by rfl) (by rfl) (by rfl) (by rfl) ?_
    | refine q_len_slice (by rfl) (by rfl) (by rfl) ?_
    | refine q_nilCheck (by rfl) (by rfl) (by rfl) ?_
    | refine q_fieldAddr (by rfl) (by rfl) (by rfl) ?_
    | refine v_nilCheck (by rfl) (by rfl) (by rfl) ?_
    | refine v_fieldAddr (by rfl) (by rfl) (by rfl) ?_
    | refine wv_nil ?_)
  all_goals try (exfalso; first | omega | contradiction)
  exact p_retA (i := 2) (e := .mk 2 (T.tok s.i).text 0 [] (T.tok s.i).pos ((T.tok s.i).pos + (T.tok s.i).text.length)) (s' := s.next) (by omega) rfl (hm.front 5 rfl) rfl (ex0_row _) .nil
end
end Go.Proofs.YtkbiakajlfmakaaDoor
end
