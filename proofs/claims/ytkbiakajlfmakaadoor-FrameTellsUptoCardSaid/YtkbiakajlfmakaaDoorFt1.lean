/- Own work: texts Fw, FwOps, FwMem, FwMem2, one behind the other. -/
import Derived.Calls
import Derived.Tactics
import Derived.WalkKit
import Derived.Lib.Strings
import Derived.Laws.AppendOwn
import Derived.Laws.CopyRow
section
namespace Go.Fw
open Go

/-- what is known of a frame's slots: the newest entry counts. -/
abbrev Log := List (Nat × Value)

def lk : Log → Nat → Option Value
  | [], _ => none
  | (d, v) :: l, t => bif Nat.beq t d then some v else lk l t

def ev (l : Log) : Operand → Option Value
  | .tmp t => lk l t
  | .const v => some v
  | .global g => some (.pointer (some ⟨g, 0, none⟩))
  | .func f => some (.func (.func f) #[] #[])

structure Fits (N : Nat) (ds : List Deferred) (l : Log) (a : Act) : Prop where
  size : a.tmps.size = N
  defs : a.defers = ds
  vals : ∀ t v, lk l t = some v → a.tmps[t]? = some v

theorem Fits.ev {N : Nat} {ds : List Deferred} {l : Log} {a : Act} (h : Fits N ds l a) {x : Operand} {v : Value} (hx : ev l x = some v) : a.eval x = v := by
  cases x with
  | tmp t =>
    have := h.vals t v hx
    simp only [Act.eval, Array.getD_eq_getD_getElem?, this, Option.getD_some]
  | const c => simpa [Fw.ev, Act.eval] using hx
  | global g => simpa [Fw.ev, Act.eval] using hx
  | func f => simpa [Fw.ev, Act.eval] using hx

theorem Fits.put {N : Nat} {ds : List Deferred} {l : Log} {a : Act} (h : Fits N ds l a) {d : Nat} (hd : Nat.blt d N = true) (v : Value) :
    Fits N ds ((d, v) :: l) (a.put (some d) v) := by
  have hd' : d < N := by simpa [Nat.blt_eq] using hd
  refine ⟨by simp [Act.put, h.size], h.defs, fun t u hu => ?_⟩
  simp only [lk] at hu
  simp only [Act.put]
  cases hb : Nat.beq t d with
  | true =>
    rw [hb] at hu
    have : t = d := Nat.eq_of_beq_eq_true hb
    subst this
    simp only [cond_true, Option.some.injEq] at hu
    subst hu
    have : t < a.tmps.size := by rw [h.size]; exact hd'
    simp [this]
  | false =>
    rw [hb] at hu
    have hne : d ≠ t := fun e => by subst e; simp at hb
    simp only [cond_false] at hu
    rw [Array.getElem?_setIfInBounds_ne hne]
    exact h.vals t u hu

/-- 'l'' holds no more than 'l'. -/
def Sub (l' l : Log) : Prop := ∀ t v, lk l' t = some v → lk l t = some v

/-- each entry of 'l'' is known in 'l' (a check that goes by 'rfl's). -/
def Has (l : Log) : Log → Prop
  | [] => True
  | (d, v) :: l' => lk l d = some v ∧ Has l l'

theorem Has.sub {l : Log} : ∀ {l' : Log}, Has l l' → Sub l' l
  | [], _ => fun t v h => by simp [lk] at h
  | (d, u) :: l', ⟨h1, h2⟩ => fun t v h => by
    simp only [lk] at h
    cases hb : Nat.beq t d with
    | true => rw [hb] at h; have := Nat.eq_of_beq_eq_true hb; subst this; simp at h; subst h; exact h1
    | false => rw [hb] at h; exact h2.sub t v (by simpa using h)

theorem Fits.sub {N : Nat} {ds : List Deferred} {l l' : Log} {a : Act} (h : Fits N ds l a) (hs : Sub l' l) : Fits N ds l' a :=
  ⟨h.size, h.defs, fun t v hv => h.vals t v (hs t v hv)⟩

section
variable {P : Program} {N : Nat} {ds : List Deferred}

/-- code, from frames of which 'l' is known. -/
structure WC (P : Program) (N : Nat) (ds : List Deferred) (c : Code) (Q : Exit → Act → World → Prop) (l : Log) (w : World) : Prop where
  run : ∀ a, Fits N ds l a → c.wp P Q a w
/-- a region's operations that are still to come. -/
structure WL (P : Program) (N : Nat) (ds : List Deferred) (ops : Array Oper) (Q : Exit → Act → World → Prop) (os : List Oper) (l : Log) (w : World) : Prop where
  run : ∀ a, Fits N ds l a → wpList P ops Q os a w
/-- an exit. -/
structure At (N : Nat) (ds : List Deferred) (Q : Exit → Act → World → Prop) (e : Exit) (l : Log) (w : World) : Prop where
  run : ∀ a, Fits N ds l a → Q e a w

variable {Q : Exit → Act → World → Prop} {l l' : Log} {w w' : World} {ops : Array Oper} {os : List Oper}

theorem WC.sub {c : Code} (hs : Has l l') (h : WC P N ds c Q l' w) : WC P N ds c Q l w := ⟨fun a ha => h.run a (ha.sub hs.sub)⟩

theorem WL.sub (hs : Sub l' l) (h : WL P N ds ops Q os l' w) : WL P N ds ops Q os l w := ⟨fun a ha => h.run a (ha.sub hs)⟩

theorem wc_seq {x y : Code} (h : WC P N ds x (Exit.then (fun a w => y.wp P Q a w) Q) l w) : WC P N ds (.seq x y) Q l w :=
  ⟨fun a ha => wp_seq (wp_mono (h.run a ha) fun _ _ _ q => q)⟩
theorem wc_block {id : Nat} {c : Code} (h : WC P N ds c (Exit.inBlock id Q) l w) : WC P N ds (.block id c) Q l w := ⟨fun a ha => wp_block (h.run a ha)⟩
theorem wc_skip (h : At N ds Q .normal l w) : WC P N ds .skip Q l w := ⟨fun a ha => wp_skip (h.run a ha)⟩
theorem wc_ret (h : At N ds Q .ret l w) : WC P N ds .ret Q l w := ⟨fun a ha => wp_ret (h.run a ha)⟩
theorem wc_exit {id : Nat} (h : At N ds Q (.exit id) l w) : WC P N ds (.exit id) Q l w := ⟨fun a ha => wp_exit (h.run a ha)⟩
theorem wc_cond {c : Operand} {x y : Code} {b : Bool} (hc : ev l c = some (.bool b)) (ht : b = true → WC P N ds x Q l w) (hf : b = false → WC P N ds y Q l w) :
    WC P N ds (.cond c x y) Q l w := ⟨fun a ha => wp_cond_split (ha.ev hc) (fun h => (ht h).run a ha) (fun h => (hf h).run a ha)⟩
theorem wc_cond_true {c : Operand} {x y : Code} (hc : ev l c = some (.bool true)) (ht : WC P N ds x Q l w) :
    WC P N ds (.cond c x y) Q l w := ⟨fun a ha => wp_cond_true (ha.ev hc) (ht.run a ha)⟩
theorem wc_cond_false {c : Operand} {x y : Code} (hc : ev l c = some (.bool false)) (hf : WC P N ds y Q l w) :
    WC P N ds (.cond c x y) Q l w := ⟨fun a ha => wp_cond_false (ha.ev hc) (hf.run a ha)⟩
theorem wc_region {id : Nat} (h : WL P N ds ops Q ops.toList l w) : WC P N ds (.region id ops false) Q l w := ⟨fun a ha => wp_region_list (h.run a ha)⟩

/-- a loop: at each round's head what is known is 'L x' and 'J x'. -/
theorem wc_loop {c : Code} {α : Type} (L : α → Log) (J : α → World → Prop) (μ : α → Nat) (x₀ : α) (hl : Has l (L x₀)) (hw : J x₀ w)
    (round : ∀ x w, J x w → WC P N ds c (Exit.then (fun a w => ∃ y, Fits N ds (L y) a ∧ J y w ∧ μ y < μ x) Q) (L x) w) :
    WC P N ds (.loop c) Q l w := by
  refine ⟨fun a ha b k cs => ?_⟩
  have key : ∀ n x a w, μ x = n → Fits N ds (L x) a → J x w →
      ∃ e a' w', Q e a' w' ∧ Arrives P (lone (b.at a (.code c :: .inLoop c :: k)) cs w) b k cs e a' w' := by
    intro n
    induction n using Nat.strongRecOn with
    | _ n ih =>
      intro x a w hn hL hI
      obtain ⟨e, a₁, w₁, hq, harr⟩ := (round x w hI).run a hL b (.inLoop c :: k) cs
      cases e with
      | normal =>
        obtain ⟨y, hL₁, hI₁, hlt⟩ := hq
        obtain ⟨e₂, a₂, w₂, hq₂, harr₂⟩ := ih (μ y) (hn ▸ hlt) y a₁ w₁ rfl hL₁ hI₁
        exact ⟨e₂, a₂, w₂, hq₂, .of_steps (Steps.trans harr (.one step_inLoop)) harr₂⟩
      | exit id => exact ⟨_, a₁, w₁, hq, .pass (x := .inLoop c) rfl (fun _ _ => .inl (by simp)) harr⟩
      | goto l => exact ⟨_, a₁, w₁, hq, .pass (x := .inLoop c) rfl (fun _ _ => .inl (by simp)) harr⟩
      | ret => exact ⟨_, a₁, w₁, hq, .pass (x := .inLoop c) rfl (fun _ _ => .inl (by simp)) harr⟩
      | panic ch => exact ⟨_, a₁, w₁, hq, .pass (x := .inLoop c) rfl (fun _ _ => .inl (by simp)) harr⟩
      | outgrown => exact ⟨_, a₁, w₁, hq, .pass (x := .inLoop c) rfl (fun _ _ => .inl (by simp)) harr⟩
  obtain ⟨e, a', w', hq, harr⟩ := key _ x₀ a w rfl (ha.sub hl.sub) hw
  exact ⟨e, a', w', hq, .of_steps (.one step_loop) harr⟩

/-! exits -/
theorem wl_nil (h : At N ds Q .normal l w) : WL P N ds ops Q [] l w := ⟨fun a ha => wpList_nil (h.run a ha)⟩
theorem at_then_normal {y : Code} (h : WC P N ds y Q l w) : At N ds (Exit.then (fun a w => y.wp P Q a w) Q) .normal l w := ⟨fun a ha => h.run a ha⟩
theorem at_round {α : Type} {L : α → Log} {J : α → World → Prop} {μ : α → Nat} {n : Nat} (y : α) (hl : Has l (L y)) (hw : J y w) (hm : μ y < n) :
    At N ds (Exit.then (fun a w => ∃ y, Fits N ds (L y) a ∧ J y w ∧ μ y < n) Q) .normal l w := ⟨fun _ ha => ⟨y, ha.sub hl.sub, hw, hm⟩⟩
theorem at_cut {α : Type} {L : α → Log} {J : α → World → Prop} (y : α) (hl : Has l (L y)) (hw : J y w) :
    At N ds (Exit.then (fun a w => ∃ x, Fits N ds (L x) a ∧ J x w) Q) .normal l w := ⟨fun _ ha => ⟨y, ha.sub hl.sub, hw⟩⟩
theorem at_then_ret {K : Act → World → Prop} (h : At N ds Q .ret l w) : At N ds (Exit.then K Q) .ret l w := ⟨fun a ha => h.run a ha⟩
theorem at_then_exit {K : Act → World → Prop} {id : Nat} (h : At N ds Q (.exit id) l w) : At N ds (Exit.then K Q) (.exit id) l w := ⟨fun a ha => h.run a ha⟩
theorem at_block_normal {id : Nat} (h : At N ds Q .normal l w) : At N ds (Exit.inBlock id Q) .normal l w := ⟨fun a ha => h.run a ha⟩
theorem at_block_ret {id : Nat} (h : At N ds Q .ret l w) : At N ds (Exit.inBlock id Q) .ret l w := ⟨fun a ha => h.run a ha⟩
theorem at_block_exit {id : Nat} (h : At N ds Q .normal l w) : At N ds (Exit.inBlock id Q) (.exit id) l w :=
  ⟨fun a ha => by simp only [Exit.inBlock, if_true]; exact h.run a ha⟩
/-- what a call comes to: it returns. -/
def Ret (Post : Value → World → Prop) : Ending → World → Prop
  | .returned v, w => Post v w
  | _, _ => False
/-- function 'f' called so returns, and 'Post' holds of what comes of it and of the world. -/
structure Cal (P : Program) (f : FuncId) (args : Array Value) (w : World) (Post : Value → World → Prop) : Prop where
  run : Calls P f args w (Ret Post)

theorem Cal.mono {f : FuncId} {args : Array Value} {Post Post' : Value → World → Prop} (h : Cal P f args w Post) (hp : ∀ v w, Post v w → Post' v w) : Cal P f args w Post' :=
  ⟨Calls.mono h.run (fun e w q => by cases e <;> first | exact hp _ _ q | exact q)⟩

theorem at_ret1 {fn : Func} {t : Nat} {v : Value} {Post : Value → World → Prop} (hr : fn.results = #[.tmp t]) (hv : lk l t = some v) (h : Post v w) :
    At N [] (bodyPost P fn (Ret Post)) .ret l w := ⟨fun a ha =>
  ⟨ha.defs, v, by rw [results_tmp hr]; simp [Array.getD_eq_getD_getElem?, ha.vals t v hv], h⟩⟩
theorem fits_enter (args : Array Value) (n : Nat) (l : Log) (h : ∀ t v, lk l t = some v → args[t]? = some v) :
    Fits (args.size + n) [] l { tmps := args ++ Array.replicate n undef, defers := [] } := by
  refine ⟨by simp, rfl, fun t v hv => ?_⟩
  have h1 := h t v hv
  have h2 : t < args.size := by
    rcases Nat.lt_or_ge t args.size with h3 | h3
    · exact h3
    · simp [Array.getElem?_eq_none h3] at h1
  show (args ++ Array.replicate n undef)[t]? = some v
  rw [Array.getElem?_append_left h2]; exact h1

theorem args1 {v : Value} : ∀ t u, lk [(0, v)] t = some u → #[v][t]? = some u := fun t u h => by
  match t, h with
  | 0, h => simpa [lk] using h
  | t + 1, h => cases h
theorem args2 {v0 v1 : Value} : ∀ t u, lk [(0, v0), (1, v1)] t = some u → #[v0, v1][t]? = some u := fun t u h => by
  match t, h with
  | 0, h => simpa [lk] using h
  | 1, h => have h' : some v1 = some u := h; simpa using h'
  | t + 2, h => cases h
theorem args3 {v0 v1 v2 : Value} : ∀ t u, lk [(0, v0), (1, v1), (2, v2)] t = some u → #[v0, v1, v2][t]? = some u := fun t u h => by
  match t, h with
  | 0, h => simpa [lk] using h
  | 1, h => have h' : some v1 = some u := h; simpa using h'
  | 2, h => have h' : some v2 = some u := h; simpa using h'
  | t + 3, h => cases h
theorem enter {f : FuncId} {fn : Func} {c : Code} {args : Array Value} {Post : Value → World → Prop} (hf : P.funcs[f]? = some fn) (hb : fn.body = some c)
    (l : Log) (hl : ∀ t v, lk l t = some v → args[t]? = some v) (hN : N = args.size + (fn.ntmps - args.size))
    (h : WC P N [] c (bodyPost P fn (Ret Post)) l w) : Cal P f args w Post :=
  ⟨calls_of_wp hf hb (h.run _ (by rw [hN]; exact fits_enter _ _ _ hl))⟩
end
end Go.Fw
end
section
namespace Go.Fw
open Go

/-- is the operation carried out? none: that is not known. -/
def want (ops : Array Oper) (l : Log) (o : Oper) : Option Bool :=
  match o.guard with
  | none => some true
  | some (j, b) => match (ops[j]?).bind (·.dst) with
    | none => some false
    | some t => match lk l t with
      | some (.bool x) => some (x == b)
      | some (.tuple _) => some false
      | _ => none

section
variable {P : Program} {N : Nat} {ds : List Deferred} {Q : Exit → Act → World → Prop} {l l' : Log} {w w' : World} {ops : Array Oper} {os : List Oper} {o : Oper}

theorem want_spec {a : Act} (h : Fits N ds l a) {b : Bool} (hw : want ops l o = some b) : Region.wanted o (yielded ops a.tmps) = b := by
  unfold want at hw
  unfold Region.wanted yielded
  split at hw
  · rename_i hg; simp only [Option.some.injEq] at hw; simp [hg, ← hw]
  · rename_i j c hg
    simp only [hg]
    split at hw
    · rename_i hj; simp only [Option.some.injEq] at hw; simp [hj, ← hw]
    · rename_i t hj
      simp only [hj, Option.bind_some]
      split at hw
      · rename_i x hx
        simp only [Option.some.injEq] at hw
        simp [h.vals _ _ hx, ← hw]
      · rename_i x hx
        simp only [Option.some.injEq] at hw
        simp [h.vals _ _ hx, ← hw]
      · cases hw

theorem wl_op (hw : want ops l o = some true) (h : ∀ a, Fits N ds l a → o.wp P a w (fun a' w' => wpList P ops Q os a' w') Q) : WL P N ds ops Q (o :: os) l w :=
  ⟨fun a ha => by
    unfold wpList
    rw [want_spec ha hw]
    exact .inl (h a ha)⟩

theorem wl_value {d : Nat} {v : Value} (hd : o.dst = some d) (hw : want ops l o = some true) (hN : Nat.blt d N = true)
    (hrun : ∀ a, Fits N ds l a → (execOp a.eval o).run P w = .ok (.value v) w')
    (k : WL P N ds ops Q os ((d, v) :: l) w') : WL P N ds ops Q (o :: os) l w :=
  wl_op hw fun a ha => by
    unfold Oper.wp
    rw [hrun a ha, Oper.upon_value, hd]
    exact k.run _ (ha.put hN v)

theorem wl_skip {d : Nat} (hd : o.dst = some d) (hw : want ops l o = some false) (hN : Nat.blt d N = true)
    (k : WL P N ds ops Q os ((d, undef) :: l) w) : WL P N ds ops Q (o :: os) l w := ⟨fun a ha => by
  unfold wpList
  rw [want_spec ha hw, hd]
  exact k.run _ (ha.put hN _)⟩

/-- the guard's bool is parted. -/
theorem wl_split {j : Nat} {b : Bool} {c : Bool} {t : Nat} (_hg : o.guard = some (j, c)) (_ht : (ops[j]?).bind (·.dst) = some t) (hb : lk l t = some (.bool b))
    (h1 : b = true → WL P N ds ops Q (o :: os) ((t, .bool true) :: l) w) (h0 : b = false → WL P N ds ops Q (o :: os) ((t, .bool false) :: l) w) :
    WL P N ds ops Q (o :: os) l w := by
  have key : ∀ c, b = c → WL P N ds ops Q (o :: os) ((t, .bool c) :: l) w → WL P N ds ops Q (o :: os) l w := fun c e h => ⟨fun a ha => by
    subst e
    refine h.run a ⟨ha.size, ha.defs, fun s v hv => ?_⟩
    simp only [lk] at hv
    cases hs : Nat.beq s t with
    | true => rw [hs] at hv; have := Nat.eq_of_beq_eq_true hs; subst this; simp at hv; subst hv; exact ha.vals _ _ hb
    | false => rw [hs] at hv; exact ha.vals _ _ (by simpa using hv)⟩
  cases hb' : b with
  | true => exact key true hb' (h1 hb')
  | false => exact key false hb' (h0 hb')

theorem wl_split_dec {j : Nat} {p : Prop} [Decidable p] {c : Bool} {t : Nat} (hg : o.guard = some (j, c)) (ht : (ops[j]?).bind (·.dst) = some t) (hb : lk l t = some (.bool (decide p)))
    (h1 : p → WL P N ds ops Q (o :: os) ((t, .bool true) :: l) w) (h0 : ¬ p → WL P N ds ops Q (o :: os) ((t, .bool false) :: l) w) :
    WL P N ds ops Q (o :: os) l w :=
  wl_split hg ht hb (fun h => h1 (of_decide_eq_true h)) (fun h => h0 (of_decide_eq_false h))
theorem wc_cond_dec {c : Operand} {x y : Code} {p : Prop} [Decidable p] (hc : ev l c = some (.bool (decide p))) (ht : p → WC P N ds x Q l w) (hf : ¬ p → WC P N ds y Q l w) :
    WC P N ds (.cond c x y) Q l w := wc_cond hc (fun h => ht (of_decide_eq_true h)) (fun h => hf (of_decide_eq_false h))

variable {d : Nat} {ty : TypeId} {pos : String} {af : Array Edge} {g : Option (Nat × Bool)}

theorem op_move {x : Operand} {v : Value} (hw : want ops l ⟨some d, .move x, ty, pos, af, g⟩ = some true) (hN : Nat.blt d N = true) (hx : ev l x = some v)
    (k : WL P N ds ops Q os ((d, v) :: l) w) : WL P N ds ops Q (⟨some d, .move x, ty, pos, af, g⟩ :: os) l w :=
  wl_value rfl hw hN (fun a ha => by simp [execOp, ha.ev hx]) k
theorem op_assign {x : Operand} {v : Value} (hw : want ops l ⟨some d, .assign x, ty, pos, af, g⟩ = some true) (hN : Nat.blt d N = true) (hx : ev l x = some v)
    (k : WL P N ds ops Q os ((d, v) :: l) w) : WL P N ds ops Q (⟨some d, .assign x, ty, pos, af, g⟩ :: os) l w :=
  wl_value rfl hw hN (fun a ha => by simp [execOp, ha.ev hx]) k
theorem op_pick_true {c x y : Operand} {v : Value} (hw : want ops l ⟨some d, .pick c x y, ty, pos, af, g⟩ = some true) (hN : Nat.blt d N = true)
    (hc : ev l c = some (.bool true)) (hx : ev l x = some v) (k : WL P N ds ops Q os ((d, v) :: l) w) : WL P N ds ops Q (⟨some d, .pick c x y, ty, pos, af, g⟩ :: os) l w :=
  wl_value rfl hw hN (fun a ha => by simp [execOp, ha.ev hc, ha.ev hx, asBool]) k
theorem op_pick_false {c x y : Operand} {v : Value} (hw : want ops l ⟨some d, .pick c x y, ty, pos, af, g⟩ = some true) (hN : Nat.blt d N = true)
    (hc : ev l c = some (.bool false)) (hy : ev l y = some v) (k : WL P N ds ops Q os ((d, v) :: l) w) : WL P N ds ops Q (⟨some d, .pick c x y, ty, pos, af, g⟩ :: os) l w :=
  wl_value rfl hw hN (fun a ha => by simp [execOp, ha.ev hc, ha.ev hy, asBool]) k

theorem beq_dec {α : Type} [BEq α] [LawfulBEq α] [DecidableEq α] (a b : α) : (a == b) = decide (a = b) := by rw [Bool.eq_iff_iff]; simp
/-! ints: comparisons -/
section
variable {t t' : TypeId} {x y : Operand} {ik : IntKind}
theorem op_lss {a b : Int} (hw : want ops l ⟨some d, .binOp .lss t x y t', ty, pos, af, g⟩ = some true) (hN : Nat.blt d N = true) (hx : ev l x = some (.int ik a)) (hy : ev l y = some (.int ik b))
    (k : WL P N ds ops Q os ((d, .bool (decide (a < b))) :: l) w) : WL P N ds ops Q (⟨some d, .binOp .lss t x y t', ty, pos, af, g⟩ :: os) l w :=
  wl_value rfl hw hN (fun c hc => by simp [execOp, hc.ev hx, hc.ev hy, eqGuard, binOp, Op.intCmp]) k
theorem op_leq {a b : Int} (hw : want ops l ⟨some d, .binOp .leq t x y t', ty, pos, af, g⟩ = some true) (hN : Nat.blt d N = true) (hx : ev l x = some (.int ik a)) (hy : ev l y = some (.int ik b))
    (k : WL P N ds ops Q os ((d, .bool (decide (a ≤ b))) :: l) w) : WL P N ds ops Q (⟨some d, .binOp .leq t x y t', ty, pos, af, g⟩ :: os) l w :=
  wl_value rfl hw hN (fun c hc => by simp [execOp, hc.ev hx, hc.ev hy, eqGuard, binOp, Op.intCmp]) k
theorem op_gtr {a b : Int} (hw : want ops l ⟨some d, .binOp .gtr t x y t', ty, pos, af, g⟩ = some true) (hN : Nat.blt d N = true) (hx : ev l x = some (.int ik a)) (hy : ev l y = some (.int ik b))
    (k : WL P N ds ops Q os ((d, .bool (decide (b < a))) :: l) w) : WL P N ds ops Q (⟨some d, .binOp .gtr t x y t', ty, pos, af, g⟩ :: os) l w :=
  wl_value rfl hw hN (fun c hc => by simp [execOp, hc.ev hx, hc.ev hy, eqGuard, binOp, Op.intCmp]) k
theorem op_eql {a b : Int} (hw : want ops l ⟨some d, .binOp .eql t x y t', ty, pos, af, g⟩ = some true) (hN : Nat.blt d N = true) (hx : ev l x = some (.int ik a)) (hy : ev l y = some (.int ik b))
    (k : WL P N ds ops Q os ((d, .bool (decide (a = b))) :: l) w) : WL P N ds ops Q (⟨some d, .binOp .eql t x y t', ty, pos, af, g⟩ :: os) l w :=
  wl_value rfl hw hN (fun c hc => by simp [execOp, hc.ev hx, hc.ev hy, eqGuard, binOp, Op.intCmp, beq_dec]) k
theorem op_neq {a b : Int} (hw : want ops l ⟨some d, .binOp .neq t x y t', ty, pos, af, g⟩ = some true) (hN : Nat.blt d N = true) (hx : ev l x = some (.int ik a)) (hy : ev l y = some (.int ik b))
    (k : WL P N ds ops Q os ((d, .bool (decide (a ≠ b))) :: l) w) : WL P N ds ops Q (⟨some d, .binOp .neq t x y t', ty, pos, af, g⟩ :: os) l w :=
  wl_value rfl hw hN (fun c hc => by simp [execOp, hc.ev hx, hc.ev hy, eqGuard, binOp, Op.intCmp, beq_dec, bne]) k
end
end
end Go.Fw
end
section
namespace Go.Fw
open Go

/-! what a world keeps -/
structure Kept (X : List Nat) (w w' : World) : Prop where
  os : w'.os = w.os
  tape : w'.tape = w.tape
  output : w'.output = w.output
  size : w.heap.size ≤ w'.heap.size
  blk : ∀ k, k < w.heap.size → k ∉ X → w'.heap[k]? = w.heap[k]?

theorem lt_of_heap {w : World} {b : Nat} {o : Obj} (h : w.heap[b]? = some o) : b < w.heap.size := (Array.getElem?_eq_some_iff.1 h).1

theorem Kept.refl (X : List Nat) (w : World) : Kept X w w := ⟨rfl, rfl, rfl, Nat.le_refl _, fun _ _ _ => rfl⟩
theorem Kept.trans {X : List Nat} {a b c : World} (h : Kept X a b) (k : Kept X b c) : Kept X a c :=
  ⟨k.os.trans h.os, k.tape.trans h.tape, k.output.trans h.output, Nat.le_trans h.size k.size,
    fun i hi hx => (k.blk i (Nat.lt_of_lt_of_le hi h.size) hx).trans (h.blk i hi hx)⟩
theorem Kept.mono {X Y : List Nat} {a b : World} (h : Kept X a b) (hs : ∀ x, x ∈ X → x ∈ Y ∨ a.heap.size ≤ x) : Kept Y a b :=
  ⟨h.os, h.tape, h.output, h.size, fun i hi hy => h.blk i hi (fun hx => (hs i hx).elim hy (fun h2 => absurd hi (Nat.not_lt.2 h2)))⟩
/-- what is written behind the beginning alone does not count. -/
theorem Kept.step {X Y : List Nat} {a b c : World} (h : Kept X a b) (k : Kept Y b c) (hs : ∀ x, x ∈ Y → x ∈ X ∨ a.heap.size ≤ x) : Kept X a c :=
  ⟨k.os.trans h.os, k.tape.trans h.tape, k.output.trans h.output, Nat.le_trans h.size k.size,
    fun i hi hx => (k.blk i (Nat.lt_of_lt_of_le hi h.size) (fun hy => (hs i hy).elim hx (fun h2 => absurd hi (Nat.not_lt.2 h2)))).trans (h.blk i hi hx)⟩
theorem Kept.step0 {X : List Nat} {a b c : World} (h : Kept X a b) (k : Kept [] b c) : Kept X a c := h.step k (fun _ hx => by cases hx)
theorem Kept.get {X : List Nat} {w w' : World} (h : Kept X w w') {b : Nat} {o : Obj} (hb : w.heap[b]? = some o) (hx : b ∉ X) : w'.heap[b]? = some o :=
  (h.blk b (lt_of_heap hb) hx).trans hb
theorem Kept.get0 {w w' : World} (h : Kept [] w w') {b : Nat} {o : Obj} (hb : w.heap[b]? = some o) : w'.heap[b]? = some o := h.get hb (by simp)
theorem Kept.alloc (w : World) (o : Obj) : Kept [] w (w.alloc o) := ⟨rfl, rfl, rfl, by simp, fun k hk _ => heap_alloc_old w o hk⟩
theorem Kept.drew (w : World) : Kept [] w w.drew := ⟨rfl, rfl, rfl, Nat.le_refl _, fun _ _ _ => rfl⟩
theorem Kept.of_grown {w w' : World} {r : Option Nat} (h : w.grownBy w' r) : Kept r.toList w w' :=
  ⟨h.os, h.tape, h.output, h.size, fun k hk hx => h.block k hk (fun e => hx (by rw [← e]; simp))⟩
theorem Kept.own {w w' : World} {X : List Nat} (h : Kept X w w') {base e size n : Nat} {v : Value} {xs : List Value} (ho : w.ownsRow base e size v n xs)
    (hx : ∀ g, v.ownBlock = some g → g ∉ X) : w'.ownsRow base e size v n xs := by
  refine ⟨ho.1, ?_⟩
  rcases ho.2 with hn | ⟨g, cap, cur, rfl, hb, hg, rest⟩
  · exact .inl hn
  · exact .inr ⟨g, cap, cur, rfl, hb, h.get hg (hx g rfl), rest⟩
theorem ownsRow_base {w : World} {base base' e size n : Nat} {v : Value} {xs : List Value} (ho : w.ownsRow base e size v n xs) (h : base' ≤ base) : w.ownsRow base' e size v n xs := by
  refine ⟨ho.1, ?_⟩
  rcases ho.2 with hn | ⟨g, cap, cur, rfl, hb, hg, rest⟩
  · exact .inl hn
  · exact .inr ⟨g, cap, cur, rfl, by omega, hg, rest⟩

/-! what does not turn any more -/
abbrev Imm := Nat → Option Obj
def Inv (I : Imm) (w : World) : Prop := ∀ b o, I b = some o → w.heap[b]? = some o
def Le (I I' : Imm) : Prop := ∀ b o, I b = some o → I' b = some o
def Imm.add (I : Imm) (b : Nat) (o : Obj) : Imm := fun k => if k = b then some o else I k
theorem Le.refl (I : Imm) : Le I I := fun _ _ h => h
theorem Le.trans {a b c : Imm} (h : Le a b) (k : Le b c) : Le a c := fun _ _ x => k _ _ (h _ _ x)
theorem Inv.fresh {I : Imm} {w : World} (h : Inv I w) {b : Nat} (hb : w.heap.size ≤ b) : I b = none := by
  cases hi : I b with
  | none => rfl
  | some o => exact absurd (lt_of_heap (h b o hi)) (by omega)
theorem Inv.kept {I : Imm} {w w' : World} {X : List Nat} (h : Inv I w) (k : Kept X w w') (hx : ∀ x, x ∈ X → I x = none) : Inv I w' := fun b o hb =>
  k.get (h b o hb) (fun hm => by rw [hx b hm] at hb; cases hb)
theorem Inv.kept0 {I : Imm} {w w' : World} (h : Inv I w) (k : Kept [] w w') : Inv I w' := h.kept k (fun _ hx => by cases hx)
theorem Inv.add {I : Imm} {w : World} (h : Inv I w) {b : Nat} {o : Obj} (hb : w.heap[b]? = some o) : Inv (I.add b o) w := fun k u hk => by
  unfold Imm.add at hk
  split at hk
  · rename_i e; subst e; simp at hk; subst hk; exact hb
  · exact h k u hk
theorem Le.add {I : Imm} {b : Nat} {o : Obj} (h : I b = none) : Le I (I.add b o) := fun k u hk => by
  unfold Imm.add
  split
  · rename_i e; subst e; rw [h] at hk; cases hk
  · exact hk
theorem Imm.add_self (I : Imm) (b : Nat) (o : Obj) : (I.add b o) b = some o := by simp [Imm.add]

/-! facts on types, found by instance -/
def isAggD : TypeDesc → Bool
  | .struct _ | .array _ _ => true
  | _ => false
class TyStr (P : Program) (t : TypeId) : Prop where out : P.underlying t = some .string
class TySlice (P : Program) (t : TypeId) (e : outParam TypeId) : Prop where out : P.underlying t = some (.slice e)
/-- an element's cells, its bytes, its zero value. -/
class Elem (P : Program) (e : TypeId) (size bytes : outParam Nat) : Prop where
  out : ∃ i z, P.info? e = some i ∧ i.zero = some z ∧ i.size = size ∧ i.bytes = bytes ∧ z.cells.size = size ∧ 0 < size
/-- a function of the program's own. -/
class Own (P : Program) (f : FuncId) : Prop where out : ∃ fn, P.funcs[f]? = some fn ∧ (fn.name == "runtime.NumGoroutine") = false ∧ fn.body.isNone = false
/-- the type is none of many cells. -/
class TyOne (P : Program) (t : TypeId) : Prop where out : ∃ d, P.underlying t = some d ∧ isAggD d = false
class TyAgg (P : Program) (t : TypeId) (size : outParam Nat) : Prop where out : ∃ d i, P.underlying t = some d ∧ isAggD d = true ∧ P.info? t = some i ∧ i.size = size

/-- a text's value. -/
abbrev str (s : List UInt8) : Value := .string ⟨s.toArray⟩
theorem str_size (s : List UInt8) : ByteArray.size ⟨s.toArray⟩ = s.length := List.size_toArray
section
variable {P : Program} {N : Nat} {ds : List Deferred} {Q : Exit → Act → World → Prop} {l l' : Log} {w w' : World} {ops : Array Oper} {os : List Oper} {o : Oper}
variable {d : Nat} {ty : TypeId} {pos : String} {af : Array Edge} {g : Option (Nat × Bool)} {t t' : TypeId} {x y : Operand}

/-! texts -/
theorem op_len_str [TyStr P t] {s : List UInt8} (hw : want ops l ⟨some d, .call ⟨.builtin .len, #[x], #[t]⟩, ty, pos, af, g⟩ = some true) (hN : Nat.blt d N = true)
    (hx : ev l x = some (str s)) (k : WL P N ds ops Q os ((d, .int .i64 (s.length : Int)) :: l) w) :
    WL P N ds ops Q (⟨some d, .call ⟨.builtin .len, #[x], #[t]⟩, ty, pos, af, g⟩ :: os) l w :=
  wl_value rfl hw hN (fun a ha => by
    have h1 := run_underlying (P := P) (w := w) (TyStr.out (P := P) (t := t))
    simp [execOp, resolve, invoke, builtin, Builtin.len_, ha.ev hx, h1, goInt, str_size]) k
theorem op_len_slice {e : TypeId} [TySlice P t e] {b : Option Addr} {n c : Nat} (hw : want ops l ⟨some d, .call ⟨.builtin .len, #[x], #[t]⟩, ty, pos, af, g⟩ = some true) (hN : Nat.blt d N = true)
    (hx : ev l x = some (.slice b n c)) (k : WL P N ds ops Q os ((d, .int .i64 (n : Int)) :: l) w) :
    WL P N ds ops Q (⟨some d, .call ⟨.builtin .len, #[x], #[t]⟩, ty, pos, af, g⟩ :: os) l w :=
  wl_value rfl hw hN (fun a ha => by
    have h1 := run_underlying (P := P) (w := w) (TySlice.out (P := P) (t := t))
    simp [execOp, resolve, invoke, builtin, Builtin.len_, ha.ev hx, h1, goInt]) k
theorem str_append (s u : List UInt8) : (⟨s.toArray⟩ : ByteArray) ++ ⟨u.toArray⟩ = ⟨(s ++ u).toArray⟩ := by
  apply ByteArray.ext
  simp
theorem op_eql_str {s u : List UInt8} (hw : want ops l ⟨some d, .binOp .eql t x y t', ty, pos, af, g⟩ = some true) (hN : Nat.blt d N = true)
    (hx : ev l x = some (str s)) (hy : ev l y = some (str u)) (k : WL P N ds ops Q os ((d, .bool (decide (s = u))) :: l) w) :
    WL P N ds ops Q (⟨some d, .binOp .eql t x y t', ty, pos, af, g⟩ :: os) l w :=
  wl_value rfl hw hN (fun c hc => by simp [execOp, hc.ev hx, hc.ev hy, eqGuard, binOp, Op.stringOp]; exact beq_dec s u) k
theorem op_neq_str {s u : List UInt8} (hw : want ops l ⟨some d, .binOp .neq t x y t', ty, pos, af, g⟩ = some true) (hN : Nat.blt d N = true)
    (hx : ev l x = some (str s)) (hy : ev l y = some (str u)) (k : WL P N ds ops Q os ((d, .bool (decide (s ≠ u))) :: l) w) :
    WL P N ds ops Q (⟨some d, .binOp .neq t x y t', ty, pos, af, g⟩ :: os) l w :=
  wl_value rfl hw hN (fun c hc => by simp [execOp, hc.ev hx, hc.ev hy, eqGuard, binOp, Op.stringOp]; exact beq_dec s u) k
theorem op_add_str {s u : List UInt8} (hw : want ops l ⟨some d, .binOp .add t x y t', ty, pos, af, g⟩ = some true) (hN : Nat.blt d N = true)
    (hx : ev l x = some (str s)) (hy : ev l y = some (str u)) (h : s.length + u.length ≤ 9223372036854775807) (k : WL P N ds ops Q os ((d, str (s ++ u)) :: l) w) :
    WL P N ds ops Q (⟨some d, .binOp .add t x y t', ty, pos, af, g⟩ :: os) l w :=
  wl_value rfl hw hN (fun c hc => by
    have h1 : ¬ ((s.length + u.length : Nat) : Int) > IntKind.i64.max := by simp [IntKind.max, IntKind.bits, IntKind.signed]; omega
    simp only [execOp, hc.ev hx, hc.ev hy, eqGuard, binOp, Op.stringOp, str_size, str_append, if_neg h1]
    simp) k

/-! ints -/
theorem op_add {a b : Int} (hw : want ops l ⟨some d, .binOp .add t x y t', ty, pos, af, g⟩ = some true) (hN : Nat.blt d N = true)
    (hx : ev l x = some (.int .i64 a)) (hy : ev l y = some (.int .i64 b)) (h : -9223372036854775808 ≤ a + b ∧ a + b ≤ 9223372036854775807)
    (k : WL P N ds ops Q os ((d, .int .i64 (a + b)) :: l) w) : WL P N ds ops Q (⟨some d, .binOp .add t x y t', ty, pos, af, g⟩ :: os) l w :=
  wl_value rfl hw hN (fun c hc => by simp [execOp, hc.ev hx, hc.ev hy, eqGuard, binOp, Op.intArith, IntWalk.i64_in _ h]) k
theorem op_sub {a b : Int} (hw : want ops l ⟨some d, .binOp .sub t x y t', ty, pos, af, g⟩ = some true) (hN : Nat.blt d N = true)
    (hx : ev l x = some (.int .i64 a)) (hy : ev l y = some (.int .i64 b)) (h : -9223372036854775808 ≤ a - b ∧ a - b ≤ 9223372036854775807)
    (k : WL P N ds ops Q os ((d, .int .i64 (a - b)) :: l) w) : WL P N ds ops Q (⟨some d, .binOp .sub t x y t', ty, pos, af, g⟩ :: os) l w :=
  wl_value rfl hw hN (fun c hc => by simp [execOp, hc.ev hx, hc.ev hy, eqGuard, binOp, Op.intArith, IntWalk.i64_in _ h]) k
theorem op_not {b : Bool} (hw : want ops l ⟨some d, .unOp .not t x, ty, pos, af, g⟩ = some true) (hN : Nat.blt d N = true)
    (hx : ev l x = some (.bool b)) (k : WL P N ds ops Q os ((d, .bool (!b)) :: l) w) : WL P N ds ops Q (⟨some d, .unOp .not t x, ty, pos, af, g⟩ :: os) l w :=
  wl_value rfl hw hN (fun c hc => by simp [execOp, hc.ev hx, Op.unary]) k
theorem op_extract {n : Nat} {vs : List Value} {v : Value} (hw : want ops l ⟨some d, .extract x n, ty, pos, af, g⟩ = some true) (hN : Nat.blt d N = true)
    (hx : ev l x = some (.tuple vs.toArray)) (hv : vs[n]? = some v) (k : WL P N ds ops Q os ((d, v) :: l) w) : WL P N ds ops Q (⟨some d, .extract x n, ty, pos, af, g⟩ :: os) l w :=
  wl_value rfl hw hN (fun c hc => by simp [execOp, hc.ev hx, Instr.extract, hv]) k

/-! calls -/
def evs (l : Log) : List Operand → Option (List Value)
  | [] => some []
  | x :: xs => match ev l x, evs l xs with
    | some v, some vs => some (v :: vs)
    | _, _ => none
theorem Fits.evs {a : Act} (h : Fits N ds l a) : ∀ {xs : List Operand} {vs : List Value}, evs l xs = some vs → xs.map a.eval = vs
  | [], vs, hv => by simp [Fw.evs] at hv; simp [← hv]
  | x :: xs, vs, hv => by
    simp only [Fw.evs] at hv
    split at hv
    · rename_i v us h1 h2
      simp only [Option.some.injEq] at hv
      rw [← hv, List.map_cons, h.ev h1, h.evs h2]
    · cases hv

theorem wl_enter {f : FuncId} {args : Array Value} {Post : Value → World → Prop} (hw : want ops l o = some true)
    (hrun : ∀ a, Fits N ds l a → (execOp a.eval o).run P w = .ok (.enter f args) w) (hc : Cal P f args w Post)
    (k : ∀ v w', Post v w' → ∀ a, Fits N ds l a → wpList P ops Q os (a.put o.dst v) w') : WL P N ds ops Q (o :: os) l w :=
  wl_op hw fun a ha => by
    unfold Oper.wp
    rw [hrun a ha, Oper.upon_enter]
    exact Calls.mono hc.run (fun e w' q => by
      cases e with
      | returned v => exact k v w' q a ha
      | panicked c => exact q.elim
      | outgrown => exact q.elim)

theorem run_callFunc {f : FuncId} [Own P f] (args : Array Value) : (callFunc f args).run P w = .ok (.enter f args) w := by
  obtain ⟨fn, h1, h2, h3⟩ := Own.out (P := P) (f := f)
  simp only [beq_eq_false_iff_ne] at h2
  have h4 : ¬ fn.body = none := fun e => by simp [e] at h3
  simp [callFunc, h1, h2, h4]

theorem op_call {f : FuncId} [Own P f] {xs : List Operand} {tys : Array TypeId} {vs : List Value} {Post : Value → World → Prop}
    (hw : want ops l ⟨some d, .call ⟨.value (.func f), xs.toArray, tys⟩, ty, pos, af, g⟩ = some true) (hN : Nat.blt d N = true)
    (hx : evs l xs = some vs) (hc : Cal P f vs.toArray w Post) (k : ∀ v w', Post v w' → WL P N ds ops Q os ((d, v) :: l) w') :
    WL P N ds ops Q (⟨some d, .call ⟨.value (.func f), xs.toArray, tys⟩, ty, pos, af, g⟩ :: os) l w :=
  wl_enter hw (fun a ha => by
    have := ha.evs hx
    simp [execOp, resolve, invoke, Act.eval, Deferred.ofValue, this, run_callFunc]) hc (fun v w' hp a ha => (k v w' hp).run _ (ha.put hN v))
/-- a call of what is a value. -/
theorem op_callv {c : Operand} {f : FuncId} [Own P f] {xs : List Operand} {tys : Array TypeId} {vs ca : List Value} {Post : Value → World → Prop}
    (hw : want ops l ⟨some d, .call ⟨.value c, xs.toArray, tys⟩, ty, pos, af, g⟩ = some true) (hN : Nat.blt d N = true)
    (hf : ev l c = some (.func (.func f) #[] ca.toArray)) (hx : evs l xs = some vs) (hc : Cal P f (vs ++ ca).toArray w Post) (k : ∀ v w', Post v w' → WL P N ds ops Q os ((d, v) :: l) w') :
    WL P N ds ops Q (⟨some d, .call ⟨.value c, xs.toArray, tys⟩, ty, pos, af, g⟩ :: os) l w :=
  wl_enter hw (fun a ha => by
    have := ha.evs hx
    simp [execOp, resolve, invoke, ha.ev hf, Deferred.ofValue, this, run_callFunc]) hc (fun v w' hp a ha => (k v w' hp).run _ (ha.put hN v))
theorem op_makeFunc {f : FuncId} {xs : List Operand} {vs : List Value} (hw : want ops l ⟨some d, .makeFunc (.func f) #[] xs.toArray, ty, pos, af, g⟩ = some true) (hN : Nat.blt d N = true)
    (hx : evs l xs = some vs) (k : WL P N ds ops Q os ((d, .func (.func f) #[] vs.toArray) :: l) w) :
    WL P N ds ops Q (⟨some d, .makeFunc (.func f) #[] xs.toArray, ty, pos, af, g⟩ :: os) l w :=
  wl_value rfl hw hN (fun a ha => by
    have := ha.evs hx
    simp [execOp, Instr.makeFunc, this]) k

/-! memory -/
theorem op_box {v : Value} (hw : want ops l ⟨some d, .box t x, ty, pos, af, g⟩ = some true) (hN : Nat.blt d N = true) (hx : ev l x = some v)
    (k : ∀ b w', b = w.heap.size → w'.heap[b]? = some (.cells v.cells t (0, 0)) → Kept [] w w' → WL P N ds ops Q os ((d, .pointer (some ⟨b, 0, none⟩)) :: l) w') :
    WL P N ds ops Q (⟨some d, .box t x, ty, pos, af, g⟩ :: os) l w :=
  wl_value (w' := w.alloc (.cells v.cells t (0, 0))) rfl hw hN (fun a ha => by
    simp [execOp, Instr.box, newVar, newRow, newObj, ha.ev hx]; rfl) (k w.heap.size _ rfl (heap_alloc_new w _) (Kept.alloc w _))
theorem cell_of {b off : Nat} {c : Array Value} {e : TypeId} {fr : Nat × Nat} {v : Value} (hb : w.heap[b]? = some (.cells c e fr)) (hc : c[off]? = some v) : w.cell? ⟨b, off, none⟩ = some v := by
  simp [World.cell?, hb, hc]
theorem run_isAgg {dd : TypeDesc} (h : P.underlying t = some dd) : (isAgg t).run P w = .ok (isAggD dd) w := by
  have h3 := run_underlying (P := P) (w := w) h
  simp only [isAgg]
  cases dd <;> simp [h3, isAggD]
theorem op_load1 [TyOne P t] {b off : Nat} {c : Array Value} {e : TypeId} {fr : Nat × Nat} {v : Value} (hw : want ops l ⟨some d, .load t x, ty, pos, af, g⟩ = some true) (hN : Nat.blt d N = true)
    (hx : ev l x = some (.pointer (some ⟨b, off, none⟩))) (hb : w.heap[b]? = some (.cells c e fr)) (hc : c[off]? = some v)
    (k : WL P N ds ops Q os ((d, v) :: l) w) : WL P N ds ops Q (⟨some d, .load t x, ty, pos, af, g⟩ :: os) l w :=
  wl_value rfl hw hN (fun a ha => by
    obtain ⟨dd, h1, h2⟩ := TyOne.out (P := P) (t := t)
    have h4 := cell_of hb hc
    simp [execOp, Instr.loadAt, Instr.sureAddr, loadVar, run_isAgg h1, h2, ha.ev hx, load, Sem.run, h4]) k
end
end Go.Fw
end
section
namespace Go.Fw
open Go

/-- field 'i' of a struct type: so many cells in. -/
class Fld (P : Program) (t : TypeId) (i : Nat) (off : outParam Nat) : Prop where
  out : ∃ fs f inf, P.underlying t = some (.struct fs) ∧ fs[i]? = some f ∧ f.offset = off ∧ P.info? f.type = some inf ∧ inf.size ≠ 0

def elemB (P : Program) (e : TypeId) (size bytes : Nat) : Bool :=
  match P.info? e with
  | some i => match i.zero with
    | some z => i.size == size && i.bytes == bytes && z.cells.size == size && Nat.blt 0 size
    | none => false
  | none => false
theorem Elem.of {P : Program} {e : TypeId} {size bytes : Nat} (h : elemB P e size bytes = true) : Elem P e size bytes := by
  unfold elemB at h
  split at h
  · rename_i i hi
    split at h
    · rename_i z hz
      simp only [Bool.and_eq_true, beq_iff_eq, Nat.blt_eq] at h
      exact ⟨i, z, hi, hz, h.1.1.1, h.1.1.2, h.1.2, h.2⟩
    · cases h
  · cases h
def oneB (P : Program) (t : TypeId) : Bool := match P.underlying t with
  | some d => !isAggD d
  | none => false
theorem TyOne.of {P : Program} {t : TypeId} (h : oneB P t = true) : TyOne P t := by
  unfold oneB at h
  split at h
  · rename_i d hd; exact ⟨d, hd, by simpa using h⟩
  · cases h
def aggB (P : Program) (t : TypeId) (size : Nat) : Bool := match P.underlying t, P.info? t with
  | some d, some i => isAggD d && i.size == size
  | _, _ => false
theorem TyAgg.of {P : Program} {t : TypeId} {size : Nat} (h : aggB P t size = true) : TyAgg P t size := by
  unfold aggB at h
  split at h
  · rename_i d i hd hi; simp only [Bool.and_eq_true, beq_iff_eq] at h; exact ⟨d, i, hd, h.1, hi, h.2⟩
  · cases h
def ownB (P : Program) (f : FuncId) : Bool := match P.funcs[f]? with
  | some fn => !(fn.name == "runtime.NumGoroutine") && !fn.body.isNone
  | none => false
theorem Own.of {P : Program} {f : FuncId} (h : ownB P f = true) : Own P f := by
  unfold ownB at h
  split at h
  · rename_i fn hf; simp only [Bool.and_eq_true, Bool.not_eq_true'] at h; exact ⟨fn, hf, h.1, h.2⟩
  · cases h
def fldB (P : Program) (t : TypeId) (i off : Nat) : Bool := match P.underlying t with
  | some (.struct fs) => match fs[i]? with
    | some f => f.offset == off && (match P.info? f.type with | some inf => inf.size != 0 | none => false)
    | none => false
  | _ => false
theorem Fld.of {P : Program} {t : TypeId} {i off : Nat} (h : fldB P t i off = true) : Fld P t i off := by
  unfold fldB at h
  split at h
  · rename_i fs hd
    split at h
    · rename_i f hf
      simp only [Bool.and_eq_true, beq_iff_eq] at h
      obtain ⟨h1, h2⟩ := h
      split at h2
      · rename_i inf hi; exact ⟨fs, f, inf, hd, hf, h1, hi, by simpa using h2⟩
      · cases h2
    · cases h
  · cases h

/-- a struct type: where each field's cells lie, and how many; the zero value's cells. -/
class StructT (P : Program) (t : TypeId) (places : outParam (List (Nat × Nat))) (zero : outParam (List Value)) : Prop where
  out : ∃ fs, P.underlying t = some (.struct fs) ∧ (fs.toList.mapM fun f => (P.info? f.type).map fun i => (f.offset, i.size)) = some places ∧
    (P.info? t).bind (·.zero) = some (.agg zero.toArray)
def placesB (P : Program) (t : TypeId) : Option (List (Nat × Nat)) := match P.underlying t with
  | some (.struct fs) => fs.toList.mapM fun f => (P.info? f.type).map fun i => (f.offset, i.size)
  | _ => none
theorem StructT.of {P : Program} {t : TypeId} {places : List (Nat × Nat)} {zero : List Value} (h : placesB P t = some places) (hz : (P.info? t).bind (·.zero) = some (.agg zero.toArray)) :
    StructT P t places zero := by
  unfold placesB at h
  split at h
  · rename_i fs hd; exact ⟨fs, hd, h, hz⟩
  · cases h
/-- the parts, each in its place. -/
def bld (places : List (Nat × Nat)) (cs : List Value) : List (Nat × Value) → Option (List Value)
  | [] => some cs
  | (i, v) :: ps => match places[i]? with
    | some (off, n) => bif Nat.beq v.cells.toList.length n && Nat.ble (off + n) cs.length then bld places (cs.take off ++ (v.cells.toList ++ cs.drop (off + n))) ps else none
    | none => none

section
variable {P : Program} {N : Nat} {ds : List Deferred} {Q : Exit → Act → World → Prop} {l l' : Log} {w w' : World} {ops : Array Oper} {os : List Oper} {o : Oper}
variable {d : Nat} {ty : TypeId} {pos : String} {af : Array Edge} {g : Option (Nat × Bool)} {t t' : TypeId} {x y : Operand}

theorem Kept.setRow {b : Nat} {c : Array Value} {e : TypeId} {fr : Nat × Nat} (_hb : w.heap[b]? = some (.cells c e fr)) (c' : Array Value) : Kept [b] w (w.setRow b c') :=
  ⟨rfl, rfl, rfl, by simp, fun k _ hx => setRow_other w b k c' (by simpa using hx)⟩

theorem run_storeVar {b off n by_ : Nat} [Elem P t n by_] {c : Array Value} {e : TypeId} (v : Value) (hb : w.heap[b]? = some (.cells c e (0, 0))) (hn : v.cells.size = n) (ho : off + n ≤ c.size)
    (h1 : v.cells.toList.all (·.oneCell') = true) :
    (storeVar t ⟨b, off, none⟩ v).run P w = .ok () (w.setRow b (c.toList.take off ++ v.cells.toList ++ c.toList.drop (off + n)).toArray) := by
  obtain ⟨i, z, hi, _, hs, _, _, _⟩ := Elem.out (P := P) (e := t)
  have h2 := run_storeCells_at P b off e v.cells.toList 0 c w hb (by simp [hn]; omega) (fun u hu => List.all_eq_true.1 h1 u hu)
  simp only [Nat.add_zero, Array.length_toList, hn] at h2
  simp [storeVar, sizeOf, typeInfo, hi, hs, hn, h2]

theorem op_store {b off n by_ : Nat} [Elem P t n by_] {c : Array Value} {e : TypeId} {v : Value} {dst : Option Nat} (hd : dst = none) (hw : want ops l ⟨dst, .store t x y, ty, pos, af, g⟩ = some true)
    (hx : ev l x = some (.pointer (some ⟨b, off, none⟩))) (hy : ev l y = some v) (hb : w.heap[b]? = some (.cells c e (0, 0))) (hn : v.cells.size = n) (ho : off + n ≤ c.size)
    (h1 : v.cells.toList.all (·.oneCell') = true)
    (k : ∀ w', w'.heap[b]? = some (.cells (c.toList.take off ++ v.cells.toList ++ c.toList.drop (off + n)).toArray e (0, 0)) → Kept [b] w w' → WL P N ds ops Q os l w') :
    WL P N ds ops Q (⟨dst, .store t x y, ty, pos, af, g⟩ :: os) l w :=
  wl_op hw fun a ha => by
    have h2 := run_storeVar (P := P) (t := t) v hb hn ho h1
    subst hd
    simp only [Oper.wp, execOp, Instr.storeAt, Instr.sureAddr, ha.ev hx, ha.ev hy]
    simp only [Sem.run_bind, Sem.run_pure, Result.andThen, h2, Oper.upon_skip, Act.put]
    exact (k _ (setRow_heap w b c _ e (0, 0) hb) (Kept.setRow hb _)).run _ ha

def neTmp : Operand → Nat → Bool
  | .tmp t, d => !(Nat.beq t d)
  | _, _ => true
theorem ev_ne {d : Nat} {v u : Value} {x : Operand} (h : neTmp x d = true) (hx : ev l x = some v) : ev ((d, u) :: l) x = some v := by
  cases x with
  | tmp t =>
    have : Nat.beq t d = false := by simpa [neTmp] using h
    simp only [ev, lk, this, cond_false]; exact hx
  | const c => exact hx
  | global c => exact hx
  | func c => exact hx
/-- a variable of its own: 'alloc', and what it begins with. -/
theorem op_var {n by_ : Nat} [Elem P t n by_] {v : Value} {ty' : TypeId} {pos' : String} {af' : Array Edge} (hN : Nat.blt d N = true)
    (hy : ev l y = some v) (hne : neTmp y d = true) (hn : v.cells.size = n) (h1 : v.cells.toList.all (·.oneCell') = true)
    (k : ∀ b w', b = w.heap.size → w'.heap[b]? = some (.cells v.cells t (0, 0)) → Kept [] w w' → WL P N ds ops Q os ((d, .pointer (some ⟨b, 0, none⟩)) :: l) w') :
    WL P N ds ops Q (⟨some d, .alloc t, ty, pos, af, none⟩ :: ⟨none, .store t (.tmp d) y, ty', pos', af', none⟩ :: os) l w := by
  obtain ⟨i, z, hi, hz, hs, _, hzc, _⟩ := Elem.out (P := P) (e := t)
  refine wl_value (w' := w.alloc (.cells z.cells t (0, 0))) (v := .pointer (some ⟨w.heap.size, 0, none⟩)) rfl rfl hN (fun a ha => ?_) ?_
  · simp [execOp, Instr.alloc, newVar, newRow, newObj, zeroValue, typeInfo, hi, hz]; rfl
  · have hy' : ev ((d, .pointer (some ⟨w.heap.size, 0, none⟩)) :: l) y = some v := ev_ne hne hy
    refine op_store (off := 0) rfl rfl (by simp [ev, lk]) hy' (heap_alloc_new w _) hn (by rw [hzc]; omega) h1 (fun w' hb hk => ?_)
    refine k w.heap.size w' rfl ?_ ((Kept.alloc w _).step hk (fun x hx => .inr (by simp at hx; omega)))
    have e1 : List.drop (0 + n) z.cells.toList = [] := by rw [Nat.zero_add, ← hzc]; simp
    rw [hb, e1]
    simp

theorem op_fieldAddr {i off : Nat} [Fld P t i off] {b o' : Nat} (hw : want ops l ⟨some d, .fieldAddr t x i, ty, pos, af, g⟩ = some true) (hN : Nat.blt d N = true)
    (hx : ev l x = some (.pointer (some ⟨b, o', none⟩))) (k : WL P N ds ops Q os ((d, .pointer (some ⟨b, o' + off, none⟩)) :: l) w) :
    WL P N ds ops Q (⟨some d, .fieldAddr t x i, ty, pos, af, g⟩ :: os) l w :=
  wl_value rfl hw hN (fun a ha => by
    obtain ⟨fs, f, inf, h1, h2, h3, h4, h5⟩ := Fld.out (P := P) (t := t) (i := i)
    have h6 := run_underlying (P := P) (w := w) h1
    simp [execOp, Instr.fieldAt, Instr.sureAddr, ha.ev hx, h6, h2, fieldPlace, sizeOf, typeInfo, h4, h5, h3, Addr.add_lit]) k

theorem op_indexAddr {e : TypeId} {sz by_ : Nat} [TySlice P t e] [Elem P e sz by_] {b o' n cp : Nat} {i : Int} (hw : want ops l ⟨some d, .indexAddr t x y, ty, pos, af, g⟩ = some true) (hN : Nat.blt d N = true)
    (hx : ev l x = some (.slice (some ⟨b, o', none⟩) n cp)) (hy : ev l y = some (.int .i64 i)) (h0 : 0 ≤ i) (h1 : i < n)
    (k : WL P N ds ops Q os ((d, .pointer (some ⟨b, o' + i.toNat * sz, none⟩)) :: l) w) :
    WL P N ds ops Q (⟨some d, .indexAddr t x y, ty, pos, af, g⟩ :: os) l w :=
  wl_value rfl hw hN (fun a ha => by
    obtain ⟨inf, z, hi, _, hs, _, _, _⟩ := Elem.out (P := P) (e := e)
    have h6 := run_underlying (P := P) (w := w) (TySlice.out (P := P) (t := t))
    simp [execOp, Instr.indexAt, asIntOf, ha.ev hx, ha.ev hy, h6, h0, h1, sizeOf, typeInfo, hi, hs, Addr.add_lit]) k

theorem op_loadN {n : Nat} [TyAgg P t n] {b off : Nat} {c : Array Value} {e : TypeId} {fr : Nat × Nat} {vs : List Value} (hw : want ops l ⟨some d, .load t x, ty, pos, af, g⟩ = some true) (hN : Nat.blt d N = true)
    (hx : ev l x = some (.pointer (some ⟨b, off, none⟩))) (hb : w.heap[b]? = some (.cells c e fr)) (hl : vs.length = n) (hc : ∀ j v, vs[j]? = some v → c[off + j]? = some v)
    (k : WL P N ds ops Q os ((d, .agg vs.toArray) :: l) w) : WL P N ds ops Q (⟨some d, .load t x, ty, pos, af, g⟩ :: os) l w :=
  wl_value rfl hw hN (fun a ha => by
    obtain ⟨dd, i, h1, h2, h3, h4⟩ := TyAgg.out (P := P) (t := t)
    have h5 := run_loadCells_list (P := P) w ⟨b, off, none⟩ vs (fun j v hv => by rw [Addr.add_lit]; exact cell_of hb (hc j v hv))
    rw [hl] at h5
    simp [execOp, Instr.loadAt, Instr.sureAddr, loadVar, run_isAgg h1, h2, ha.ev hx, sizeOf, typeInfo, h3, h4, h5]) k

/-- parts of a composite. -/
def evp (l : Log) : List (Nat × Operand) → Option (List (Nat × Value))
  | [] => some []
  | (i, x) :: xs => match ev l x, evp l xs with
    | some v, some vs => some ((i, v) :: vs)
    | _, _ => none
theorem Fits.evp {a : Act} (h : Fits N ds l a) : ∀ {xs : List (Nat × Operand)} {vs : List (Nat × Value)}, evp l xs = some vs → xs.map (fun (i, x) => (i, a.eval x)) = vs
  | [], vs, hv => by simp [Fw.evp] at hv; simp [← hv]
  | (i, x) :: xs, vs, hv => by
    simp only [Fw.evp] at hv
    split at hv
    · rename_i v us h1 h2
      simp only [Option.some.injEq] at hv
      rw [← hv, List.map_cons, h.evp h2]
      simp only [h.ev h1]
    · cases hv
theorem fold_set (off : Nat) : ∀ (us : List Value) (m : Nat) (cs : Array Value), ∀ j : Nat,
    ((us.zipIdx m).foldl (fun (cs : Array Value) (p : Value × Nat) => cs.setIfInBounds (off + p.2) p.1) cs)[j]? = if off + m ≤ j ∧ j < off + m + us.length ∧ j < cs.size then us[j - (off + m)]? else cs[j]?
  | [], m, cs, j => by
    rw [if_neg (by simp only [List.length_nil]; omega)]; rfl
  | v :: us, m, cs, j => by
    rw [List.zipIdx_cons, List.foldl_cons, fold_set off us (m + 1)]
    simp only [Array.size_setIfInBounds, List.length_cons]
    by_cases h1 : off + m = j
    · subst h1
      rw [if_neg (by omega)]
      by_cases h2 : off + m < cs.size
      · rw [if_pos (by omega)]; simp [h2]
      · rw [if_neg (by omega)]; simp [h2]
    · rw [Array.getElem?_setIfInBounds_ne h1]
      by_cases h2 : off + (m + 1) ≤ j ∧ j < off + (m + 1) + us.length ∧ j < cs.size
      · rw [if_pos h2, if_pos (by omega), show j - (off + m) = (j - (off + (m + 1))) + 1 by omega, List.getElem?_cons_succ]
      · rw [if_neg h2, if_neg (by omega)]

theorem run_sizeOf {P : Program} {w : World} {t : TypeId} {i : TypeInfo} (h : P.info? t = some i) : (sizeOf t).run P w = .ok i.size w := by simp [sizeOf, typeInfo, h]
theorem run_places {P : Program} (w : World) : ∀ (fs : List Field) (places : List (Nat × Nat)), (fs.mapM fun f => (P.info? f.type).map fun i => (f.offset, i.size)) = some places →
    (fs.mapM (m := Sem) fun f => do pure (f.offset, ← sizeOf f.type)).run P w = .ok places w
  | [], places, h => by simp at h; simp [h]
  | f :: fs, places, h => by
    rw [List.mapM_cons] at h ⊢
    cases hf : P.info? f.type with
    | none => simp [hf] at h
    | some i =>
      cases hr : (fs.mapM fun f => (P.info? f.type).map fun i => (f.offset, i.size)) with
      | none => simp [hf, hr] at h
      | some r =>
        have := run_places w fs r hr
        simp [hf, hr] at h
        have h2 := run_sizeOf (w := w) hf
        simp only [Sem.run_bind, h2, Result.andThen, Sem.run_pure, this, ← h]
theorem fill_bld (places : List (Nat × Nat)) : ∀ (ps : List (Nat × Value)) (cs r : List Value), bld places cs ps = some r → Instr.fill (places.toArray[·]?) cs.toArray ps = some r.toArray
  | [], cs, r, h => by simp [bld] at h; simp [Instr.fill, h]
  | (i, v) :: ps, cs, r, h => by
    simp only [bld] at h
    split at h
    · rename_i off n hp
      have hp' : places.toArray[i]? = some (off, n) := by simpa using hp
      cases hc : (Nat.beq v.cells.toList.length n && Nat.ble (off + n) cs.length) with
      | false => rw [hc] at h; cases h
      | true =>
        rw [hc] at h
        simp only [cond_true] at h
        simp only [Bool.and_eq_true, Nat.beq_eq, Nat.ble_eq, Array.length_toList] at hc
        have ih := fill_bld places ps _ _ h
        rw [Instr.fill, hp']
        simp only
        rw [if_neg (by simp [hc.1]; omega)]
        rw [← ih]
        congr 1
        apply Array.ext_getElem?
        intro j
        rw [← Array.foldl_toList, Array.toList_zipIdx]
        rw [fold_set]
        simp only [List.getElem?_toArray, List.size_toArray, Array.length_toList, Nat.add_zero, hc.1]
        by_cases h1 : j < off
        · rw [if_neg (by omega), List.getElem?_append_left (by simp; omega)]
          simp [h1]
        · by_cases h2 : j < off + n
          · rw [if_pos (by omega), List.getElem?_append_right (by simp; omega), List.getElem?_append_left (by simp; omega)]
            congr 1
            simp; omega
          · rw [if_neg (by omega), List.getElem?_append_right (by simp; omega), List.getElem?_append_right (by simp; omega), List.getElem?_drop]
            congr 1
            simp; omega
    · cases h
theorem op_struct {places : List (Nat × Nat)} {zero : List Value} [StructT P t places zero] {ps : List (Nat × Operand)} {vs : List (Nat × Value)} {r : List Value}
    (hw : want ops l ⟨some d, .build t ps.toArray, ty, pos, af, g⟩ = some true) (hN : Nat.blt d N = true)
    (hx : evp l ps = some vs) (hr : bld places zero vs = some r) (k : WL P N ds ops Q os ((d, .agg r.toArray) :: l) w) :
    WL P N ds ops Q (⟨some d, .build t ps.toArray, ty, pos, af, g⟩ :: os) l w :=
  wl_value rfl hw hN (fun a ha => by
    have e1 := ha.evp hx
    obtain ⟨fs, h1, h2, h3⟩ := StructT.out (P := P) (t := t)
    have h4 := run_underlying (P := P) (w := w) h1
    have h5 := run_places (P := P) w _ _ h2
    have h6 := fill_bld places vs zero r hr
    simp only [bind_pure_comp] at h5
    simp only [List.getElem?_toArray] at h6
    cases hi : P.info? t with
    | none => simp [hi] at h3
    | some i =>
      simp only [hi, Option.bind_some] at h3
      simp [execOp, Instr.build, e1, zeroValue, typeInfo, hi, h3, h4, Array.mapM_eq_mapM_toList, h5, Value.cells, h6]) k
theorem fill_one {sz : Nat} {u : Value} (hu : u.cells.size = sz) (cs : Array Value) (hc : cs.size = sz) : Instr.fill (fun i => some (i * sz, sz)) cs [(0, u)] = some u.cells := by
  simp only [Instr.fill, hu, Nat.zero_mul]
  rw [if_neg (by simp [hc])]
  congr 1
  apply Array.ext_getElem?
  intro j
  rw [← Array.foldl_toList, Array.toList_zipIdx, fold_set]
  by_cases h : j < sz
  · rw [if_pos (by simp [hu, hc, h])]; simp
  · rw [if_neg (by simp [hu, hc, h])]
    rw [Array.getElem?_eq_none (by omega), Array.getElem?_eq_none (by omega)]

/-- 'append': what is owned goes on being owned, where it was, or anew. -/
theorem run_append {e : TypeId} {sz by_ : Nat} [TySlice P t e] [he : Elem P e sz by_] {v : Value} {base n : Nat} {xs : List Value} (hown : w.ownsRow base e sz v n xs)
    (a : Addr) (m c : Nat) (news : List Value) (hl : news.length = m * sz) (hnews : ∀ j u, news[j]? = some u → w.cell? (a.add j) = some u) (h1 : ∀ u ∈ news, u.oneCell' = true)
    (h63 : n + m ≤ 9223372036854775807) (hbytes : (n + m) * by_ ≤ 140737488355328) (hbase : base ≤ w.heap.size) (ty : TypeId) :
    ∃ v' w', (Builtin.append_ #[t, t] ty #[v, .slice (some a) m c]).run P w = .ok v' w' ∧ w'.ownsRow base e sz v' (n + m) (xs ++ news) ∧ Kept v.ownBlock.toList w w' ∧
      (v'.ownBlock = v.ownBlock ∨ ∃ g, v'.ownBlock = some g ∧ w.heap.size ≤ g) := by
  obtain ⟨i, z, hi, hz, hs, hby, hzc, hpos⟩ := he.out
  have ht := TySlice.out (P := P) (t := t)
  have hm63 : n + m ≤ maxLen := by unfold maxLen; exact h63
  rcases hown.2 with ⟨rfl, rfl⟩ | ⟨g, cap, cur, rfl, hbg, hg, hnc, hcm, hcs, htake⟩
  · have hx : xs = [] := List.eq_nil_of_length_eq_zero (by simpa using hown.1)
    subst hx
    obtain ⟨v', w', hr, ho, hk, _⟩ := run_append_own (P := P) w w.heap.size t ty e i z sz by_ ht hi hz hs hby hzc hpos (.slice none 0 0) 0 [] (World.ownsRow_nil w _ _ _) a m c news hl hnews h1 hm63 hbytes (Nat.le_refl _)
    refine ⟨v', w', hr, ownsRow_base ho hbase, Kept.of_grown hk, ?_⟩
    cases hv : v'.ownBlock with
    | none => exact .inl (by simp [Value.ownBlock])
    | some g => exact .inr ⟨g, rfl, (ho.lt g hv).1⟩
  · obtain ⟨v', w', hr, ho, hk, _⟩ := run_append_own (P := P) w base t ty e i z sz by_ ht hi hz hs hby hzc hpos _ n xs hown a m c news hl hnews h1 hm63 hbytes hbase
    refine ⟨v', w', hr, ho, Kept.of_grown hk, ?_⟩
    subst hs
    subst hby
    by_cases hroom : n + m ≤ cap
    · have hfit : n * i.size + news.length ≤ cur.size := by rw [hl, hcs, ← Nat.add_mul]; exact Nat.mul_le_mul_right _ hroom
      have hr2 := run_append_room (P := P) w t ty e i ht hi g n cap cur hg a m c news hl hnews h1 hroom hfit
      rw [hr] at hr2
      injection hr2 with e1 _
      exact .inl (by rw [e1]; rfl)
    · have holds : ∀ j u, xs[j]? = some u → w.cell? ((⟨g, 0, none⟩ : Addr).add j) = some u := hown.cells (g := g) rfl
      have hr2 := run_append_grow (P := P) w t ty e i z ht hi hz ⟨g, 0, none⟩ n cap xs hown.1 holds a m c news hl hnews (by omega) (by omega) (growslice_fits (by omega) hbytes)
      rw [hr] at hr2
      injection hr2 with e1 _
      exact .inr ⟨w.heap.size, by rw [e1]; rfl, Nat.le_refl _⟩

/-- 'append(s, u)': one more. -/
theorem op_append1 {e : TypeId} {sz by_ : Nat} [TySlice P t e] [Elem P e sz by_] {d1 : Nat} {s : Operand} {v u : Value} {base n : Nat} {xs : List Value}
    {ty' : TypeId} {pos' : String} {af' : Array Edge} (hN1 : Nat.blt d1 N = true) (hN : Nat.blt d N = true)
    (hs : ev l s = some v) (hne : neTmp s d1 = true) (hx : ev l x = some u) (hown : w.ownsRow base e sz v n xs) (hu : u.cells.size = sz) (h1 : u.cells.toList.all (·.oneCell') = true)
    (hsz : sz ≤ 1024) (hlen : (n + 1) * by_ ≤ 140737488355328) (hl' : n + 1 ≤ 9223372036854775807) (hbase : base ≤ w.heap.size)
    (k : ∀ v' w', w'.ownsRow base e sz v' (n + 1) (xs ++ u.cells.toList) → Kept v.ownBlock.toList w w' → (v'.ownBlock = v.ownBlock ∨ ∃ g, v'.ownBlock = some g ∧ w.heap.size ≤ g) →
      WL P N ds ops Q os ((d, v') :: (d1, .slice (some ⟨w.heap.size, 0, none⟩) 1 1) :: l) w') :
    WL P N ds ops Q (⟨some d1, .buildSlice t 1 #[(0, x)], ty, pos, af, none⟩ :: ⟨some d, .call ⟨.builtin .append, #[s, .tmp d1], #[t, t]⟩, ty', pos', af', none⟩ :: os) l w := by
  obtain ⟨i, z, hi, hz, hs', hby, hzc, hpos⟩ := Elem.out (P := P) (e := e)
  have h6 := fun w => run_underlying (P := P) (w := w) (TySlice.out (P := P) (t := t))
  have hs2 : ev ((d1, .slice (some ⟨w.heap.size, 0, none⟩) 1 1) :: l) s = some v := ev_ne hne hs
  have hown2 : (w.alloc (.cells u.cells e (0, 0))).ownsRow base e sz v n xs := hown.alloc _
  obtain ⟨v', w', hr, ho, hk, hb⟩ := run_append (P := P) (t := t) hown2 ⟨w.heap.size, 0, none⟩ 1 1 u.cells.toList (by simp [hu]) (fun j r hj => by
      rw [Addr.add_lit]; exact cell_of (heap_alloc_new w _) (by simpa using hj)) (fun r hr => List.all_eq_true.1 h1 r hr) hl' hlen (by simp; omega) ty'
  refine wl_value (w' := w.alloc (.cells u.cells e (0, 0))) (v := .slice (some ⟨w.heap.size, 0, none⟩) 1 1) rfl rfl hN1 (fun a ha => ?_) ?_
  · have hz0 : ¬ (2 ^ 24 < sz) := by omega
    have hz1 : ¬ (sz = 0) := by omega
    have hf := fill_one hu ((Array.range sz).map (z.cells[· % z.cells.size]!)) (by simp)
    simp [execOp, Instr.buildSlice, h6, sizeOf, typeInfo, hi, hs', zeroValue, hz, ha.ev hx, hz0, hz1, hf, newRow, newObj]
    rfl
  · refine wl_value (w' := w') (v := v') rfl rfl hN (fun a ha => ?_) ?_
    · have e1 := ha.ev hs2
      have e2 : a.eval (.tmp d1) = .slice (some ⟨w.heap.size, 0, none⟩) 1 1 := ha.ev (by simp [ev, lk])
      simp [execOp, resolve, invoke, builtin, e1, e2, hr]
    · have hk2 : Kept v.ownBlock.toList w w' := ((Kept.alloc w _).mono (fun _ h => by cases h)).trans hk
      exact k v' w' ho hk2 (hb.imp_right fun ⟨g, h1, h2⟩ => ⟨g, h1, by simp at h2; omega⟩)
end
end Go.Fw
end
