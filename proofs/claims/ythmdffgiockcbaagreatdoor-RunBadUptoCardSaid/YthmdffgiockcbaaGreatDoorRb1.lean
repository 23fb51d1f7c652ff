/- Own work: texts Fw, FwOps, FwMem, one behind the other. -/
import Derived.Calls
import Derived.Tactics
import Derived.WalkKit
import Derived.Lib.Strings
section
namespace Go.Fw
open Go

abbrev Log := List (Nat × Value)

def lk : Log → Nat → Option Value
  | [], _ => none
  | (d, v) :: l, t => bif Nat.beq t d then some v else lk l t

def ev (l : Log) : Operand → Option Value
  | .tmp t => lk l t
  | .const v => some v
  | .global g => some (.pointer (some ⟨g, 0, none⟩))
  | .func f => some (.func (.func f) #[] #[])

structure Fits (N : Nat) (ds : List Deferred) (l : Log) (a : Act) : Prop where
  size : a.tmps.size = N
  defs : a.defers = ds
  vals : ∀ t v, lk l t = some v → a.tmps[t]? = some v

theorem Fits.ev {N : Nat} {ds : List Deferred} {l : Log} {a : Act} (h : Fits N ds l a) {x : Operand} {v : Value} (hx : ev l x = some v) : a.eval x = v := by
  cases x with
  | tmp t =>
    have := h.vals t v hx
    simp only [Act.eval, Array.getD_eq_getD_getElem?, this, Option.getD_some]
  | const c => simpa [Fw.ev, Act.eval] using hx
  | global g => simpa [Fw.ev, Act.eval] using hx
  | func f => simpa [Fw.ev, Act.eval] using hx

theorem Fits.put {N : Nat} {ds : List Deferred} {l : Log} {a : Act} (h : Fits N ds l a) {d : Nat} (hd : Nat.blt d N = true) (v : Value) :
    Fits N ds ((d, v) :: l) (a.put (some d) v) := by
  have hd' : d < N := by simpa [Nat.blt_eq] using hd
  refine ⟨by simp [Act.put, h.size], h.defs, fun t u hu => ?_⟩
  simp only [lk] at hu
  simp only [Act.put]
  cases hb : Nat.beq t d with
  | true =>
    rw [hb] at hu
    have : t = d := Nat.eq_of_beq_eq_true hb
    subst this
    simp only [cond_true, Option.some.injEq] at hu
    subst hu
    have : t < a.tmps.size := by rw [h.size]; exact hd'
    simp [this]
  | false =>
    rw [hb] at hu
    have hne : d ≠ t := fun e => by subst e; simp at hb
    simp only [cond_false] at hu
    rw [Array.getElem?_setIfInBounds_ne hne]
    exact h.vals t u hu

def Sub (l' l : Log) : Prop := ∀ t v, lk l' t = some v → lk l t = some v

def Has (l : Log) : Log → Prop
  | [] => True
  | (d, v) :: l' => lk l d = some v ∧ Has l l'

theorem Has.sub {l : Log} : ∀ {l' : Log}, Has l l' → Sub l' l
  | [], _ => fun t v h => by simp [lk] at h
  | (d, u) :: l', ⟨h1, h2⟩ => fun t v h => by
    simp only [lk] at h
    cases hb : Nat.beq t d with
    | true => rw [hb] at h; have := Nat.eq_of_beq_eq_true hb; subst this; simp at h; subst h; exact h1
    | false => rw [hb] at h; exact h2.sub t v (by simpa using h)

theorem Fits.sub {N : Nat} {ds : List Deferred} {l l' : Log} {a : Act} (h : Fits N ds l a) (hs : Sub l' l) : Fits N ds l' a :=
  ⟨h.size, h.defs, fun t v hv => h.vals t v (hs t v hv)⟩

section
variable {P : Program} {N : Nat} {ds : List Deferred}

structure WC (P : Program) (N : Nat) (ds : List Deferred) (c : Code) (Q : Exit → Act → World → Prop) (l : Log) (w : World) : Prop where
  run : ∀ a, Fits N ds l a → c.wp P Q a w
structure WL (P : Program) (N : Nat) (ds : List Deferred) (ops : Array Oper) (Q : Exit → Act → World → Prop) (os : List Oper) (l : Log) (w : World) : Prop where
  run : ∀ a, Fits N ds l a → wpList P ops Q os a w
structure At (N : Nat) (ds : List Deferred) (Q : Exit → Act → World → Prop) (e : Exit) (l : Log) (w : World) : Prop where
  run : ∀ a, Fits N ds l a → Q e a w

variable {Q : Exit → Act → World → Prop} {l l' : Log} {w w' : World} {ops : Array Oper} {os : List Oper}

theorem WC.sub {c : Code} (hs : Has l l') (h : WC P N ds c Q l' w) : WC P N ds c Q l w := ⟨fun a ha => h.run a (ha.sub hs.sub)⟩

theorem WL.sub (hs : Sub l' l) (h : WL P N ds ops Q os l' w) : WL P N ds ops Q os l w := ⟨fun a ha => h.run a (ha.sub hs)⟩

theorem wc_seq {x y : Code} (h : WC P N ds x (Exit.then (fun a w => y.wp P Q a w) Q) l w) : WC P N ds (.seq x y) Q l w :=
  ⟨fun a ha => wp_seq (wp_mono (h.run a ha) fun _ _ _ q => q)⟩
theorem wc_cut {x y : Code} {α : Type} (L : α → Log) (J : α → World → Prop)
    (h : WC P N ds x (Exit.then (fun a w => ∃ x, Fits N ds (L x) a ∧ J x w) Q) l w)
    (k : ∀ x w, J x w → WC P N ds y Q (L x) w) : WC P N ds (.seq x y) Q l w :=
  ⟨fun a ha => wp_seq (wp_mono (h.run a ha) (fun e a w q => by
    cases e <;> first | exact q | (obtain ⟨x, hx, hj⟩ := q; exact (k x w hj).run a hx)))⟩
theorem wc_cut_reg (id : Nat) {ops : Array Oper} {dr : Bool} {x y : Code} {α : Type} (L : α → Log) (J : α → World → Prop)
    (h : WC P N ds (.seq (.region id ops dr) x) (Exit.then (fun a w => ∃ x, Fits N ds (L x) a ∧ J x w) Q) l w)
    (k : ∀ x w, J x w → WC P N ds y Q (L x) w) : WC P N ds (.seq (.seq (.region id ops dr) x) y) Q l w := wc_cut L J h k
theorem wc_block {id : Nat} {c : Code} (h : WC P N ds c (Exit.inBlock id Q) l w) : WC P N ds (.block id c) Q l w := ⟨fun a ha => wp_block (h.run a ha)⟩
theorem wc_skip (h : At N ds Q .normal l w) : WC P N ds .skip Q l w := ⟨fun a ha => wp_skip (h.run a ha)⟩
theorem wc_ret (h : At N ds Q .ret l w) : WC P N ds .ret Q l w := ⟨fun a ha => wp_ret (h.run a ha)⟩
theorem wc_exit {id : Nat} (h : At N ds Q (.exit id) l w) : WC P N ds (.exit id) Q l w := ⟨fun a ha => wp_exit (h.run a ha)⟩
theorem wc_cond {c : Operand} {x y : Code} {b : Bool} (hc : ev l c = some (.bool b) := by rfl) (ht : b = true → WC P N ds x Q l w) (hf : b = false → WC P N ds y Q l w) :
    WC P N ds (.cond c x y) Q l w := ⟨fun a ha => wp_cond_split (ha.ev hc) (fun h => (ht h).run a ha) (fun h => (hf h).run a ha)⟩
theorem wc_cond_true {c : Operand} {x y : Code} (hc : ev l c = some (.bool true) := by rfl) (ht : WC P N ds x Q l w) :
    WC P N ds (.cond c x y) Q l w := ⟨fun a ha => wp_cond_true (ha.ev hc) (ht.run a ha)⟩
theorem wc_cond_false {c : Operand} {x y : Code} (hc : ev l c = some (.bool false) := by rfl) (hf : WC P N ds y Q l w) :
    WC P N ds (.cond c x y) Q l w := ⟨fun a ha => wp_cond_false (ha.ev hc) (hf.run a ha)⟩
theorem wc_region {id : Nat} (h : WL P N ds ops Q ops.toList l w) : WC P N ds (.region id ops false) Q l w := ⟨fun a ha => wp_region_list (h.run a ha)⟩

theorem wc_loop {c : Code} {α : Type} (L : α → Log) (J : α → World → Prop) (μ : α → Nat) (x₀ : α) (hl : Has l (L x₀)) (hw : J x₀ w)
    (round : ∀ x w, J x w → WC P N ds c (Exit.then (fun a w => ∃ y, Fits N ds (L y) a ∧ J y w ∧ μ y < μ x) Q) (L x) w) :
    WC P N ds (.loop c) Q l w := by
  refine ⟨fun a ha b k cs => ?_⟩
  have key : ∀ n x a w, μ x = n → Fits N ds (L x) a → J x w →
      ∃ e a' w', Q e a' w' ∧ Arrives P (lone (b.at a (.code c :: .inLoop c :: k)) cs w) b k cs e a' w' := by
    intro n
    induction n using Nat.strongRecOn with
    | _ n ih =>
      intro x a w hn hL hI
      obtain ⟨e, a₁, w₁, hq, harr⟩ := (round x w hI).run a hL b (.inLoop c :: k) cs
      cases e with
      | normal =>
        obtain ⟨y, hL₁, hI₁, hlt⟩ := hq
        obtain ⟨e₂, a₂, w₂, hq₂, harr₂⟩ := ih (μ y) (hn ▸ hlt) y a₁ w₁ rfl hL₁ hI₁
        exact ⟨e₂, a₂, w₂, hq₂, .of_steps (Steps.trans harr (.one step_inLoop)) harr₂⟩
      | exit id => exact ⟨_, a₁, w₁, hq, .pass (x := .inLoop c) rfl (fun _ _ => .inl (by simp)) harr⟩
      | goto l => exact ⟨_, a₁, w₁, hq, .pass (x := .inLoop c) rfl (fun _ _ => .inl (by simp)) harr⟩
      | ret => exact ⟨_, a₁, w₁, hq, .pass (x := .inLoop c) rfl (fun _ _ => .inl (by simp)) harr⟩
      | panic ch => exact ⟨_, a₁, w₁, hq, .pass (x := .inLoop c) rfl (fun _ _ => .inl (by simp)) harr⟩
      | outgrown => exact ⟨_, a₁, w₁, hq, .pass (x := .inLoop c) rfl (fun _ _ => .inl (by simp)) harr⟩
  obtain ⟨e, a', w', hq, harr⟩ := key _ x₀ a w rfl (ha.sub hl.sub) hw
  exact ⟨e, a', w', hq, .of_steps (.one step_loop) harr⟩

theorem wl_nil (h : At N ds Q .normal l w) : WL P N ds ops Q [] l w := ⟨fun a ha => wpList_nil (h.run a ha)⟩
theorem at_then_normal {y : Code} (h : WC P N ds y Q l w) : At N ds (Exit.then (fun a w => y.wp P Q a w) Q) .normal l w := ⟨fun a ha => h.run a ha⟩
theorem at_round {α : Type} {L : α → Log} {J : α → World → Prop} {μ : α → Nat} {n : Nat} (y : α) (hl : Has l (L y)) (hw : J y w) (hm : μ y < n) :
    At N ds (Exit.then (fun a w => ∃ y, Fits N ds (L y) a ∧ J y w ∧ μ y < n) Q) .normal l w := ⟨fun _ ha => ⟨y, ha.sub hl.sub, hw, hm⟩⟩
theorem at_cut {α : Type} {L : α → Log} {J : α → World → Prop} (y : α) (hl : Has l (L y)) (hw : J y w) :
    At N ds (Exit.then (fun a w => ∃ x, Fits N ds (L x) a ∧ J x w) Q) .normal l w := ⟨fun _ ha => ⟨y, ha.sub hl.sub, hw⟩⟩
theorem at_then_ret {K : Act → World → Prop} (h : At N ds Q .ret l w) : At N ds (Exit.then K Q) .ret l w := ⟨fun a ha => h.run a ha⟩
theorem at_then_exit {K : Act → World → Prop} {id : Nat} (h : At N ds Q (.exit id) l w) : At N ds (Exit.then K Q) (.exit id) l w := ⟨fun a ha => h.run a ha⟩
theorem at_block_normal {id : Nat} (h : At N ds Q .normal l w) : At N ds (Exit.inBlock id Q) .normal l w := ⟨fun a ha => h.run a ha⟩
theorem at_block_ret {id : Nat} (h : At N ds Q .ret l w) : At N ds (Exit.inBlock id Q) .ret l w := ⟨fun a ha => h.run a ha⟩
theorem at_block_exit {id : Nat} (h : At N ds Q .normal l w) : At N ds (Exit.inBlock id Q) (.exit id) l w :=
  ⟨fun a ha => by simp only [Exit.inBlock, if_true]; exact h.run a ha⟩
theorem at_block_other {id id' : Nat} (hne : Nat.beq id' id = false := by rfl) (h : At N ds Q (.exit id') l w) : At N ds (Exit.inBlock id Q) (.exit id') l w :=
  ⟨fun a ha => by
    have : id' ≠ id := fun e => by subst e; simp at hne
    simp only [Exit.inBlock, this, if_false]; exact h.run a ha⟩

def Ret (Post : Value → World → Prop) : Ending → World → Prop
  | .returned v, w => Post v w
  | _, _ => False
structure Cal (P : Program) (f : FuncId) (args : Array Value) (w : World) (Post : Value → World → Prop) : Prop where
  run : Calls P f args w (Ret Post)

theorem Cal.mono {f : FuncId} {args : Array Value} {Post Post' : Value → World → Prop} (h : Cal P f args w Post) (hp : ∀ v w, Post v w → Post' v w) : Cal P f args w Post' :=
  ⟨Calls.mono h.run (fun e w q => by cases e <;> first | exact hp _ _ q | exact q)⟩

theorem at_ret1 {fn : Func} {t : Nat} {v : Value} {Post : Value → World → Prop} (hr : fn.results = #[.tmp t] := by rfl) (hv : lk l t = some v := by rfl) (h : Post v w) :
    At N [] (bodyPost P fn (Ret Post)) .ret l w := ⟨fun a ha =>
  ⟨ha.defs, v, by rw [results_tmp hr]; simp [Array.getD_eq_getD_getElem?, ha.vals t v hv], h⟩⟩
theorem at_ret2 {fn : Func} {t u : Nat} {v x : Value} {Post : Value → World → Prop} (hr : fn.results = #[.tmp t, .tmp u] := by rfl) (hv : lk l t = some v := by rfl) (hx : lk l u = some x := by rfl)
    (h : Post (.tuple #[v, x]) w) : At N [] (bodyPost P fn (Ret Post)) .ret l w := ⟨fun a ha =>
  ⟨ha.defs, _, by rw [results_tmp2 hr]; simp [Array.getD_eq_getD_getElem?, ha.vals t v hv, ha.vals u x hx], h⟩⟩
theorem at_ret0 {fn : Func} {Post : Value → World → Prop} (hr : fn.results = #[] := by rfl) (h : Post (.tuple #[]) w) :
    At N [] (bodyPost P fn (Ret Post)) .ret l w := ⟨fun _ ha => ⟨ha.defs, _, results_none hr _ _ _, h⟩⟩
theorem at_end0 {fn : Func} {Post : Value → World → Prop} (hr : fn.results = #[] := by rfl) (h : Post (.tuple #[]) w) :
    At N [] (bodyPost P fn (Ret Post)) .normal l w := ⟨fun _ ha => ⟨ha.defs, _, results_none hr _ _ _, h⟩⟩

theorem fits_enter (args : Array Value) (n : Nat) (l : Log) (h : ∀ t v, lk l t = some v → args[t]? = some v) :
    Fits (args.size + n) [] l { tmps := args ++ Array.replicate n undef, defers := [] } := by
  refine ⟨by simp, rfl, fun t v hv => ?_⟩
  have h1 := h t v hv
  have h2 : t < args.size := by
    rcases Nat.lt_or_ge t args.size with h3 | h3
    · exact h3
    · simp [Array.getElem?_eq_none h3] at h1
  show (args ++ Array.replicate n undef)[t]? = some v
  rw [Array.getElem?_append_left h2]; exact h1

theorem args0 : ∀ t u, lk [] t = some u → (#[] : Array Value)[t]? = some u := fun t u h => by simp [lk] at h
theorem args1 {v : Value} : ∀ t u, lk [(0, v)] t = some u → #[v][t]? = some u := fun t u h => by
  match t, h with
  | 0, h => simpa [lk] using h
  | t + 1, h => cases h
theorem args2 {v0 v1 : Value} : ∀ t u, lk [(0, v0), (1, v1)] t = some u → #[v0, v1][t]? = some u := fun t u h => by
  match t, h with
  | 0, h => simpa [lk] using h
  | 1, h => have h' : some v1 = some u := h; simpa using h'
  | t + 2, h => cases h
theorem args3 {v0 v1 v2 : Value} : ∀ t u, lk [(0, v0), (1, v1), (2, v2)] t = some u → #[v0, v1, v2][t]? = some u := fun t u h => by
  match t, h with
  | 0, h => simpa [lk] using h
  | 1, h => have h' : some v1 = some u := h; simpa using h'
  | 2, h => have h' : some v2 = some u := h; simpa using h'
  | t + 3, h => cases h
theorem args4 {v0 v1 v2 v3 : Value} : ∀ t u, lk [(0, v0), (1, v1), (2, v2), (3, v3)] t = some u → #[v0, v1, v2, v3][t]? = some u := fun t u h => by
  match t, h with
  | 0, h => simpa [lk] using h
  | 1, h => have h' : some v1 = some u := h; simpa using h'
  | 2, h => have h' : some v2 = some u := h; simpa using h'
  | 3, h => have h' : some v3 = some u := h; simpa using h'
  | t + 4, h => cases h

theorem enter {f : FuncId} {fn : Func} {c : Code} {args : Array Value} {Post : Value → World → Prop} (hf : P.funcs[f]? = some fn) (hb : fn.body = some c)
    (l : Log) (hl : ∀ t v, lk l t = some v → args[t]? = some v) (hN : N = args.size + (fn.ntmps - args.size))
    (h : WC P N [] c (bodyPost P fn (Ret Post)) l w) : Cal P f args w Post :=
  ⟨calls_of_wp hf hb (h.run _ (by rw [hN]; exact fits_enter _ _ _ hl))⟩
end
end Go.Fw
end
section
namespace Go.Fw
open Go

def want (ops : Array Oper) (l : Log) (o : Oper) : Option Bool :=
  match o.guard with
  | none => some true
  | some (j, b) => match (ops[j]?).bind (·.dst) with
    | none => some false
    | some t => match lk l t with
      | some (.bool x) => some (x == b)
      | some (.tuple _) => some false
      | _ => none

section
variable {P : Program} {N : Nat} {ds : List Deferred} {Q : Exit → Act → World → Prop} {l l' : Log} {w w' : World} {ops : Array Oper} {os : List Oper} {o : Oper}

theorem want_spec {a : Act} (h : Fits N ds l a) {b : Bool} (hw : want ops l o = some b) : Region.wanted o (yielded ops a.tmps) = b := by
  unfold want at hw
  unfold Region.wanted yielded
  split at hw
  · rename_i hg; simp only [Option.some.injEq] at hw; simp [hg, ← hw]
  · rename_i j c hg
    simp only [hg]
    split at hw
    · rename_i hj; simp only [Option.some.injEq] at hw; simp [hj, ← hw]
    · rename_i t hj
      simp only [hj, Option.bind_some]
      split at hw
      · rename_i x hx
        simp only [Option.some.injEq] at hw
        simp [h.vals _ _ hx, ← hw]
      · rename_i x hx
        simp only [Option.some.injEq] at hw
        simp [h.vals _ _ hx, ← hw]
      · cases hw

theorem wl_op (hw : want ops l o = some true) (h : ∀ a, Fits N ds l a → o.wp P a w (fun a' w' => wpList P ops Q os a' w') Q) : WL P N ds ops Q (o :: os) l w :=
  ⟨fun a ha => by
    unfold wpList
    rw [want_spec ha hw]
    exact .inl (h a ha)⟩

theorem wl_value {d : Nat} {v : Value} (hd : o.dst = some d) (hw : want ops l o = some true) (hN : Nat.blt d N = true)
    (hrun : ∀ a, Fits N ds l a → (execOp a.eval o).run P w = .ok (.value v) w')
    (k : WL P N ds ops Q os ((d, v) :: l) w') : WL P N ds ops Q (o :: os) l w :=
  wl_op hw fun a ha => by
    unfold Oper.wp
    rw [hrun a ha, Oper.upon_value, hd]
    exact k.run _ (ha.put hN v)

theorem wl_skip {d : Nat} (hd : o.dst = some d := by rfl) (hw : want ops l o = some false := by rfl) (hN : Nat.blt d N = true := by rfl)
    (k : WL P N ds ops Q os ((d, undef) :: l) w) : WL P N ds ops Q (o :: os) l w := ⟨fun a ha => by
  unfold wpList
  rw [want_spec ha hw, hd]
  exact k.run _ (ha.put hN _)⟩

theorem wl_split {j : Nat} {b : Bool} {c : Bool} {t : Nat} (_hg : o.guard = some (j, c) := by rfl) (_ht : (ops[j]?).bind (·.dst) = some t := by rfl) (hb : lk l t = some (.bool b) := by rfl)
    (h1 : b = true → WL P N ds ops Q (o :: os) ((t, .bool true) :: l) w) (h0 : b = false → WL P N ds ops Q (o :: os) ((t, .bool false) :: l) w) :
    WL P N ds ops Q (o :: os) l w := by
  have key : ∀ c, b = c → WL P N ds ops Q (o :: os) ((t, .bool c) :: l) w → WL P N ds ops Q (o :: os) l w := fun c e h => ⟨fun a ha => by
    subst e
    refine h.run a ⟨ha.size, ha.defs, fun s v hv => ?_⟩
    simp only [lk] at hv
    cases hs : Nat.beq s t with
    | true => rw [hs] at hv; have := Nat.eq_of_beq_eq_true hs; subst this; simp at hv; subst hv; exact ha.vals _ _ hb
    | false => rw [hs] at hv; exact ha.vals _ _ (by simpa using hv)⟩
  cases hb' : b with
  | true => exact key true hb' (h1 hb')
  | false => exact key false hb' (h0 hb')

theorem wl_split_dec {j : Nat} {p : Prop} [Decidable p] {c : Bool} {t : Nat} (hg : o.guard = some (j, c) := by rfl) (ht : (ops[j]?).bind (·.dst) = some t := by rfl) (hb : lk l t = some (.bool (decide p)) := by rfl)
    (h1 : p → WL P N ds ops Q (o :: os) ((t, .bool true) :: l) w) (h0 : ¬ p → WL P N ds ops Q (o :: os) ((t, .bool false) :: l) w) :
    WL P N ds ops Q (o :: os) l w :=
  wl_split hg ht hb (fun h => h1 (of_decide_eq_true h)) (fun h => h0 (of_decide_eq_false h))
theorem wc_cond_dec {c : Operand} {x y : Code} {p : Prop} [Decidable p] (hc : ev l c = some (.bool (decide p)) := by rfl) (ht : p → WC P N ds x Q l w) (hf : ¬ p → WC P N ds y Q l w) :
    WC P N ds (.cond c x y) Q l w := wc_cond hc (fun h => ht (of_decide_eq_true h)) (fun h => hf (of_decide_eq_false h))

variable {d : Nat} {ty : TypeId} {pos : String} {af : Array Edge} {g : Option (Nat × Bool)}

theorem op_move {x : Operand} {v : Value} (hw : want ops l ⟨some d, .move x, ty, pos, af, g⟩ = some true := by rfl) (hN : Nat.blt d N = true := by rfl) (hx : ev l x = some v := by rfl)
    (k : WL P N ds ops Q os ((d, v) :: l) w) : WL P N ds ops Q (⟨some d, .move x, ty, pos, af, g⟩ :: os) l w :=
  wl_value rfl hw hN (fun a ha => by simp [execOp, ha.ev hx]) k
theorem op_assign {x : Operand} {v : Value} (hw : want ops l ⟨some d, .assign x, ty, pos, af, g⟩ = some true := by rfl) (hN : Nat.blt d N = true := by rfl) (hx : ev l x = some v := by rfl)
    (k : WL P N ds ops Q os ((d, v) :: l) w) : WL P N ds ops Q (⟨some d, .assign x, ty, pos, af, g⟩ :: os) l w :=
  wl_value rfl hw hN (fun a ha => by simp [execOp, ha.ev hx]) k
theorem op_pick_true {c x y : Operand} {v : Value} (hw : want ops l ⟨some d, .pick c x y, ty, pos, af, g⟩ = some true := by rfl) (hN : Nat.blt d N = true := by rfl)
    (hc : ev l c = some (.bool true) := by rfl) (hx : ev l x = some v := by rfl) (k : WL P N ds ops Q os ((d, v) :: l) w) : WL P N ds ops Q (⟨some d, .pick c x y, ty, pos, af, g⟩ :: os) l w :=
  wl_value rfl hw hN (fun a ha => by simp [execOp, ha.ev hc, ha.ev hx, asBool]) k
theorem op_pick_false {c x y : Operand} {v : Value} (hw : want ops l ⟨some d, .pick c x y, ty, pos, af, g⟩ = some true := by rfl) (hN : Nat.blt d N = true := by rfl)
    (hc : ev l c = some (.bool false) := by rfl) (hy : ev l y = some v := by rfl) (k : WL P N ds ops Q os ((d, v) :: l) w) : WL P N ds ops Q (⟨some d, .pick c x y, ty, pos, af, g⟩ :: os) l w :=
  wl_value rfl hw hN (fun a ha => by simp [execOp, ha.ev hc, ha.ev hy, asBool]) k

theorem beq_dec {α : Type} [BEq α] [LawfulBEq α] [DecidableEq α] (a b : α) : (a == b) = decide (a = b) := by rw [Bool.eq_iff_iff]; simp
section
variable {t t' : TypeId} {x y : Operand} {ik : IntKind}
theorem op_lss {a b : Int} (hw : want ops l ⟨some d, .binOp .lss t x y t', ty, pos, af, g⟩ = some true := by rfl) (hN : Nat.blt d N = true := by rfl) (hx : ev l x = some (.int ik a) := by rfl) (hy : ev l y = some (.int ik b) := by rfl)
    (k : WL P N ds ops Q os ((d, .bool (decide (a < b))) :: l) w) : WL P N ds ops Q (⟨some d, .binOp .lss t x y t', ty, pos, af, g⟩ :: os) l w :=
  wl_value rfl hw hN (fun c hc => by simp [execOp, hc.ev hx, hc.ev hy, eqGuard, binOp, Op.intCmp]) k
theorem op_leq {a b : Int} (hw : want ops l ⟨some d, .binOp .leq t x y t', ty, pos, af, g⟩ = some true := by rfl) (hN : Nat.blt d N = true := by rfl) (hx : ev l x = some (.int ik a) := by rfl) (hy : ev l y = some (.int ik b) := by rfl)
    (k : WL P N ds ops Q os ((d, .bool (decide (a ≤ b))) :: l) w) : WL P N ds ops Q (⟨some d, .binOp .leq t x y t', ty, pos, af, g⟩ :: os) l w :=
  wl_value rfl hw hN (fun c hc => by simp [execOp, hc.ev hx, hc.ev hy, eqGuard, binOp, Op.intCmp]) k
theorem op_gtr {a b : Int} (hw : want ops l ⟨some d, .binOp .gtr t x y t', ty, pos, af, g⟩ = some true := by rfl) (hN : Nat.blt d N = true := by rfl) (hx : ev l x = some (.int ik a) := by rfl) (hy : ev l y = some (.int ik b) := by rfl)
    (k : WL P N ds ops Q os ((d, .bool (decide (b < a))) :: l) w) : WL P N ds ops Q (⟨some d, .binOp .gtr t x y t', ty, pos, af, g⟩ :: os) l w :=
  wl_value rfl hw hN (fun c hc => by simp [execOp, hc.ev hx, hc.ev hy, eqGuard, binOp, Op.intCmp]) k
theorem op_geq {a b : Int} (hw : want ops l ⟨some d, .binOp .geq t x y t', ty, pos, af, g⟩ = some true := by rfl) (hN : Nat.blt d N = true := by rfl) (hx : ev l x = some (.int ik a) := by rfl) (hy : ev l y = some (.int ik b) := by rfl)
    (k : WL P N ds ops Q os ((d, .bool (decide (b ≤ a))) :: l) w) : WL P N ds ops Q (⟨some d, .binOp .geq t x y t', ty, pos, af, g⟩ :: os) l w :=
  wl_value rfl hw hN (fun c hc => by simp [execOp, hc.ev hx, hc.ev hy, eqGuard, binOp, Op.intCmp]) k
theorem op_eql {a b : Int} (hw : want ops l ⟨some d, .binOp .eql t x y t', ty, pos, af, g⟩ = some true := by rfl) (hN : Nat.blt d N = true := by rfl) (hx : ev l x = some (.int ik a) := by rfl) (hy : ev l y = some (.int ik b) := by rfl)
    (k : WL P N ds ops Q os ((d, .bool (decide (a = b))) :: l) w) : WL P N ds ops Q (⟨some d, .binOp .eql t x y t', ty, pos, af, g⟩ :: os) l w :=
  wl_value rfl hw hN (fun c hc => by simp [execOp, hc.ev hx, hc.ev hy, eqGuard, binOp, Op.intCmp, beq_dec]) k
theorem op_neq {a b : Int} (hw : want ops l ⟨some d, .binOp .neq t x y t', ty, pos, af, g⟩ = some true := by rfl) (hN : Nat.blt d N = true := by rfl) (hx : ev l x = some (.int ik a) := by rfl) (hy : ev l y = some (.int ik b) := by rfl)
    (k : WL P N ds ops Q os ((d, .bool (decide (a ≠ b))) :: l) w) : WL P N ds ops Q (⟨some d, .binOp .neq t x y t', ty, pos, af, g⟩ :: os) l w :=
  wl_value rfl hw hN (fun c hc => by simp [execOp, hc.ev hx, hc.ev hy, eqGuard, binOp, Op.intCmp, beq_dec, bne]) k
end
end
end Go.Fw
end
section
namespace Go.Fw
open Go

structure Kept (X : List Nat) (w w' : World) : Prop where
  os : w'.os = w.os
  tape : w'.tape = w.tape
  output : w'.output = w.output
  size : w.heap.size ≤ w'.heap.size
  blk : ∀ k, k < w.heap.size → k ∉ X → w'.heap[k]? = w.heap[k]?

theorem lt_of_heap {w : World} {b : Nat} {o : Obj} (h : w.heap[b]? = some o) : b < w.heap.size := (Array.getElem?_eq_some_iff.1 h).1

theorem Kept.refl (X : List Nat) (w : World) : Kept X w w := ⟨rfl, rfl, rfl, Nat.le_refl _, fun _ _ _ => rfl⟩
theorem Kept.trans {X : List Nat} {a b c : World} (h : Kept X a b) (k : Kept X b c) : Kept X a c :=
  ⟨k.os.trans h.os, k.tape.trans h.tape, k.output.trans h.output, Nat.le_trans h.size k.size,
    fun i hi hx => (k.blk i (Nat.lt_of_lt_of_le hi h.size) hx).trans (h.blk i hi hx)⟩
theorem Kept.mono {X Y : List Nat} {a b : World} (h : Kept X a b) (hs : ∀ x, x ∈ X → x ∈ Y ∨ a.heap.size ≤ x) : Kept Y a b :=
  ⟨h.os, h.tape, h.output, h.size, fun i hi hy => h.blk i hi (fun hx => (hs i hx).elim hy (fun h2 => absurd hi (Nat.not_lt.2 h2)))⟩
theorem Kept.step {X Y : List Nat} {a b c : World} (h : Kept X a b) (k : Kept Y b c) (hs : ∀ x, x ∈ Y → x ∈ X ∨ a.heap.size ≤ x) : Kept X a c :=
  ⟨k.os.trans h.os, k.tape.trans h.tape, k.output.trans h.output, Nat.le_trans h.size k.size,
    fun i hi hx => (k.blk i (Nat.lt_of_lt_of_le hi h.size) (fun hy => (hs i hy).elim hx (fun h2 => absurd hi (Nat.not_lt.2 h2)))).trans (h.blk i hi hx)⟩
theorem Kept.step0 {X : List Nat} {a b c : World} (h : Kept X a b) (k : Kept [] b c) : Kept X a c := h.step k (fun _ hx => by cases hx)
theorem Kept.get {X : List Nat} {w w' : World} (h : Kept X w w') {b : Nat} {o : Obj} (hb : w.heap[b]? = some o) (hx : b ∉ X) : w'.heap[b]? = some o :=
  (h.blk b (lt_of_heap hb) hx).trans hb
theorem Kept.get0 {w w' : World} (h : Kept [] w w') {b : Nat} {o : Obj} (hb : w.heap[b]? = some o) : w'.heap[b]? = some o := h.get hb (by simp)
theorem Kept.alloc (w : World) (o : Obj) : Kept [] w (w.alloc o) := ⟨rfl, rfl, rfl, by simp, fun k hk _ => heap_alloc_old w o hk⟩
theorem Kept.drew (w : World) : Kept [] w w.drew := ⟨rfl, rfl, rfl, Nat.le_refl _, fun _ _ _ => rfl⟩
theorem Kept.of_grown {w w' : World} {r : Option Nat} (h : w.grownBy w' r) : Kept r.toList w w' :=
  ⟨h.os, h.tape, h.output, h.size, fun k hk hx => h.block k hk (fun e => hx (by rw [← e]; simp))⟩
theorem Kept.own {w w' : World} {X : List Nat} (h : Kept X w w') {base e size n : Nat} {v : Value} {xs : List Value} (ho : w.ownsRow base e size v n xs)
    (hx : ∀ g, v.ownBlock = some g → g ∉ X) : w'.ownsRow base e size v n xs := by
  refine ⟨ho.1, ?_⟩
  rcases ho.2 with hn | ⟨g, cap, cur, rfl, hb, hg, rest⟩
  · exact .inl hn
  · exact .inr ⟨g, cap, cur, rfl, hb, h.get hg (hx g rfl), rest⟩
theorem ownsRow_base {w : World} {base base' e size n : Nat} {v : Value} {xs : List Value} (ho : w.ownsRow base e size v n xs) (h : base' ≤ base) : w.ownsRow base' e size v n xs := by
  refine ⟨ho.1, ?_⟩
  rcases ho.2 with hn | ⟨g, cap, cur, rfl, hb, hg, rest⟩
  · exact .inl hn
  · exact .inr ⟨g, cap, cur, rfl, by omega, hg, rest⟩

abbrev Imm := Nat → Option Obj
def Inv (I : Imm) (w : World) : Prop := ∀ b o, I b = some o → w.heap[b]? = some o
def Le (I I' : Imm) : Prop := ∀ b o, I b = some o → I' b = some o
def Imm.add (I : Imm) (b : Nat) (o : Obj) : Imm := fun k => if k = b then some o else I k
theorem Le.refl (I : Imm) : Le I I := fun _ _ h => h
theorem Le.trans {a b c : Imm} (h : Le a b) (k : Le b c) : Le a c := fun _ _ x => k _ _ (h _ _ x)
theorem Inv.fresh {I : Imm} {w : World} (h : Inv I w) {b : Nat} (hb : w.heap.size ≤ b) : I b = none := by
  cases hi : I b with
  | none => rfl
  | some o => exact absurd (lt_of_heap (h b o hi)) (by omega)
theorem Inv.kept {I : Imm} {w w' : World} {X : List Nat} (h : Inv I w) (k : Kept X w w') (hx : ∀ x, x ∈ X → I x = none) : Inv I w' := fun b o hb =>
  k.get (h b o hb) (fun hm => by rw [hx b hm] at hb; cases hb)
theorem Inv.kept0 {I : Imm} {w w' : World} (h : Inv I w) (k : Kept [] w w') : Inv I w' := h.kept k (fun _ hx => by cases hx)
theorem Inv.add {I : Imm} {w : World} (h : Inv I w) {b : Nat} {o : Obj} (hb : w.heap[b]? = some o) : Inv (I.add b o) w := fun k u hk => by
  unfold Imm.add at hk
  split at hk
  · rename_i e; subst e; simp at hk; subst hk; exact hb
  · exact h k u hk
theorem Le.add {I : Imm} {b : Nat} {o : Obj} (h : I b = none) : Le I (I.add b o) := fun k u hk => by
  unfold Imm.add
  split
  · rename_i e; subst e; rw [h] at hk; cases hk
  · exact hk
theorem Imm.add_self (I : Imm) (b : Nat) (o : Obj) : (I.add b o) b = some o := by simp [Imm.add]

def isAggD : TypeDesc → Bool
  | .struct _ | .array _ _ => true
  | _ => false
class TyStr (P : Program) (t : TypeId) : Prop where out : P.underlying t = some .string
class TySlice (P : Program) (t : TypeId) (e : outParam TypeId) : Prop where out : P.underlying t = some (.slice e)
class Elem (P : Program) (e : TypeId) (size bytes : outParam Nat) : Prop where
  out : ∃ i z, P.info? e = some i ∧ i.zero = some z ∧ i.size = size ∧ i.bytes = bytes ∧ z.cells.size = size ∧ 0 < size
class Own (P : Program) (f : FuncId) : Prop where out : ∃ fn, P.funcs[f]? = some fn ∧ (fn.name == "runtime.NumGoroutine") = false ∧ fn.body.isNone = false
class TyOne (P : Program) (t : TypeId) : Prop where out : ∃ d, P.underlying t = some d ∧ isAggD d = false
class TyAgg (P : Program) (t : TypeId) (size : outParam Nat) : Prop where out : ∃ d i, P.underlying t = some d ∧ isAggD d = true ∧ P.info? t = some i ∧ i.size = size

abbrev str (s : List UInt8) : Value := .string ⟨s.toArray⟩
theorem str_size (s : List UInt8) : ByteArray.size ⟨s.toArray⟩ = s.length := List.size_toArray
theorem str_get (s : List UInt8) (i : Nat) (h : i < s.length) : (⟨s.toArray⟩ : ByteArray)[i]? = some (s.getD i 0) := by
  have h1 : i < (⟨s.toArray⟩ : ByteArray).size := by rw [str_size]; exact h
  rw [getElem?_pos (⟨s.toArray⟩ : ByteArray) i h1]
  simp [List.getD_eq_getElem?_getD, List.getElem?_eq_getElem h]
  rfl
section
variable {P : Program} {N : Nat} {ds : List Deferred} {Q : Exit → Act → World → Prop} {l l' : Log} {w w' : World} {ops : Array Oper} {os : List Oper} {o : Oper}
variable {d : Nat} {ty : TypeId} {pos : String} {af : Array Edge} {g : Option (Nat × Bool)} {t t' : TypeId} {x y : Operand}

theorem op_len_str [TyStr P t] {s : List UInt8} (hw : want ops l ⟨some d, .call ⟨.builtin .len, #[x], #[t]⟩, ty, pos, af, g⟩ = some true := by rfl) (hN : Nat.blt d N = true := by rfl)
    (hx : ev l x = some (str s) := by rfl) (k : WL P N ds ops Q os ((d, .int .i64 (s.length : Int)) :: l) w) :
    WL P N ds ops Q (⟨some d, .call ⟨.builtin .len, #[x], #[t]⟩, ty, pos, af, g⟩ :: os) l w :=
  wl_value rfl hw hN (fun a ha => by
    have h1 := run_underlying (P := P) (w := w) (TyStr.out (P := P) (t := t))
    simp [execOp, resolve, invoke, builtin, Builtin.len_, ha.ev hx, h1, goInt, str_size]) k
theorem op_len_slice {e : TypeId} [TySlice P t e] {b : Option Addr} {n c : Nat} (hw : want ops l ⟨some d, .call ⟨.builtin .len, #[x], #[t]⟩, ty, pos, af, g⟩ = some true := by rfl) (hN : Nat.blt d N = true := by rfl)
    (hx : ev l x = some (.slice b n c) := by rfl) (k : WL P N ds ops Q os ((d, .int .i64 (n : Int)) :: l) w) :
    WL P N ds ops Q (⟨some d, .call ⟨.builtin .len, #[x], #[t]⟩, ty, pos, af, g⟩ :: os) l w :=
  wl_value rfl hw hN (fun a ha => by
    have h1 := run_underlying (P := P) (w := w) (TySlice.out (P := P) (t := t))
    simp [execOp, resolve, invoke, builtin, Builtin.len_, ha.ev hx, h1, goInt]) k
theorem op_index_str [TyStr P t] {s : List UInt8} {n : Int} (hw : want ops l ⟨some d, .index t x y, ty, pos, af, g⟩ = some true := by rfl) (hN : Nat.blt d N = true := by rfl)
    (hx : ev l x = some (str s) := by rfl) (hy : ev l y = some (.int .i64 n) := by rfl) (h0 : 0 ≤ n := by omega) (h1 : n < s.length := by omega)
    (k : WL P N ds ops Q os ((d, .int .u8 ((s.getD n.toNat 0).toNat : Int)) :: l) w) :
    WL P N ds ops Q (⟨some d, .index t x y, ty, pos, af, g⟩ :: os) l w :=
  wl_value rfl hw hN (fun a ha => by
    have h2 := run_underlying (P := P) (w := w) (TyStr.out (P := P) (t := t))
    have h3 : n.toNat < s.length := by omega
    simp [execOp, Instr.index, ha.ev hx, ha.ev hy, h2, asIntOf, h0, str_get s _ h3]) k
theorem str_extract (s : List UInt8) (a b : Nat) : ByteArray.extract ⟨s.toArray⟩ a b = ⟨((s.drop a).take (b - a)).toArray⟩ := by
  have h := Lib.extract_data ⟨s.toArray⟩ a b
  apply ByteArray.ext
  apply Array.toList_inj.1
  rw [h]
theorem str_toList (s : List UInt8) : ByteArray.toList ⟨s.toArray⟩ = s := by simp

theorem op_slice_str [TyStr P t] {s : List UInt8} {z : Operand} {a b : Int} (hw : want ops l ⟨some d, .slice t x (some y) (some z) none, ty, pos, af, g⟩ = some true := by rfl) (hN : Nat.blt d N = true := by rfl)
    (hx : ev l x = some (str s) := by rfl) (hy : ev l y = some (.int .i64 a) := by rfl) (hz : ev l z = some (.int .i64 b) := by rfl) (h0 : 0 ≤ a ∧ a ≤ b ∧ b ≤ s.length := by omega)
    (k : WL P N ds ops Q os ((d, str ((s.drop a.toNat).take (b.toNat - a.toNat))) :: l) w) :
    WL P N ds ops Q (⟨some d, .slice t x (some y) (some z) none, ty, pos, af, g⟩ :: os) l w :=
  wl_value rfl hw hN (fun c hc => by
    obtain ⟨i, rfl⟩ := Int.eq_ofNat_of_zero_le h0.1
    obtain ⟨j, rfl⟩ := Int.eq_ofNat_of_zero_le (Int.le_trans h0.1 h0.2.1)
    have h2 := run_underlying (P := P) (w := w) (TyStr.out (P := P) (t := t))
    have h3 : i ≤ j := by omega
    have h4 : j ≤ s.length := by omega
    simp [execOp, Instr.sliceAt, Instr.slice, Instr.sliceBounds, Instr.sliceBound, hc.ev hx, hc.ev hy, hc.ev hz, h2, asIntOf, str_size, str_extract, h3, h4]) k
theorem op_slice_from [TyStr P t] {s : List UInt8} {a : Int} (hw : want ops l ⟨some d, .slice t x (some y) none none, ty, pos, af, g⟩ = some true := by rfl) (hN : Nat.blt d N = true := by rfl)
    (hx : ev l x = some (str s) := by rfl) (hy : ev l y = some (.int .i64 a) := by rfl) (h0 : 0 ≤ a ∧ a ≤ s.length := by omega)
    (k : WL P N ds ops Q os ((d, str (s.drop a.toNat)) :: l) w) :
    WL P N ds ops Q (⟨some d, .slice t x (some y) none none, ty, pos, af, g⟩ :: os) l w :=
  wl_value rfl hw hN (fun c hc => by
    have h2 := run_underlying (P := P) (w := w) (TyStr.out (P := P) (t := t))
    have h4 : (s.drop a.toNat).take (s.length - a.toNat) = s.drop a.toNat := List.take_of_length_le (by simp)
    simp [execOp, Instr.sliceAt, Instr.slice, Instr.sliceBounds, Instr.sliceBound, hc.ev hx, hc.ev hy, h2, asIntOf, h0, str_size, str_extract, h4]) k
theorem op_eql_str {s u : List UInt8} (hw : want ops l ⟨some d, .binOp .eql t x y t', ty, pos, af, g⟩ = some true := by rfl) (hN : Nat.blt d N = true := by rfl)
    (hx : ev l x = some (str s) := by rfl) (hy : ev l y = some (str u) := by rfl) (k : WL P N ds ops Q os ((d, .bool (decide (s = u))) :: l) w) :
    WL P N ds ops Q (⟨some d, .binOp .eql t x y t', ty, pos, af, g⟩ :: os) l w :=
  wl_value rfl hw hN (fun c hc => by simp [execOp, hc.ev hx, hc.ev hy, eqGuard, binOp, Op.stringOp]; exact beq_dec s u) k
theorem op_neq_str {s u : List UInt8} (hw : want ops l ⟨some d, .binOp .neq t x y t', ty, pos, af, g⟩ = some true := by rfl) (hN : Nat.blt d N = true := by rfl)
    (hx : ev l x = some (str s) := by rfl) (hy : ev l y = some (str u) := by rfl) (k : WL P N ds ops Q os ((d, .bool (decide (s ≠ u))) :: l) w) :
    WL P N ds ops Q (⟨some d, .binOp .neq t x y t', ty, pos, af, g⟩ :: os) l w :=
  wl_value rfl hw hN (fun c hc => by simp [execOp, hc.ev hx, hc.ev hy, eqGuard, binOp, Op.stringOp]; exact beq_dec s u) k
theorem op_add {a b : Int} (hw : want ops l ⟨some d, .binOp .add t x y t', ty, pos, af, g⟩ = some true := by rfl) (hN : Nat.blt d N = true := by rfl)
    (hx : ev l x = some (.int .i64 a) := by rfl) (hy : ev l y = some (.int .i64 b) := by rfl) (h : -9223372036854775808 ≤ a + b ∧ a + b ≤ 9223372036854775807 := by omega)
    (k : WL P N ds ops Q os ((d, .int .i64 (a + b)) :: l) w) : WL P N ds ops Q (⟨some d, .binOp .add t x y t', ty, pos, af, g⟩ :: os) l w :=
  wl_value rfl hw hN (fun c hc => by simp [execOp, hc.ev hx, hc.ev hy, eqGuard, binOp, Op.intArith, IntWalk.i64_in _ h]) k
theorem op_sub {a b : Int} (hw : want ops l ⟨some d, .binOp .sub t x y t', ty, pos, af, g⟩ = some true := by rfl) (hN : Nat.blt d N = true := by rfl)
    (hx : ev l x = some (.int .i64 a) := by rfl) (hy : ev l y = some (.int .i64 b) := by rfl) (h : -9223372036854775808 ≤ a - b ∧ a - b ≤ 9223372036854775807 := by omega)
    (k : WL P N ds ops Q os ((d, .int .i64 (a - b)) :: l) w) : WL P N ds ops Q (⟨some d, .binOp .sub t x y t', ty, pos, af, g⟩ :: os) l w :=
  wl_value rfl hw hN (fun c hc => by simp [execOp, hc.ev hx, hc.ev hy, eqGuard, binOp, Op.intArith, IntWalk.i64_in _ h]) k
theorem op_not {b : Bool} (hw : want ops l ⟨some d, .unOp .not t x, ty, pos, af, g⟩ = some true := by rfl) (hN : Nat.blt d N = true := by rfl)
    (hx : ev l x = some (.bool b) := by rfl) (k : WL P N ds ops Q os ((d, .bool (!b)) :: l) w) : WL P N ds ops Q (⟨some d, .unOp .not t x, ty, pos, af, g⟩ :: os) l w :=
  wl_value rfl hw hN (fun c hc => by simp [execOp, hc.ev hx, Op.unary]) k
theorem op_extract {n : Nat} {vs : List Value} {v : Value} (hw : want ops l ⟨some d, .extract x n, ty, pos, af, g⟩ = some true := by rfl) (hN : Nat.blt d N = true := by rfl)
    (hx : ev l x = some (.tuple vs.toArray) := by rfl) (hv : vs[n]? = some v := by rfl) (k : WL P N ds ops Q os ((d, v) :: l) w) : WL P N ds ops Q (⟨some d, .extract x n, ty, pos, af, g⟩ :: os) l w :=
  wl_value rfl hw hN (fun c hc => by simp [execOp, hc.ev hx, Instr.extract, hv]) k

def evs (l : Log) : List Operand → Option (List Value)
  | [] => some []
  | x :: xs => match ev l x, evs l xs with
    | some v, some vs => some (v :: vs)
    | _, _ => none
theorem Fits.evs {a : Act} (h : Fits N ds l a) : ∀ {xs : List Operand} {vs : List Value}, evs l xs = some vs → xs.map a.eval = vs
  | [], vs, hv => by simp [Fw.evs] at hv; simp [← hv]
  | x :: xs, vs, hv => by
    simp only [Fw.evs] at hv
    split at hv
    · rename_i v us h1 h2
      simp only [Option.some.injEq] at hv
      rw [← hv, List.map_cons, h.ev h1, h.evs h2]
    · cases hv

theorem wl_enter {f : FuncId} {args : Array Value} {Post : Value → World → Prop} (hw : want ops l o = some true)
    (hrun : ∀ a, Fits N ds l a → (execOp a.eval o).run P w = .ok (.enter f args) w) (hc : Cal P f args w Post)
    (k : ∀ v w', Post v w' → ∀ a, Fits N ds l a → wpList P ops Q os (a.put o.dst v) w') : WL P N ds ops Q (o :: os) l w :=
  wl_op hw fun a ha => by
    unfold Oper.wp
    rw [hrun a ha, Oper.upon_enter]
    exact Calls.mono hc.run (fun e w' q => by
      cases e with
      | returned v => exact k v w' q a ha
      | panicked c => exact q.elim
      | outgrown => exact q.elim)

theorem run_callFunc {f : FuncId} [Own P f] (args : Array Value) : (callFunc f args).run P w = .ok (.enter f args) w := by
  obtain ⟨fn, h1, h2, h3⟩ := Own.out (P := P) (f := f)
  simp only [beq_eq_false_iff_ne] at h2
  have h4 : ¬ fn.body = none := fun e => by simp [e] at h3
  simp [callFunc, h1, h2, h4]

theorem op_call {f : FuncId} [Own P f] {xs : List Operand} {tys : Array TypeId} {vs : List Value} {Post : Value → World → Prop}
    (hw : want ops l ⟨some d, .call ⟨.value (.func f), xs.toArray, tys⟩, ty, pos, af, g⟩ = some true := by rfl) (hN : Nat.blt d N = true := by rfl)
    (hx : evs l xs = some vs := by rfl) (hc : Cal P f vs.toArray w Post) (k : ∀ v w', Post v w' → WL P N ds ops Q os ((d, v) :: l) w') :
    WL P N ds ops Q (⟨some d, .call ⟨.value (.func f), xs.toArray, tys⟩, ty, pos, af, g⟩ :: os) l w :=
  wl_enter hw (fun a ha => by
    have := ha.evs hx
    simp [execOp, resolve, invoke, Act.eval, Deferred.ofValue, this, run_callFunc]) hc (fun v w' hp a ha => (k v w' hp).run _ (ha.put hN v))
theorem op_callv {c : Operand} {f : FuncId} [Own P f] {xs : List Operand} {tys : Array TypeId} {vs ca : List Value} {Post : Value → World → Prop}
    (hw : want ops l ⟨some d, .call ⟨.value c, xs.toArray, tys⟩, ty, pos, af, g⟩ = some true := by rfl) (hN : Nat.blt d N = true := by rfl)
    (hf : ev l c = some (.func (.func f) #[] ca.toArray) := by rfl) (hx : evs l xs = some vs := by rfl) (hc : Cal P f (vs ++ ca).toArray w Post) (k : ∀ v w', Post v w' → WL P N ds ops Q os ((d, v) :: l) w') :
    WL P N ds ops Q (⟨some d, .call ⟨.value c, xs.toArray, tys⟩, ty, pos, af, g⟩ :: os) l w :=
  wl_enter hw (fun a ha => by
    have := ha.evs hx
    simp [execOp, resolve, invoke, ha.ev hf, Deferred.ofValue, this, run_callFunc]) hc (fun v w' hp a ha => (k v w' hp).run _ (ha.put hN v))
theorem op_makeFunc {f : FuncId} {xs : List Operand} {vs : List Value} (hw : want ops l ⟨some d, .makeFunc (.func f) #[] xs.toArray, ty, pos, af, g⟩ = some true := by rfl) (hN : Nat.blt d N = true := by rfl)
    (hx : evs l xs = some vs := by rfl) (k : WL P N ds ops Q os ((d, .func (.func f) #[] vs.toArray) :: l) w) :
    WL P N ds ops Q (⟨some d, .makeFunc (.func f) #[] xs.toArray, ty, pos, af, g⟩ :: os) l w :=
  wl_value rfl hw hN (fun a ha => by
    have := ha.evs hx
    simp [execOp, Instr.makeFunc, this]) k

theorem op_box {v : Value} (hw : want ops l ⟨some d, .box t x, ty, pos, af, g⟩ = some true := by rfl) (hN : Nat.blt d N = true := by rfl) (hx : ev l x = some v := by rfl)
    (k : ∀ b w', b = w.heap.size → w'.heap[b]? = some (.cells v.cells t (0, 0)) → Kept [] w w' → WL P N ds ops Q os ((d, .pointer (some ⟨b, 0, none⟩)) :: l) w') :
    WL P N ds ops Q (⟨some d, .box t x, ty, pos, af, g⟩ :: os) l w :=
  wl_value (w' := w.alloc (.cells v.cells t (0, 0))) rfl hw hN (fun a ha => by
    simp [execOp, Instr.box, newVar, newRow, newObj, ha.ev hx]; rfl) (k w.heap.size _ rfl (heap_alloc_new w _) (Kept.alloc w _))
theorem cell_of {b off : Nat} {c : Array Value} {e : TypeId} {fr : Nat × Nat} {v : Value} (hb : w.heap[b]? = some (.cells c e fr)) (hc : c[off]? = some v) : w.cell? ⟨b, off, none⟩ = some v := by
  simp [World.cell?, hb, hc]
theorem run_isAgg {dd : TypeDesc} (h : P.underlying t = some dd) : (isAgg t).run P w = .ok (isAggD dd) w := by
  have h3 := run_underlying (P := P) (w := w) h
  simp only [isAgg]
  cases dd <;> simp [h3, isAggD]
theorem op_load1 [TyOne P t] {b off : Nat} {c : Array Value} {e : TypeId} {fr : Nat × Nat} {v : Value} (hw : want ops l ⟨some d, .load t x, ty, pos, af, g⟩ = some true := by rfl) (hN : Nat.blt d N = true := by rfl)
    (hx : ev l x = some (.pointer (some ⟨b, off, none⟩)) := by rfl) (hb : w.heap[b]? = some (.cells c e fr) := by assumption) (hc : c[off]? = some v := by rfl)
    (k : WL P N ds ops Q os ((d, v) :: l) w) : WL P N ds ops Q (⟨some d, .load t x, ty, pos, af, g⟩ :: os) l w :=
  wl_value rfl hw hN (fun a ha => by
    obtain ⟨dd, h1, h2⟩ := TyOne.out (P := P) (t := t)
    have h4 := cell_of hb hc
    simp [execOp, Instr.loadAt, Instr.sureAddr, loadVar, run_isAgg h1, h2, ha.ev hx, load, Sem.run, h4]) k
end
end Go.Fw
end
