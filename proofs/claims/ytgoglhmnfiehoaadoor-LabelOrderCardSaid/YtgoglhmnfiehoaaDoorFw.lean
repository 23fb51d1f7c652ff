/- Own work: a small executor for function bodies over partial frames ('Fits'): rules for each operation, stated on what is known of the slots. -/
import Derived.Calls
import Derived.Tactics
import Derived.WalkKit
namespace Go.Fw
open Go

/-- what is known of a frame's slots: the newest entry counts. -/
abbrev Log := List (Nat × Value)

def lk : Log → Nat → Option Value
  | [], _ => none
  | (d, v) :: l, t => bif Nat.beq t d then some v else lk l t

def ev (l : Log) : Operand → Option Value
  | .tmp t => lk l t
  | .const v => some v
  | .global g => some (.pointer (some ⟨g, 0, none⟩))
  | .func f => some (.func (.func f) #[] #[])

structure Fits (N : Nat) (ds : List Deferred) (l : Log) (a : Act) : Prop where
  size : a.tmps.size = N
  defs : a.defers = ds
  vals : ∀ t v, lk l t = some v → a.tmps[t]? = some v

theorem Fits.ev {N : Nat} {ds : List Deferred} {l : Log} {a : Act} (h : Fits N ds l a) {x : Operand} {v : Value} (hx : ev l x = some v) : a.eval x = v := by
  cases x with
  | tmp t =>
    have := h.vals t v hx
    simp only [Act.eval, Array.getD_eq_getD_getElem?, this, Option.getD_some]
  | const c => simpa [Fw.ev, Act.eval] using hx
  | global g => simpa [Fw.ev, Act.eval] using hx
  | func f => simpa [Fw.ev, Act.eval] using hx

theorem Fits.put {N : Nat} {ds : List Deferred} {l : Log} {a : Act} (h : Fits N ds l a) {d : Nat} (hd : Nat.blt d N = true) (v : Value) :
    Fits N ds ((d, v) :: l) (a.put (some d) v) := by
  have hd' : d < N := by simpa [Nat.blt_eq] using hd
  refine ⟨by simp [Act.put, h.size], h.defs, fun t u hu => ?_⟩
  simp only [lk] at hu
  simp only [Act.put]
  cases hb : Nat.beq t d with
  | true =>
    rw [hb] at hu
    have : t = d := Nat.eq_of_beq_eq_true hb
    subst this
    simp only [cond_true, Option.some.injEq] at hu
    subst hu
    have : t < a.tmps.size := by rw [h.size]; exact hd'
    simp [this]
  | false =>
    rw [hb] at hu
    have hne : d ≠ t := fun e => by subst e; simp at hb
    simp only [cond_false] at hu
    rw [Array.getElem?_setIfInBounds_ne hne]
    exact h.vals t u hu

theorem Fits.putUndef {N : Nat} {ds : List Deferred} {l : Log} {a : Act} (h : Fits N ds l a) {d : Nat} (hd : Nat.blt d N = true) :
    Fits N ds ((d, undef) :: l) (a.put (some d) undef) := h.put hd _

/-- 'l'' holds no more than 'l'. -/
def Sub (l' l : Log) : Prop := ∀ t v, lk l' t = some v → lk l t = some v

/-- each entry of 'l'' is known in 'l' (a check that goes by 'rfl's). -/
def Has (l : Log) : Log → Prop
  | [] => True
  | (d, v) :: l' => lk l d = some v ∧ Has l l'

theorem Has.sub {l : Log} : ∀ {l' : Log}, Has l l' → Sub l' l
  | [], _ => fun t v h => by simp [lk] at h
  | (d, u) :: l', ⟨h1, h2⟩ => fun t v h => by
    simp only [lk] at h
    cases hb : Nat.beq t d with
    | true => rw [hb] at h; have := Nat.eq_of_beq_eq_true hb; subst this; simp at h; subst h; exact h1
    | false => rw [hb] at h; exact h2.sub t v (by simpa using h)

theorem Fits.sub {N : Nat} {ds : List Deferred} {l l' : Log} {a : Act} (h : Fits N ds l a) (hs : Sub l' l) : Fits N ds l' a :=
  ⟨h.size, h.defs, fun t v hv => h.vals t v (hs t v hv)⟩

section
variable {P : Program} {N : Nat} {ds : List Deferred}

/-- code, from frames of which 'l' is known. -/
structure WC (P : Program) (N : Nat) (ds : List Deferred) (c : Code) (Q : Exit → Act → World → Prop) (l : Log) (w : World) : Prop where
  run : ∀ a, Fits N ds l a → c.wp P Q a w
/-- a region's operations that are still to come. -/
structure WL (P : Program) (N : Nat) (ds : List Deferred) (ops : Array Oper) (Q : Exit → Act → World → Prop) (os : List Oper) (l : Log) (w : World) : Prop where
  run : ∀ a, Fits N ds l a → wpList P ops Q os a w
/-- an exit. -/
structure At (N : Nat) (ds : List Deferred) (Q : Exit → Act → World → Prop) (e : Exit) (l : Log) (w : World) : Prop where
  run : ∀ a, Fits N ds l a → Q e a w

variable {Q : Exit → Act → World → Prop} {l l' : Log} {w w' : World} {ops : Array Oper} {os : List Oper}

theorem WC.sub {c : Code} (hs : Has l l') (h : WC P N ds c Q l' w) : WC P N ds c Q l w := ⟨fun a ha => h.run a (ha.sub hs.sub)⟩

theorem WL.sub (hs : Sub l' l) (h : WL P N ds ops Q os l' w) : WL P N ds ops Q os l w := ⟨fun a ha => h.run a (ha.sub hs)⟩

theorem wc_seq {x y : Code} (h : WC P N ds x (Exit.then (fun a w => y.wp P Q a w) Q) l w) : WC P N ds (.seq x y) Q l w :=
  ⟨fun a ha => wp_seq (wp_mono (h.run a ha) fun _ _ _ q => q)⟩
/-- a sequence, cut: 'x' comes to its end with what 'J' says; 'y' goes on from there. -/
theorem wc_cut {x y : Code} {α : Type} (L : α → Log) (J : α → World → Prop)
    (h : WC P N ds x (Exit.then (fun a w => ∃ x, Fits N ds (L x) a ∧ J x w) Q) l w)
    (k : ∀ x w, J x w → WC P N ds y Q (L x) w) : WC P N ds (.seq x y) Q l w :=
  ⟨fun a ha => wp_seq (wp_mono (h.run a ha) (fun e a w q => by
    cases e <;> first | exact q | (obtain ⟨x, hx, hj⟩ := q; exact (k x w hj).run a hx)))⟩
theorem wc_cut_block (id : Nat) {x y : Code} {α : Type} (L : α → Log) (J : α → World → Prop)
    (h : WC P N ds (.block id x) (Exit.then (fun a w => ∃ x, Fits N ds (L x) a ∧ J x w) Q) l w)
    (k : ∀ x w, J x w → WC P N ds y Q (L x) w) : WC P N ds (.seq (.block id x) y) Q l w := wc_cut L J h k
theorem wc_cut_reg (id : Nat) {ops : Array Oper} {dr : Bool} {x y : Code} {α : Type} (L : α → Log) (J : α → World → Prop)
    (h : WC P N ds (.seq (.region id ops dr) x) (Exit.then (fun a w => ∃ x, Fits N ds (L x) a ∧ J x w) Q) l w)
    (k : ∀ x w, J x w → WC P N ds y Q (L x) w) : WC P N ds (.seq (.seq (.region id ops dr) x) y) Q l w := wc_cut L J h k
theorem wc_block {id : Nat} {c : Code} (h : WC P N ds c (Exit.inBlock id Q) l w) : WC P N ds (.block id c) Q l w := ⟨fun a ha => wp_block (h.run a ha)⟩
theorem wc_skip (h : At N ds Q .normal l w) : WC P N ds .skip Q l w := ⟨fun a ha => wp_skip (h.run a ha)⟩
theorem wc_ret (h : At N ds Q .ret l w) : WC P N ds .ret Q l w := ⟨fun a ha => wp_ret (h.run a ha)⟩
theorem wc_exit {id : Nat} (h : At N ds Q (.exit id) l w) : WC P N ds (.exit id) Q l w := ⟨fun a ha => wp_exit (h.run a ha)⟩
theorem wc_cond {c : Operand} {x y : Code} {b : Bool} (hc : ev l c = some (.bool b)) (ht : b = true → WC P N ds x Q l w) (hf : b = false → WC P N ds y Q l w) :
    WC P N ds (.cond c x y) Q l w := ⟨fun a ha => wp_cond_split (ha.ev hc) (fun h => (ht h).run a ha) (fun h => (hf h).run a ha)⟩
theorem wc_cond_true {c : Operand} {x y : Code} (hc : ev l c = some (.bool true)) (ht : WC P N ds x Q l w) :
    WC P N ds (.cond c x y) Q l w := ⟨fun a ha => wp_cond_true (ha.ev hc) (ht.run a ha)⟩
theorem wc_cond_false {c : Operand} {x y : Code} (hc : ev l c = some (.bool false)) (hf : WC P N ds y Q l w) :
    WC P N ds (.cond c x y) Q l w := ⟨fun a ha => wp_cond_false (ha.ev hc) (hf.run a ha)⟩
theorem wc_region {id : Nat} (h : WL P N ds ops Q ops.toList l w) : WC P N ds (.region id ops false) Q l w := ⟨fun a ha => wp_region_list (h.run a ha)⟩

/-- a loop: at each round's head what is known is 'L x' and 'J x'. -/
theorem wc_loop {c : Code} {α : Type} (L : α → Log) (J : α → World → Prop) (μ : α → Nat) (x₀ : α) (hl : Has l (L x₀)) (hw : J x₀ w)
    (round : ∀ x w, J x w → WC P N ds c (Exit.then (fun a w => ∃ y, Fits N ds (L y) a ∧ J y w ∧ μ y < μ x) Q) (L x) w) :
    WC P N ds (.loop c) Q l w := by
  refine ⟨fun a ha b k cs => ?_⟩
  have key : ∀ n x a w, μ x = n → Fits N ds (L x) a → J x w →
      ∃ e a' w', Q e a' w' ∧ Arrives P (lone (b.at a (.code c :: .inLoop c :: k)) cs w) b k cs e a' w' := by
    intro n
    induction n using Nat.strongRecOn with
    | _ n ih =>
      intro x a w hn hL hI
      obtain ⟨e, a₁, w₁, hq, harr⟩ := (round x w hI).run a hL b (.inLoop c :: k) cs
      cases e with
      | normal =>
        obtain ⟨y, hL₁, hI₁, hlt⟩ := hq
        obtain ⟨e₂, a₂, w₂, hq₂, harr₂⟩ := ih (μ y) (hn ▸ hlt) y a₁ w₁ rfl hL₁ hI₁
        exact ⟨e₂, a₂, w₂, hq₂, .of_steps (Steps.trans harr (.one step_inLoop)) harr₂⟩
      | exit id => exact ⟨_, a₁, w₁, hq, .pass (x := .inLoop c) rfl (fun _ _ => .inl (by simp)) harr⟩
      | goto l => exact ⟨_, a₁, w₁, hq, .pass (x := .inLoop c) rfl (fun _ _ => .inl (by simp)) harr⟩
      | ret => exact ⟨_, a₁, w₁, hq, .pass (x := .inLoop c) rfl (fun _ _ => .inl (by simp)) harr⟩
      | panic ch => exact ⟨_, a₁, w₁, hq, .pass (x := .inLoop c) rfl (fun _ _ => .inl (by simp)) harr⟩
      | outgrown => exact ⟨_, a₁, w₁, hq, .pass (x := .inLoop c) rfl (fun _ _ => .inl (by simp)) harr⟩
  obtain ⟨e, a', w', hq, harr⟩ := key _ x₀ a w rfl (ha.sub hl.sub) hw
  exact ⟨e, a', w', hq, .of_steps (.one step_loop) harr⟩

/-! exits -/
theorem wl_nil (h : At N ds Q .normal l w) : WL P N ds ops Q [] l w := ⟨fun a ha => wpList_nil (h.run a ha)⟩
theorem at_then_normal {y : Code} (h : WC P N ds y Q l w) : At N ds (Exit.then (fun a w => y.wp P Q a w) Q) .normal l w := ⟨fun a ha => h.run a ha⟩
theorem at_round {α : Type} {L : α → Log} {J : α → World → Prop} {μ : α → Nat} {n : Nat} (y : α) (hl : Has l (L y)) (hw : J y w) (hm : μ y < n) :
    At N ds (Exit.then (fun a w => ∃ y, Fits N ds (L y) a ∧ J y w ∧ μ y < n) Q) .normal l w := ⟨fun _ ha => ⟨y, ha.sub hl.sub, hw, hm⟩⟩
theorem at_cut {α : Type} {L : α → Log} {J : α → World → Prop} (y : α) (hl : Has l (L y)) (hw : J y w) :
    At N ds (Exit.then (fun a w => ∃ x, Fits N ds (L x) a ∧ J x w) Q) .normal l w := ⟨fun _ ha => ⟨y, ha.sub hl.sub, hw⟩⟩
theorem at_then_ret {K : Act → World → Prop} (h : At N ds Q .ret l w) : At N ds (Exit.then K Q) .ret l w := ⟨fun a ha => h.run a ha⟩
theorem at_then_exit {K : Act → World → Prop} {id : Nat} (h : At N ds Q (.exit id) l w) : At N ds (Exit.then K Q) (.exit id) l w := ⟨fun a ha => h.run a ha⟩
theorem at_block_normal {id : Nat} (h : At N ds Q .normal l w) : At N ds (Exit.inBlock id Q) .normal l w := ⟨fun a ha => h.run a ha⟩
theorem at_block_ret {id : Nat} (h : At N ds Q .ret l w) : At N ds (Exit.inBlock id Q) .ret l w := ⟨fun a ha => h.run a ha⟩
theorem at_block_exit {id : Nat} (h : At N ds Q .normal l w) : At N ds (Exit.inBlock id Q) (.exit id) l w :=
  ⟨fun a ha => by simp only [Exit.inBlock, if_true]; exact h.run a ha⟩
theorem at_block_other {id id' : Nat} (hne : Nat.beq id' id = false) (h : At N ds Q (.exit id') l w) : At N ds (Exit.inBlock id Q) (.exit id') l w :=
  ⟨fun a ha => by
    have : id' ≠ id := fun e => by subst e; simp at hne
    simp only [Exit.inBlock, this, if_false]; exact h.run a ha⟩

/-- what a call comes to: it returns. -/
def Ret (Post : Value → World → Prop) : Ending → World → Prop
  | .returned v, w => Post v w
  | _, _ => False
/-- function 'f' called so returns, and 'Post' holds of what comes of it and of the world. -/
structure Cal (P : Program) (f : FuncId) (args : Array Value) (w : World) (Post : Value → World → Prop) : Prop where
  run : Calls P f args w (Ret Post)

theorem Cal.mono {f : FuncId} {args : Array Value} {Post Post' : Value → World → Prop} (h : Cal P f args w Post) (hp : ∀ v w, Post v w → Post' v w) : Cal P f args w Post' :=
  ⟨Calls.mono h.run (fun e w q => by cases e <;> first | exact hp _ _ q | exact q)⟩

theorem at_ret1 {fn : Func} {t : Nat} {v : Value} {Post : Value → World → Prop} (hr : fn.results = #[.tmp t]) (hv : lk l t = some v) (h : Post v w) :
    At N [] (bodyPost P fn (Ret Post)) .ret l w := ⟨fun a ha =>
  ⟨ha.defs, v, by rw [results_tmp hr]; simp [Array.getD_eq_getD_getElem?, ha.vals t v hv], h⟩⟩
theorem at_ret2 {fn : Func} {t u : Nat} {v x : Value} {Post : Value → World → Prop} (hr : fn.results = #[.tmp t, .tmp u]) (hv : lk l t = some v) (hx : lk l u = some x)
    (h : Post (.tuple #[v, x]) w) : At N [] (bodyPost P fn (Ret Post)) .ret l w := ⟨fun a ha =>
  ⟨ha.defs, _, by rw [results_tmp2 hr]; simp [Array.getD_eq_getD_getElem?, ha.vals t v hv, ha.vals u x hx], h⟩⟩
theorem at_ret0 {fn : Func} {Post : Value → World → Prop} (hr : fn.results = #[]) (h : Post (.tuple #[]) w) :
    At N [] (bodyPost P fn (Ret Post)) .ret l w := ⟨fun _ ha => ⟨ha.defs, _, results_none hr _ _ _, h⟩⟩
theorem at_end0 {fn : Func} {Post : Value → World → Prop} (hr : fn.results = #[]) (h : Post (.tuple #[]) w) :
    At N [] (bodyPost P fn (Ret Post)) .normal l w := ⟨fun _ ha => ⟨ha.defs, _, results_none hr _ _ _, h⟩⟩

theorem fits_enter (args : Array Value) (n : Nat) (l : Log) (h : ∀ t v, lk l t = some v → args[t]? = some v) :
    Fits (args.size + n) [] l { tmps := args ++ Array.replicate n undef, defers := [] } := by
  refine ⟨by simp, rfl, fun t v hv => ?_⟩
  have h1 := h t v hv
  have h2 : t < args.size := by
    rcases Nat.lt_or_ge t args.size with h3 | h3
    · exact h3
    · simp [Array.getElem?_eq_none h3] at h1
  show (args ++ Array.replicate n undef)[t]? = some v
  rw [Array.getElem?_append_left h2]; exact h1

theorem args0 : ∀ t u, lk [] t = some u → (#[] : Array Value)[t]? = some u := fun t u h => by simp [lk] at h
theorem args1 {v : Value} : ∀ t u, lk [(0, v)] t = some u → #[v][t]? = some u := fun t u h => by
  match t, h with
  | 0, h => simpa [lk] using h
  | t + 1, h => cases h
theorem args2 {v0 v1 : Value} : ∀ t u, lk [(0, v0), (1, v1)] t = some u → #[v0, v1][t]? = some u := fun t u h => by
  match t, h with
  | 0, h => simpa [lk] using h
  | 1, h => have h' : some v1 = some u := h; simpa using h'
  | t + 2, h => cases h
theorem args3 {v0 v1 v2 : Value} : ∀ t u, lk [(0, v0), (1, v1), (2, v2)] t = some u → #[v0, v1, v2][t]? = some u := fun t u h => by
  match t, h with
  | 0, h => simpa [lk] using h
  | 1, h => have h' : some v1 = some u := h; simpa using h'
  | 2, h => have h' : some v2 = some u := h; simpa using h'
  | t + 3, h => cases h
theorem args4 {v0 v1 v2 v3 : Value} : ∀ t u, lk [(0, v0), (1, v1), (2, v2), (3, v3)] t = some u → #[v0, v1, v2, v3][t]? = some u := fun t u h => by
  match t, h with
  | 0, h => simpa [lk] using h
  | 1, h => have h' : some v1 = some u := h; simpa using h'
  | 2, h => have h' : some v2 = some u := h; simpa using h'
  | 3, h => have h' : some v3 = some u := h; simpa using h'
  | t + 4, h => cases h

theorem enter {f : FuncId} {fn : Func} {c : Code} {args : Array Value} {Post : Value → World → Prop} (hf : P.funcs[f]? = some fn) (hb : fn.body = some c)
    (l : Log) (hl : ∀ t v, lk l t = some v → args[t]? = some v) (hN : N = args.size + (fn.ntmps - args.size))
    (h : WC P N [] c (bodyPost P fn (Ret Post)) l w) : Cal P f args w Post :=
  ⟨calls_of_wp hf hb (h.run _ (by rw [hN]; exact fits_enter _ _ _ hl))⟩
end
end Go.Fw
