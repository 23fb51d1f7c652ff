/- Own work: what label.Count, label.Print and the reference's Print return. -/
import Derived.Test.YtgoglhmnfiehoaaDoorLabel5
namespace Go.Sp
def tagsTo (n k : Nat) : List Nat := (List.range k).filter (bit n)
theorem tagsTo_succ (n k : Nat) : tagsTo n (k + 1) = if bit n k then tagsTo n k ++ [k] else tagsTo n k := by
  rw [tagsTo, List.range_succ, List.filter_append]
  cases h : bit n k <;> simp [h, tagsTo]
theorem tagsTo_len (n k : Nat) : (tagsTo n k).length ≤ k := by
  have := List.length_filter_le (bit n) (List.range k)
  simpa [tagsTo] using this
theorem commas_len : ∀ (l : List UInt8), (commas l).length ≤ 2 * l.length
  | [] => by simp [commas]
  | [c] => by simp [commas]
  | c :: d :: l => by have := commas_len (d :: l); simp only [commas, List.length_cons] at this ⊢; omega
theorem commas_join : ∀ (l : List UInt8), Lib.join (l.map (fun c => [c])) [44] = commas l
  | [] => rfl
  | [c] => Lib.join_one _ _
  | c :: d :: l => by
    have := commas_join (d :: l)
    rw [List.map_cons, Lib.join_cons] at this
    rw [List.map_cons, List.map_cons, Lib.join_cons, commas, ← this]
    simp [Lib.joinTail]
theorem commas_snoc : ∀ (l : List UInt8) (c : UInt8), commas (l ++ [c]) = if l = [] then [c] else commas l ++ [44, c]
  | [], c => rfl
  | [a], c => rfl
  | a :: b :: l, c => by
    have := commas_snoc (b :: l) c
    rw [if_neg (by simp)] at this ⊢
    simp only [List.cons_append, commas] at this ⊢
    rw [this]
theorem commas_nil {l : List UInt8} (h : commas l = []) : l = [] := by
  match l with
  | [] => rfl
  | [c] => cases h
  | c :: d :: l => cases h
theorem letter_nat (k : Nat) (h : k < 8) : (letter k).toNat = 97 + k := by
  revert h; revert k; decide
end Go.Sp
namespace Go.Proofs.YtgoglhmnfiehoaaDoor
open Go.Fw

theorem c_count (n : Nat) (hn : n < 256) (w : World) : Cal Tryd.prog 15 #[.int .i64 n] w fun v w' => v = .int .i64 (((Sp.tagsOf n).length : Nat) : Int) ∧ w' = w := by
  refine enter (N := 7) Tryd.func15 rfl [(0, .int .i64 n)] args1 rfl ?_
  have hc : ((n : Int).toNat &&& (255 : Int).toNat : Nat) = n := by
    show n &&& 255 = n
    revert hn; revert n; decide +kernel
  repeat' (first
    | (refine op_and (by rfl) (by rfl) (by rfl) (by rfl) (by omega) (by decide) ?_; rw [hc])
    | (refine op_convert (by rfl) (by rfl) (by rfl) ?_; rw [IntWalk.u64_in (n : Int) (by omega)])
    | (refine op_call (by rfl) (by rfl) (by rfl) (by exact c_ones n hn _) ?_; rintro _ w1 ⟨rfl, rfl⟩)
    | refine op_move (by rfl) (by rfl) (by rfl) ?_
    | refine op_assign (by rfl) (by rfl) (by rfl) ?_
    | refine op_and (by rfl) (by rfl) (by rfl) (by rfl) (by omega) (by omega) ?_
    | refine op_convert (by rfl) (by rfl) (by rfl) ?_
    | refine wl_nil ?_
    | refine at_then_normal ?_
    | refine at_then_ret ?_
    | refine wc_seq ?_
    | refine wc_region ?_
    | refine wc_skip ?_
    | refine wc_ret ?_
    | refine at_ret1 (by rfl) (by rfl) ?_)
  exact ⟨rfl, rfl⟩

def tagV (k : Nat) : Value := str [Sp.letter k]
set_option maxHeartbeats 1000000 in
theorem c_print (n : Nat) (hn : n < 256) (w : World) : Cal Tryd.prog 16 #[.int .i64 n] w fun v w' => v = str (Sp.printL n) ∧ Kept [] w w' := by
  refine enter (N := 26) Tryd.func16 rfl [(0, .int .i64 n)] args1 rfl ?_
  repeat' (first
    | refine op_move (by rfl) (by rfl) (by rfl) ?_
    | refine op_assign (by rfl) (by rfl) (by rfl) ?_
    | refine op_lss (by rfl) (by rfl) (by rfl) (by rfl) ?_
    | refine op_eql (by rfl) (by rfl) (by rfl) (by rfl) ?_
    | refine op_eql_str (by rfl) (by rfl) (by rfl) (by rfl) ?_
    | refine op_eql_bool (by rfl) (by rfl) (by rfl) (by rfl) ?_
    | refine op_eql_flat (by rfl) (by rfl) (by rfl) (by rfl) (by rfl) (by rfl) ?_
    | refine op_add (by rfl) (by rfl) (by rfl) (by rfl) (by omega) ?_
    | refine op_add_u8 (by rfl) (by rfl) (by rfl) (by rfl) (by omega) ?_
    | refine op_and (by rfl) (by rfl) (by rfl) (by rfl) (by omega) (by omega) ?_
    | refine op_convert (by rfl) (by rfl) (by rfl) ?_
    | refine wl_nil ?_
    | refine at_then_normal ?_
    | refine at_then_ret ?_
    | refine at_then_exit ?_
    | refine at_block_normal ?_
    | refine at_block_ret ?_
    | refine at_block_exit ?_
    | refine at_block_other (by rfl) ?_
    | refine wc_seq ?_
    | refine wc_region ?_
    | refine wc_block ?_
    | refine wc_skip ?_
    | refine wc_exit ?_
    | refine wc_ret ?_
    | refine at_ret1 (by rfl) (by rfl) ?_
    | refine wc_cond_true (by rfl) ?_
    | refine wc_cond_false (by rfl) ?_
    | (refine wc_cond_dec (by rfl) (fun _ => ?_) (fun _ => ?_) <;> (try first | contradiction | (exfalso; omega)))
    | refine wc_cond (by rfl) (fun _ => ?_) (fun _ => ?_))
  refine wc_loop (fun x : Nat × Value => [(0, .int .i64 (n : Int)), (3, x.2), (5, .int .i64 ((x.1 : Nat) : Int))])
    (fun x w' => x.1 ≤ 8 ∧ w'.ownsRow w.heap.size 9 1 x.2 (Sp.tagsTo n x.1).length ((Sp.tagsTo n x.1).map tagV) ∧ Kept [] w w') (fun x => 8 - x.1) (0, .slice none 0 0)
    ⟨rfl, rfl, rfl, trivial⟩ ⟨by simp, World.ownsRow_nil _ _ _ _, Kept.refl _ _⟩ ?_
  rintro ⟨k, v⟩ w1 ⟨hk, hown, hkept⟩
  dsimp only at hk hown hkept ⊢
  by_cases hlt : k < 8
  · obtain ⟨m, hm⟩ : ∃ m, m = n / 2 ^ k := ⟨_, rfl⟩
    have hbit : Sp.bit n k = decide (((((m : Nat) : Int).toNat &&& (1 : Int).toNat : Nat) : Int) = 1) := by
      rw [Int.toNat_natCast, show (1 : Int).toNat = 1 from rfl, Nat.and_one_is_mod, Bool.eq_iff_iff, Sp.bit, ← hm, decide_eq_true_eq, decide_eq_true_eq]; omega
    have hq : m ≤ n := by rw [hm]; exact Nat.div_le_self _ _
    have hs := Sp.tagsTo_succ n k
    have hlen := Sp.tagsTo_len n k
    repeat' (first
      | (refine op_shr_nat (by rfl) (by rfl) (by rfl) (by rfl) (by omega) ?_; rw [← hm])
      | (refine op_and (by rfl) (by rfl) (by rfl) (by rfl) (by omega) (by decide) ?_)
      | (refine op_convert (by rfl) (by rfl) (by rfl) ?_; rw [IntWalk.u8_in (97 + (k : Int)) (by omega)])
      | (refine op_append1 (by rfl) (by rfl) (by rfl) (by rfl) (by rfl) hown2 (by rfl) (by rfl) (by decide) (by omega) (by omega) (by have := hkept2.size; omega) ?_; intro v3 w3 hown3 hk3 hb3)
      | (refine op_buildSlice (by rfl) (by rfl) (by rfl) (by rfl) (by rfl) (by decide) ?_; intro b2 w2 hb2 hbb2 hk2; have hown2 := hk2.own hown (by simp); have hkept2 := hkept.trans hk2)
      | (refine op_bytes_str (s := [Sp.letter k]) (by rfl) (by rfl) (by rfl) hbb2 (by rfl) (fun j hj => by (obtain rfl : j = 0 := by omega); show some (Value.int .u8 (97 + (k : Int))) = some (Value.int .u8 ((Sp.letter k).toNat : Int)); rw [Sp.letter_nat k hlt]; rfl) ?_)
      | refine op_move (by rfl) (by rfl) (by rfl) ?_
      | refine op_assign (by rfl) (by rfl) (by rfl) ?_
      | refine op_lss (by rfl) (by rfl) (by rfl) (by rfl) ?_
      | refine op_eql (by rfl) (by rfl) (by rfl) (by rfl) ?_
      | refine op_eql_str (by rfl) (by rfl) (by rfl) (by rfl) ?_
      | refine op_eql_bool (by rfl) (by rfl) (by rfl) (by rfl) ?_
      | refine op_eql_flat (by rfl) (by rfl) (by rfl) (by rfl) (by rfl) (by rfl) ?_
      | refine op_add (by rfl) (by rfl) (by rfl) (by rfl) (by omega) ?_
      | refine op_add_u8 (by rfl) (by rfl) (by rfl) (by rfl) (by omega) ?_
      | refine op_and (by rfl) (by rfl) (by rfl) (by rfl) (by omega) (by omega) ?_
      | refine op_convert (by rfl) (by rfl) (by rfl) ?_
      | refine wl_nil ?_
      | refine at_then_normal ?_
      | refine at_then_ret ?_
      | refine at_then_exit ?_
      | refine at_block_normal ?_
      | refine at_block_ret ?_
      | refine at_block_exit ?_
      | refine at_block_other (by rfl) ?_
      | refine wc_seq ?_
      | refine wc_region ?_
      | refine wc_block ?_
      | refine wc_skip ?_
      | refine wc_exit ?_
      | refine wc_ret ?_
      | refine at_ret1 (by rfl) (by rfl) ?_
      | refine wc_cond_true (by rfl) ?_
      | refine wc_cond_false (by rfl) ?_
      | (refine wc_cond_dec (by rfl) (fun _ => ?_) (fun _ => ?_) <;> (try first | contradiction | (exfalso; omega)))
      | refine wc_cond (by rfl) (fun _ => ?_) (fun _ => ?_))
    · skip
      rename_i h1
      have hb : Sp.bit n k = true := by rw [hbit]; exact decide_eq_true h1
      rw [if_pos hb] at hs
      refine at_round ((k + 1, v3) : Nat × Value) (by exact ⟨rfl, rfl, rfl, trivial⟩) ?_ (by dsimp only; omega)
      refine ⟨by dsimp only; omega, ?_, ?_⟩
      · dsimp only
        rw [hs, List.length_append, List.map_append]
        exact hown3
      · refine hkept2.step hk3 (fun x hx => .inr ?_)
        have hob := hown2.lt x (by simpa [Option.mem_toList] using hx)
        exact hob.1
    · rename_i h1
      have hb : Sp.bit n k = false := by rw [hbit]; exact decide_eq_false h1
      rw [hb, if_neg (by simp)] at hs
      refine at_round ((k + 1, v) : Nat × Value) (by exact ⟨rfl, rfl, rfl, trivial⟩) ?_ (by dsimp only; omega)
      refine ⟨by dsimp only; omega, ?_, hkept⟩
      dsimp only
      rw [hs]; exact hown
  · obtain rfl : k = 8 := by omega
    have htags : Sp.tagsTo n 8 = Sp.tagsOf n := rfl
    rw [htags] at hown
    have hlen : (Sp.tagsOf n).length ≤ 8 := Sp.tagsTo_len n 8
    have hcl := Sp.commas_len ((Sp.tagsOf n).map Sp.letter)
    rw [List.length_map] at hcl
    have hjoin : Cal Tryd.prog 21 #[v, .string ⟨#[44]⟩] w1 fun u w' => u = str (Sp.commas ((Sp.tagsOf n).map Sp.letter)) ∧ Kept [] w1 w' := by
      by_cases h0 : (Sp.tagsOf n).length = 0
      · obtain ⟨a, c, rfl⟩ := own_val hown
        rw [h0]
        refine (cal_of (Tryd.strings_Join_none a c ⟨#[44]⟩ w1)).mono ?_
        rintro u w' ⟨rfl, rfl⟩
        rw [List.eq_nil_of_length_eq_zero h0]
        exact ⟨rfl, Kept.refl _ _⟩
      · obtain ⟨g, cap, cur, rfl, hbg, hg, hcap, hcur, _⟩ := own_open hown (by omega)
        have hx : ((Sp.tagsOf n).map (fun k => (⟨[Sp.letter k].toArray⟩ : ByteArray))).map (fun x => x.data.toList) = ((Sp.tagsOf n).map Sp.letter).map (fun c => [c]) := by simp [Function.comp_def]
        have hj := Tryd.strings_Join g 0 cap ((Sp.tagsOf n).map (fun k => (⟨[Sp.letter k].toArray⟩ : ByteArray))) ⟨#[44]⟩ w1
          (fun j x hj => by
            refine cell_of hg ?_
            rw [Nat.zero_add]
            refine hcur j _ ?_
            rw [List.getElem?_map] at hj ⊢
            cases hjj : (Sp.tagsOf n)[j]? with
            | none => rw [hjj] at hj; cases hj
            | some q => rw [hjj] at hj; simp only [Option.map_some, Option.some.injEq] at hj ⊢; subst hj; rfl)
          (lt_of_heap hg) (by rw [List.length_map]; omega) (by rw [List.length_map]; exact hcap)
          (by rw [hx]; show (Lib.join _ [44]).length ≤ _; rw [Sp.commas_join]; omega)
        rw [hx, List.length_map] at hj
        have e : Lib.join (((Sp.tagsOf n).map Sp.letter).map (fun c => [c])) (⟨#[44]⟩ : ByteArray).data.toList = Sp.commas ((Sp.tagsOf n).map Sp.letter) := Sp.commas_join _
        rw [e] at hj
        refine (cal_of hj).mono ?_
        rintro u w' ⟨rfl, hb⟩
        exact ⟨rfl, Kept.of_below hb⟩
    repeat' (first
      | (refine op_call (by rfl) (by rfl) (by rfl) (by exact hjoin) ?_; rintro _ w2 ⟨rfl, hk2⟩)
      | (refine op_add_str (by rfl) (by rfl) (by rfl) (by rfl) (by simp only [List.length_append, List.length_cons, List.length_nil]; omega) ?_)
      | refine op_move (by rfl) (by rfl) (by rfl) ?_
      | refine op_assign (by rfl) (by rfl) (by rfl) ?_
      | refine op_lss (by rfl) (by rfl) (by rfl) (by rfl) ?_
      | refine op_eql (by rfl) (by rfl) (by rfl) (by rfl) ?_
      | refine op_eql_str (by rfl) (by rfl) (by rfl) (by rfl) ?_
      | refine op_eql_bool (by rfl) (by rfl) (by rfl) (by rfl) ?_
      | refine op_eql_flat (by rfl) (by rfl) (by rfl) (by rfl) (by rfl) (by rfl) ?_
      | refine op_add (by rfl) (by rfl) (by rfl) (by rfl) (by omega) ?_
      | refine op_add_u8 (by rfl) (by rfl) (by rfl) (by rfl) (by omega) ?_
      | refine op_and (by rfl) (by rfl) (by rfl) (by rfl) (by omega) (by omega) ?_
      | refine op_convert (by rfl) (by rfl) (by rfl) ?_
      | refine wl_nil ?_
      | refine at_then_normal ?_
      | refine at_then_ret ?_
      | refine at_then_exit ?_
      | refine at_block_normal ?_
      | refine at_block_ret ?_
      | refine at_block_exit ?_
      | refine at_block_other (by rfl) ?_
      | refine wc_seq ?_
      | refine wc_region ?_
      | refine wc_block ?_
      | refine wc_skip ?_
      | refine wc_exit ?_
      | refine wc_ret ?_
      | refine at_ret1 (by rfl) (by rfl) ?_
      | refine wc_cond_true (by rfl) ?_
      | refine wc_cond_false (by rfl) ?_
      | (refine wc_cond_dec (by rfl) (fun _ => ?_) (fun _ => ?_) <;> (try first | contradiction | (exfalso; omega)))
      | refine wc_cond (by rfl) (fun _ => ?_) (fun _ => ?_))
    exact ⟨rfl, hkept.trans hk2⟩
end Go.Proofs.YtgoglhmnfiehoaaDoor
