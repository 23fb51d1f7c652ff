/- Own work: texts SpecFlow2, NsA, NsB, FwMap2, one behind the other. -/
import Derived.Test.YtkbiakajlfmakaaGreatDoorNt18
section
namespace Go.Sp
theorem itNo_mem {its : List Itm} {i : Nat} (h : i < its.length) : itNo its i ∈ its := by
  rw [itNo, List.getD_eq_getElem?_getD, List.getElem?_eq_getElem h]; exact List.getElem_mem h
theorem itNo_get {its : List Itm} {i : Nat} (h : i < its.length) : its[i]? = some (itNo its i) := by
  rw [itNo, List.getD_eq_getElem?_getD, List.getElem?_eq_getElem h]; rfl
/-- the second has channels' labels that are as great at least. -/
structure Up (its its' : List Itm) : Prop where
  len : its'.length = its.length
  kind : ∀ j, (itNo its' j).kind = (itNo its j).kind
  name : ∀ j, (itNo its' j).name = (itNo its j).name
  params : ∀ j, (itNo its' j).params = (itNo its j).params
  sends : ∀ j, (itNo its' j).sends = (itNo its j).sends
  body : ∀ j, (itNo its' j).body = (itNo its j).body
  own : ∀ j, (itNo its j).kind ≠ 1 → (itNo its' j).label = (itNo its j).label
  up : ∀ j a, flows a (itNo its j).label = true → flows a (itNo its' j).label = true
theorem Up.find {its its' : List Itm} (h : Up its its') (k : Int) (n : List UInt8) : findIt its' k n = findIt its k n := by
  have e : ∀ j (h1 : j < its'.length) (h2 : j < its.length), itIs k n its'[j] = itIs k n its[j] := fun j h1 h2 => by
    have a1 := h.kind j
    have a2 := h.name j
    have e1 : itNo its' j = its'[j] := by have := itNo_get h1; rw [List.getElem?_eq_getElem h1] at this; exact (Option.some.inj this).symm
    have e2 : itNo its j = its[j] := by have := itNo_get h2; rw [List.getElem?_eq_getElem h2] at this; exact (Option.some.inj this).symm
    rw [e1, e2] at a1 a2
    rw [itIs, itIs, a1, a2]
  have hl := h.len
  rw [findIt, findIt]
  cases hf : its.findIdx? (itIs k n) with
  | none =>
    rw [List.findIdx?_eq_none_iff] at hf ⊢
    intro x hx
    obtain ⟨j, hj, rfl⟩ := List.getElem_of_mem hx
    rw [e j hj (by omega)]
    exact hf _ (List.getElem_mem _)
  | some j =>
    rw [List.findIdx?_eq_some_iff_getElem] at hf ⊢
    obtain ⟨h1, h2, h3⟩ := hf
    exact ⟨by omega, by rw [e j (by omega) h1]; exact h2, fun i hi => by rw [e i (by omega) (by omega)]; exact h3 i hi⟩
end Go.Sp
end
section
namespace Go.Sp
theorem findLn_cut (n : List UInt8) {l : List Lc} {k : Nat} {x : Lc} (h : l[k]? = some x) : findLc (l.take (k + 1)) n = if x.name = n then some x else findLc (l.take k) n := by
  rw [take_succ_get h, findLc_snoc]
end Go.Sp
namespace Go.Fw
theorem sub4_0 {R : List HItem} {a b c d : HItem} : ∀ h ∈ [a, b, c, d], h ∈ a :: b :: c :: d :: R := by simp
theorem pm4_0 {R : List HItem} {a b c d : HItem} : (a :: b :: c :: d :: R).Perm ([a, b, c, d] ++ R) := .refl _
theorem pm4_1 {R : List HItem} {a b c d x : HItem} : (x :: a :: b :: c :: d :: R).Perm ([a, b, c, d] ++ (x :: R)) :=
  (pm3_1 (R := d :: R)).trans (((List.Perm.swap d x R).cons c).cons b |>.cons a)
end Go.Fw
namespace Go.Proofs.YtkbiakajlfmakaaGreatDoor
open Go.Fw
abbrev encLn (l : Sp.Lc) : List Value := [str l.name, nt l.at_]
abbrev encUs (u : Sp.Us) : List Value := [.int .i64 u.fr, .int .i64 u.to, .int .i64 u.df]
abbrev lnRow (sc : List Sp.Lc) (sa : Option Addr) (sp : Nat) : HItem := .row (.slice sa sc.length sp) 142 2 sc.length (sc.flatMap encLn)
abbrev usRow (us : List Sp.Us) (ua : Option Addr) (up : Nat) : HItem := .row (.slice ua us.length up) 39 3 us.length (us.flatMap encUs)
abbrev nObj (bc bf : Nat) (pi : Value) (sc : List Sp.Lc) (sa : Option Addr) (sp : Nat) (s : Sp.NW) (da : Option Addr) (dp : Nat) (ua : Option Addr) (up : Nat) : HItem :=
  .obj bc (.cells [ptr bf, pi, .slice sa sc.length sp, .slice da s.ds.length dp, .slice ua s.us.length up].toArray 75 (0, 0))
/-- who goes through a file's names: it, what it used, locals, what it told. -/
abbrev NSt (bc bf : Nat) (pi : Value) (sc : List Sp.Lc) (sa : Option Addr) (sp : Nat) (s : Sp.NW) (da : Option Addr) (dp : Nat) (ua : Option Addr) (up : Nat) : List HItem :=
  [nObj bc bf pi sc sa sp s da dp ua up, usRow s.us ua up, lnRow sc sa sp, dgRow s.ds da dp]
/-- it comes to 's', with locals 'sc'. -/
abbrev ToN (bc bf : Nat) (pi : Value) (sc : List Sp.Lc) (s : Sp.NW) (val : Value) : Value → Imm → List HItem → Prop :=
  fun v _ H' => v = val ∧ ∃ sa sp da dp ua up, H' = NSt bc bf pi sc sa sp s da dp ua up
/-- what does not turn of it. -/
structure NRd (J : Imm) (bc bf : Nat) (pi : Value) (sc : List Sp.Lc) (sa : Option Addr) (sp : Nat) (v3 v4 : Value) : Prop where
  ptr : PtrI J bc 0 75 [ptr bf, pi, .slice sa sc.length sp, v3, v4]
  row : RowI J 142 2 (.slice sa sc.length sp) sc.length (sc.flatMap encLn)
theorem NRd.le {I J : Imm} (m : Le I J) {bc bf : Nat} {pi : Value} {sc : List Sp.Lc} {sa : Option Addr} {sp : Nat} {v3 v4 : Value} (h : NRd I bc bf pi sc sa sp v3 v4) : NRd J bc bf pi sc sa sp v3 v4 := ⟨h.ptr.le m, h.row.le m⟩
def lcV : Option Sp.Lc → Value
  | some l => .tuple #[.agg [str l.name, nt l.at_].toArray, .bool true]
  | none => .tuple #[.agg [str [], nt 0].toArray, .bool false]
/-- what does not turn beside it; the text. -/
structure NC (I : Imm) (src : List UInt8) (p : Nat) (q : List UInt8) (its : List Sp.Itm) (it : Sp.Itm) (bf : Nat) (a : Option Addr) (cp : Nat) (xs : List Value) (pi : Value) : Prop where
  file : PtrI I bf 0 24 [.slice a its.length cp]
  fe : FE I its a cp xs
  item : ∃ bi oi tc ci, pi = .pointer (some ⟨bi, oi, none⟩) ∧ PtrI I bi oi tc ci ∧ ItAt I it ci
  len : src.length ≤ 4000
  st : Sp.ItS src p q it
  sts : ∀ x ∈ its, Sp.ItS0 src x
theorem NC.le {I J : Imm} (m : Le I J) {src : List UInt8} {p : Nat} {q : List UInt8} {its : List Sp.Itm} {it : Sp.Itm} {bf : Nat} {a : Option Addr} {cp : Nat} {xs : List Value} {pi : Value} (h : NC I src p q its it bf a cp xs pi) : NC J src p q its it bf a cp xs pi := by
  obtain ⟨h1, h2, ⟨bi, oi, tc, ci, e, h3, h4⟩, h5, h6, h7⟩ := h
  exact ⟨h1.le m, h2.le m, ⟨bi, oi, tc, ci, e, h3.le m, h4.le m⟩, h5, h6, h7⟩
section
variable {I : Imm} {bc bf sp dp up : Nat} {pi : Value} {sc : List Sp.Lc} {sa da ua : Option Addr} {s : Sp.NW}
/-- a reader of it, from where all does not turn. -/
theorem CalR.walker {f : FuncId} {args : Array Value} {v : Value} (h : ∀ J, Le I J → NRd J bc bf pi sc sa sp (.slice da s.ds.length dp) (.slice ua s.us.length up) → CalR Tryz.prog f args J [] v) :
    CalR Tryz.prog f args I (NSt bc bf pi sc sa sp s da dp ua up) v :=
  CalR.of fun w J hm hl hH hJ => by
    have h1 := immOf_ptr (hH (nObj bc bf pi sc sa sp s da dp ua up) (by simp))
    have h2 := immOf_row (hH (lnRow sc sa sp) (by simp))
    rw [← hJ] at h1 h2
    exact (h J hl ⟨h1, h2⟩).run w hm.inv (fun _ h => by cases h)
theorem n_lfind {J : Imm} {v3 v4 : Value} (n : List UInt8) (hs : sc.length ≤ 1099511627776) (h : NRd J bc bf pi sc sa sp v3 v4) : CalM Tryz.prog 73 #[ptr bc, str n] J [] (fun v _ H' => v = lcV (Sp.findLc sc n) ∧ H' = []) := by
  refine CalM.of fun w E hm => enter (N := 35) Tryz.func73 rfl [(0, ptr bc), (1, str n)] args2 rfl ?_
  obtain ⟨hp, hr⟩ := h
  repeat' (first
  | (refine m_allocS (d:=4) hm (k:=?_); clear hm; intro b4 _ hm)
  | refine i_load1 hm (k:=?_)
  | refine op_move (k:=?_)
  | refine op_assign (k:=?_)
  | refine op_len_slice (k:=?_)
  | refine op_nilCheck (k:=?_)
  | refine op_sub (k:=?_)
  | refine op_fieldAddr (k:=?_)
  | refine wl_nil ?_
  | refine at_then_normal ?_
  | refine wc_seq ?_
  | refine wc_region ?_
  | refine wc_block ?_)
  refine wc_loop (fun k : Nat => [(0, ptr bc), (1, str n), (4, ptr b4), (6, .int .i64 ((k : Int) - 1))]) (fun k w' => Mem E J [.cell b4 [str [], nt 0] 142] w' ∧ k ≤ sc.length ∧ Sp.findLc sc n = Sp.findLc (sc.take k) n) (fun k => k) sc.length (by exact ⟨rfl, rfl, rfl, rfl, trivial⟩) ⟨hm, Nat.le_refl _, by rw [List.take_length]⟩ ?_
  clear hm
  rintro k w1 ⟨hm, hk, hf⟩
  try dsimp only at hm hk hf ⊢
  by_cases h0 : 0 < k
  · have hg : sc[k - 1]? = some sc[k - 1] := List.getElem?_eq_getElem (by omega)
    have hcut := Sp.findLn_cut n hg
    rw [show k - 1 + 1 = k by omega] at hcut
    generalize sc[k - 1] = x at hg hcut
    rw [hcut] at hf
    have hi : sc[((k : Int) - 1).toNat]? = some x := by rw [show ((k : Int) - 1).toNat = k - 1 by omega]; exact hg
    by_cases hx : x.name = n
    · rw [if_pos hx] at hf
      repeat' (first
      | (refine i_indexFlat (d:=22) (enc:=encLn) (z:=x) (hr:=hr) (he:=fun _ => rfl) (hz:=hi) (k:=?_); intro b1 o1 p1)
      | (refine i_indexFlat (d:=32) (enc:=encLn) (z:=x) (hr:=hr) (he:=fun _ => rfl) (hz:=hi) (k:=?_); intro b2 o2 p2)
      | refine i_load1 hm (k:=?_)
      | refine i_loadN hm (k:=?_)
      | (refine m_storeAll hm (k:=?_); clear hm; intro _ hm; try simp only [setn] at hm)
      | refine m_ret2_agg hm (h:=?_)
      | refine op_move (k:=?_)
      | refine op_assign (k:=?_)
      | refine op_geq (k:=?_)
      | refine op_eql_str (k:=?_)
      | refine op_nilCheck (k:=?_)
      | refine op_fieldAddr (k:=?_)
      | refine wl_nil ?_
      | refine at_then_normal ?_
      | refine at_then_ret ?_
      | refine at_block_ret ?_
      | refine wc_seq ?_
      | refine wc_region ?_
      | refine wc_block ?_
      | refine wc_skip ?_
      | refine wc_ret ?_
      | (refine wc_cond_dec (ht:=fun _ => ?_) (hf:=fun _ => ?_)<;> (try first | contradiction | (exfalso; omega))))
      all_goals try (exfalso; first | omega | contradiction)
      exact ⟨J, [], ⟨by rw [hf]; rfl, rfl⟩, hm.left (H := [])⟩
    · rw [if_neg hx] at hf
      repeat' (first
      | (refine i_indexFlat (d:=22) (enc:=encLn) (z:=x) (hr:=hr) (he:=fun _ => rfl) (hz:=hi) (k:=?_); intro b1 o1 p1)
      | refine i_load1 hm (k:=?_)
      | refine op_move (k:=?_)
      | refine op_assign (k:=?_)
      | refine op_geq (k:=?_)
      | refine op_eql_str (k:=?_)
      | refine op_nilCheck (k:=?_)
      | refine op_sub (k:=?_)
      | refine op_fieldAddr (k:=?_)
      | refine wl_nil ?_
      | refine at_then_normal ?_
      | refine at_block_normal ?_
      | refine wc_seq ?_
      | refine wc_region ?_
      | refine wc_block ?_
      | refine wc_skip ?_
      | (refine wc_cond_dec (ht:=fun _ => ?_) (hf:=fun _ => ?_)<;> (try first | contradiction | (exfalso; omega))))
      all_goals try (exfalso; first | omega | contradiction)
      refine at_round (k - 1 : Nat) (by exact ⟨rfl, rfl, rfl, by rw [show (((k - 1 : Nat) : Int) - 1) = (k : Int) - 1 - 1 by omega]; rfl, trivial⟩) ⟨hm, by omega, hf⟩ (by omega)
  · obtain rfl : k = 0 := by omega
    repeat' (first
    | (refine m_storeAll hm (k:=?_); clear hm; intro _ hm; try simp only [setn] at hm)
    | refine m_ret2_agg hm (h:=?_)
    | refine op_move (k:=?_)
    | refine op_assign (k:=?_)
    | refine op_geq (k:=?_)
    | refine op_struct (k:=?_)
    | refine wl_nil ?_
    | refine at_then_normal ?_
    | refine at_then_exit ?_
    | refine at_block_exit ?_
    | refine wc_seq ?_
    | refine wc_region ?_
    | refine wc_exit ?_
    | refine wc_ret ?_
    | refine wc_cond_false (hf:=?_))
    all_goals try (exfalso; omega)
    exact ⟨J, [], ⟨by rw [hf]; rfl, rfl⟩, hm.left (H := [])⟩
theorem NSt_tell (bc bf : Nat) (pi : Value) (sc : List Sp.Lc) (sa : Option Addr) (sp : Nat) (s : Sp.NW) (f e : Nat) (n : List UInt8) (da : Option Addr) (dp : Nat) (ua : Option Addr) (up : Nat) :
    [.obj bc (.cells [ptr bf, pi, .slice sa sc.length sp, .slice da (s.ds.length + 1) dp, .slice ua s.us.length up].toArray 75 (0, 0)), usRow s.us ua up, lnRow sc sa sp, .row (.slice da (s.ds.length + 1) dp) 65 4 (s.ds.length + 1) (s.ds.flatMap encDg ++ encDg ⟨f, f + n.length, e, n⟩)] = NSt bc bf pi sc sa sp (s.tell f e n) da dp ua up := by
  simp [Sp.NW.tell, List.flatMap_append]
theorem NSt_use (bc bf : Nat) (pi : Value) (sc : List Sp.Lc) (sa : Option Addr) (sp : Nat) (s : Sp.NW) (b : Int) (f : Nat) (n : List UInt8) (d : Int) (da : Option Addr) (dp : Nat) (ua : Option Addr) (up : Nat) :
    [.obj bc (.cells [ptr bf, pi, .slice sa sc.length sp, .slice da s.ds.length dp, .slice ua (s.us.length + 1) up].toArray 75 (0, 0)), .row (.slice ua (s.us.length + 1) up) 39 3 (s.us.length + 1) (s.us.flatMap encUs ++ encUs ⟨b + f, b + f + n.length, d⟩), lnRow sc sa sp, dgRow s.ds da dp] = NSt bc bf pi sc sa sp (s.use b f n d) da dp ua up := by
  simp [Sp.NW.use, List.flatMap_append]
theorem n_tell (n : List UInt8) (f e : Nat) (hf : f + n.length ≤ 1099511627776) (hd : s.n ≤ 1000000000) :
    CalM Tryz.prog 42 #[ptr bc, nt f, nt e, str n] I (NSt bc bf pi sc sa sp s da dp ua up) (ToN bc bf pi sc (s.tell f e n) (.tuple #[])) := by
  have hn : s.n = s.ds.length + s.us.length := rfl
  refine CalM.of fun w E hm => enter (N := 25) Tryz.func42 rfl [(0, ptr bc), (1, nt f), (2, nt e), (3, str n)] args4 rfl ?_
  repeat' (first
  | (refine m_push (d:=22) hm (k:=?_); clear hm; intro a22 cp22 _ _ hm; try simp only [setn] at hm)
  | refine m_load1 hm (k:=?_)
  | (refine m_store1 hm (k:=?_); clear hm; intro _ hm; try simp only [setn] at hm)
  | refine op_move (k:=?_)
  | refine op_len_str (k:=?_)
  | refine op_nilCheck (k:=?_)
  | refine op_add (k:=?_)
  | refine op_fieldAddr (k:=?_)
  | refine op_struct (k:=?_)
  | refine wl_nil ?_
  | refine wc_region ?_
  | refine at_end0 (h:=?_))
  exact ⟨I, _, ⟨rfl, _, _, _, _, _, _, NSt_tell _ _ _ _ _ _ s f e n _ _ _ _⟩, hm⟩
theorem n_use {src : List UInt8} {p : Nat} {q : List UInt8} {its : List Sp.Itm} {it : Sp.Itm} {a : Option Addr} {cp : Nat} {xs : List Value} (hC : NC I src p q its it bf a cp xs pi) (f : Nat) (n : List UInt8) (d : Int) (hst : Sp.stands q f n) (hd : s.n ≤ 1000000000) :
    CalM Tryz.prog 74 #[ptr bc, nt f, str n, .int .i64 d] I (NSt bc bf pi sc sa sp s da dp ua up) (ToN bc bf pi sc (s.use p f n d) (.tuple #[])) := by
  have hn : s.n = s.ds.length + s.us.length := rfl
  have hb := (hC.st.sub _ _ hst).1
  have hlen := hC.len
  have hat := hC.st.at_
  refine CalM.of fun w E hm => enter (N := 40) Tryz.func74 rfl [(0, ptr bc), (1, nt f), (2, str n), (3, .int .i64 d)] args4 rfl ?_
  obtain ⟨bi, oi, tci, ci, rfl, hpi, hati⟩ := hC.item
  obtain ⟨pa, pc, sa9, sc9, ba, bc9, da9, dc9, xb, rfl, _⟩ := hati
  rw [hat] at hpi
  repeat' (first
  | (refine wc_semi_mem (id:=0) (hm.perm pm1_1) 28 30 (h:=?_); clear hm; intro wd hR hm)
  | refine mw_load1 hR (k:=?_)
  | refine iw_load1 hR (k:=?_)
  | (refine mt_push (d:=37) hm (k:=?_); clear hm; intro a37 cp37 _ _ hm; replace hm := hR.back hm; clear hR; try simp only [setn] at hm)
  | (refine m_store1 hm (k:=?_); clear hm; intro _ hm; try simp only [setn] at hm)
  | refine op_nilCheck (k:=?_)
  | refine op_fieldAddr (k:=?_)
  | refine wl_nil ?_
  | refine at_end0 (h:=?_)
  | refine v_move (k:=?_)
  | refine v_len_str (k:=?_)
  | refine v_nilCheck (k:=?_)
  | refine v_add (k:=?_)
  | refine v_fieldAddr (k:=?_)
  | refine v_struct (k:=?_)
  | refine wv_nil ?_)
  all_goals try (exfalso; omega)
  exact ⟨I, _, ⟨rfl, _, _, _, _, _, _, NSt_use _ _ _ _ _ _ s p f n d _ _ _ _⟩, hm.swap⟩
end
end Go.Proofs.YtkbiakajlfmakaaGreatDoor
end
section
namespace Go.Sp
theorem locN_some {b : Int} {sc : List Lc} {a : Nat} {n : List UInt8} {s : NW} {l : Lc} (h : findLc sc n = some l) : locN b sc a n s = s.use b a n (b + l.at_) := by rw [locN, h]
theorem locN_none {b : Int} {sc : List Lc} {a : Nat} {n : List UInt8} {s : NW} (h : findLc sc n = none) : locN b sc a n s = if n = [] then s else s.tell a 6 n := by rw [locN, h]
theorem itmN_some {its : List Itm} {b k : Int} {a : Nat} {n : List UInt8} {s : NW} {j : Nat} (h : findIt its k n = some j) : itmN its b k a n s = s.use b a n ((itNo its j).at_ + (itNo its j).mark) := by rw [itmN, h]
theorem itmN_none {its : List Itm} {b k : Int} {a : Nat} {n : List UInt8} {s : NW} (h : findIt its k n = none) : itmN its b k a n s = if n = [] then s else s.tell a 6 n := by rw [itmN, h]
theorem mkN_some {n : List UInt8} {a : Nat} {sc : List Lc} {s : NW} {l : Lc} (hn : n ≠ []) (h : findLc sc n = some l) : mkN n a sc s = (sc ++ [⟨n, a⟩], s.tell a 7 n) := by rw [mkN, if_neg hn, h]
theorem mkN_none {n : List UInt8} {a : Nat} {sc : List Lc} {s : NW} (hn : n ≠ []) (h : findLc sc n = none) : mkN n a sc s = (sc ++ [⟨n, a⟩], s) := by rw [mkN, if_neg hn, h]
end Go.Sp
namespace Go.Proofs.YtkbiakajlfmakaaGreatDoor
open Go.Fw
theorem NSt_snoc (bc bf : Nat) (pi : Value) (sc : List Sp.Lc) (sa : Option Addr) (sp : Nat) (s : Sp.NW) (n : List UInt8) (x : Nat) (da : Option Addr) (dp : Nat) (ua : Option Addr) (up : Nat) :
    [.obj bc (.cells [ptr bf, pi, .slice sa (sc.length + 1) sp, .slice da s.ds.length dp, .slice ua s.us.length up].toArray 75 (0, 0)), usRow s.us ua up, .row (.slice sa (sc.length + 1) sp) 142 2 (sc.length + 1) (sc.flatMap encLn ++ encLn ⟨n, x⟩), dgRow s.ds da dp] = NSt bc bf pi (sc ++ [⟨n, x⟩]) sa sp s da dp ua up := by
  simp [List.flatMap_append]
section
variable {I : Imm} {bc bf sp dp up : Nat} {pi : Value} {sc : List Sp.Lc} {sa da ua : Option Addr} {s : Sp.NW}
set_option maxHeartbeats 8000000 in
theorem n_make (n : List UInt8) (a : Nat) (ha : a + n.length ≤ 1099511627776) (hs : sc.length ≤ 1000000000) (hd : s.n ≤ 1000000000) :
    CalM Tryz.prog 61 #[ptr bc, str n, nt a] I (NSt bc bf pi sc sa sp s da dp ua up) (ToN bc bf pi (Sp.mkN n a sc s).1 (Sp.mkN n a sc s).2 (.tuple #[])) := by
  refine CalM.of fun w E hm => enter (N := 33) Tryz.func61 rfl [(0, ptr bc), (1, str n), (2, nt a)] args3 rfl ?_
  by_cases hn : n = []
  · subst hn
    repeat' (first
    | refine op_move (k:=?_)
    | refine op_eql_str (k:=?_)
    | refine wl_nil ?_
    | refine at_then_normal ?_
    | refine at_then_ret ?_
    | refine wc_seq ?_
    | refine wc_region ?_
    | refine wc_ret ?_
    | refine at_ret0 (h:=?_)
    | refine wc_cond_true (ht:=?_))
    all_goals try (exfalso; first | omega | contradiction)
    exact ⟨I, _, ⟨rfl, _, _, _, _, _, _, rfl⟩, hm⟩
  have hg := CalR.walker (I := I) (bc := bc) (bf := bf) (pi := pi) (sc := sc) (sa := sa) (sp := sp) (s := s) (da := da) (dp := dp) (ua := ua) (up := up) (fun J m h => (n_lfind n (by omega) h).read)
  cases hf : Sp.findLc sc n with
  | some l =>
    rw [hf] at hg
    dsimp only [lcV] at hg
    rw [Sp.mkN_some hn hf]
    have hT := fun (J : Imm) => n_tell (I := J) (bc := bc) (bf := bf) (pi := pi) (sc := sc) (sa := sa) (sp := sp) (s := s) (da := da) (dp := dp) (ua := ua) (up := up) n a 7 ha hd
    repeat' (first
    | (refine m_readC (d:=13) hm (hs:=sub4_0) (hc:=by exact hg) (k:=?_); clear hm; intro _ hm)
    | (refine m_call (d:=20) hm (hp:=pm4_1) (hc:=hT I) (k:=?_); clear hm; rintro _ I2 _ _ ⟨rfl, sa2, sp2, da2, dp2, ua2, up2, rfl⟩ hleI2 hm; try simp only [setn] at hm)
    | (refine m_varS (d:=6) hm (k:=?_); clear hm; intro b6 _ hm)
    | (refine m_push (d:=30) hm (k:=?_); clear hm; intro a30 cp30 _ _ hm; try simp only [setn] at hm)
    | refine m_load1 hm (k:=?_)
    | (refine m_store1 hm (k:=?_); clear hm; intro _ hm; try simp only [setn] at hm)
    | refine op_move (k:=?_)
    | refine op_assign (k:=?_)
    | refine op_eql_str (k:=?_)
    | refine op_extract (k:=?_)
    | refine op_nilCheck (k:=?_)
    | refine op_fieldAddr (k:=?_)
    | refine op_struct (k:=?_)
    | refine wl_nil ?_
    | refine at_then_normal ?_
    | refine wc_seq ?_
    | refine wc_region ?_
    | refine wc_skip ?_
    | refine at_end0 (h:=?_)
    | refine wc_cond_true (ht:=?_)
    | (refine wc_cond_dec (ht:=fun _ => ?_) (hf:=fun _ => ?_)<;> (try first | contradiction | (exfalso; omega))))
    all_goals try (exfalso; first | omega | contradiction)
    exact ⟨I2, _, ⟨rfl, _, _, _, _, _, _, NSt_snoc _ _ _ _ _ _ (s.tell a 7 n) n a _ _ _ _⟩, hm.left⟩
  | none =>
    rw [hf] at hg
    dsimp only [lcV] at hg
    rw [Sp.mkN_none hn hf]
    repeat' (first
    | (refine m_readC (d:=13) hm (hs:=sub4_0) (hc:=by exact hg) (k:=?_); clear hm; intro _ hm)
    | (refine m_varS (d:=6) hm (k:=?_); clear hm; intro b6 _ hm)
    | (refine m_push (d:=30) hm (k:=?_); clear hm; intro a30 cp30 _ _ hm; try simp only [setn] at hm)
    | refine m_load1 hm (k:=?_)
    | (refine m_store1 hm (k:=?_); clear hm; intro _ hm; try simp only [setn] at hm)
    | refine op_move (k:=?_)
    | refine op_assign (k:=?_)
    | refine op_eql_str (k:=?_)
    | refine op_extract (k:=?_)
    | refine op_nilCheck (k:=?_)
    | refine op_fieldAddr (k:=?_)
    | refine op_struct (k:=?_)
    | refine wl_nil ?_
    | refine at_then_normal ?_
    | refine wc_seq ?_
    | refine wc_region ?_
    | refine wc_skip ?_
    | refine at_end0 (h:=?_)
    | refine wc_cond_false (hf:=?_)
    | (refine wc_cond_dec (ht:=fun _ => ?_) (hf:=fun _ => ?_)<;> (try first | contradiction | (exfalso; omega))))
    all_goals try (exfalso; first | omega | contradiction)
    exact ⟨I, _, ⟨rfl, _, _, _, _, _, _, NSt_snoc _ _ _ _ _ _ s n a _ _ _ _⟩, hm.tl⟩
variable {src : List UInt8} {p : Nat} {q : List UInt8} {its : List Sp.Itm} {it : Sp.Itm} {a : Option Addr} {cp : Nat} {xs : List Value}
set_option maxHeartbeats 8000000 in
theorem n_local (hC : NC I src p q its it bf a cp xs pi) (f : Nat) (n : List UInt8) (hst : Sp.stands q f n) (hsc : Sp.scOk q sc) (hs : sc.length ≤ 1000000000) (hd : s.n ≤ 1000000000) :
    CalM Tryz.prog 94 #[ptr bc, nt f, str n] I (NSt bc bf pi sc sa sp s da dp ua up) (ToN bc bf pi sc (Sp.locN p sc f n s) (.tuple #[])) := by
  have hb := (hC.st.sub _ _ hst).1
  have hlen := hC.len
  have hat := hC.st.at_
  refine CalM.of fun w E hm => enter (N := 35) Tryz.func94 rfl [(0, ptr bc), (1, nt f), (2, str n)] args3 rfl ?_
  have hg := CalR.walker (I := I) (bc := bc) (bf := bf) (pi := pi) (sc := sc) (sa := sa) (sp := sp) (s := s) (da := da) (dp := dp) (ua := ua) (up := up) (fun J m h => (n_lfind n (by omega) h).read)
  cases hf : Sp.findLc sc n with
  | some l =>
    rw [hf] at hg
    dsimp only [lcV] at hg
    rw [Sp.locN_some hf]
    have hl := (hC.st.sub _ _ (hsc _ (Sp.findLc_mem hf).1).2).1
    have hU := fun (J : Imm) (m : Le I J) => n_use (I := J) (bc := bc) (sc := sc) (sa := sa) (sp := sp) (s := s) (da := da) (dp := dp) (ua := ua) (up := up) (hC.le m) f n ((p : Int) + l.at_) hst hd
    obtain ⟨bi, oi, tci, ci, rfl, hpi, hati⟩ := hC.item
    obtain ⟨pa, pc, sa9, sc9, ba, bc9, da9, dc9, xb, rfl, _⟩ := hati
    rw [hat] at hpi
    repeat' (first
    | (refine m_readC (d:=11) hm (hs:=sub4_0) (hc:=by exact hg) (k:=?_); clear hm; intro _ hm)
    | (refine wc_quiet_tail (id:=2) 13 (h:=?_))
    | (refine m_call (d:=28) hm (hp:=pm4_1) (hc:=hU I (Le.refl _)) (k:=?_); clear hm; rintro _ I2 _ _ ⟨rfl, sa2, sp2, da2, dp2, ua2, up2, rfl⟩ hleI2 hm; try simp only [setn] at hm)
    | (refine m_varS (d:=6) hm (k:=?_); clear hm; intro b6 _ hm)
    | refine mq_load1 hm (k:=?_)
    | refine iq_load1 hm (k:=?_)
    | refine op_move (k:=?_)
    | refine op_assign (k:=?_)
    | refine op_extract (k:=?_)
    | refine wl_nil ?_
    | refine at_then_normal ?_
    | refine wc_seq ?_
    | refine wc_region ?_
    | refine at_end0 (h:=?_)
    | (refine wq_nil_tail ?_; intro _ hkq; replace hm := hm.kept0 hkq; clear hkq)
    | refine wc_cond_true (ht:=?_)
    | refine q_move (k:=?_)
    | refine q_nilCheck (k:=?_)
    | refine q_add (k:=?_)
    | refine q_fieldAddr (k:=?_))
    all_goals try (exfalso; first | omega | contradiction)
    exact ⟨I2, _, ⟨rfl, _, _, _, _, _, _, rfl⟩, hm.left⟩
  | none =>
    rw [hf] at hg
    dsimp only [lcV] at hg
    rw [Sp.locN_none hf]
    by_cases hn : n = []
    · rw [if_pos hn]
      subst hn
      repeat' (first
      | (refine m_readC (d:=11) hm (hs:=sub4_0) (hc:=by exact hg) (k:=?_); clear hm; intro _ hm)
      | (refine m_varS (d:=6) hm (k:=?_); clear hm; intro b6 _ hm)
      | refine op_move (k:=?_)
      | refine op_assign (k:=?_)
      | refine op_neq_str (k:=?_)
      | refine op_extract (k:=?_)
      | refine wl_nil ?_
      | refine at_then_normal ?_
      | refine wc_seq ?_
      | refine wc_region ?_
      | refine wc_skip ?_
      | refine at_end0 (h:=?_)
      | refine wc_cond_false (hf:=?_))
      all_goals try (exfalso; first | omega | contradiction)
      exact ⟨I, _, ⟨rfl, _, _, _, _, _, _, rfl⟩, hm.tl⟩
    · rw [if_neg hn]
      have hT := fun (J : Imm) => n_tell (I := J) (bc := bc) (bf := bf) (pi := pi) (sc := sc) (sa := sa) (sp := sp) (s := s) (da := da) (dp := dp) (ua := ua) (up := up) n f 6 (by omega) hd
      repeat' (first
      | (refine m_readC (d:=11) hm (hs:=sub4_0) (hc:=by exact hg) (k:=?_); clear hm; intro _ hm)
      | (refine m_call (d:=34) hm (hp:=pm4_1) (hc:=hT I) (k:=?_); clear hm; rintro _ I2 _ _ ⟨rfl, sa2, sp2, da2, dp2, ua2, up2, rfl⟩ hleI2 hm; try simp only [setn] at hm)
      | (refine m_varS (d:=6) hm (k:=?_); clear hm; intro b6 _ hm)
      | refine op_move (k:=?_)
      | refine op_assign (k:=?_)
      | refine op_neq_str (k:=?_)
      | refine op_extract (k:=?_)
      | refine wl_nil ?_
      | refine at_then_normal ?_
      | refine wc_seq ?_
      | refine wc_region ?_
      | refine at_end0 (h:=?_)
      | refine wc_cond_false (hf:=?_)
      | (refine wc_cond_dec (ht:=fun _ => ?_) (hf:=fun _ => ?_)<;> (try first | contradiction | (exfalso; omega))))
      all_goals try (exfalso; first | omega | contradiction)
      exact ⟨I2, _, ⟨rfl, _, _, _, _, _, _, rfl⟩, hm.left⟩
set_option maxHeartbeats 8000000 in
theorem n_item0 (hC : NC I src p q its it bf a cp xs pi) (k : Int) (f : Nat) (n : List UInt8) (hst : Sp.stands q f n) (hd : s.n ≤ 1000000000) (hf : Sp.findIt its k n = none) :
    CalM Tryz.prog 62 #[ptr bc, .int .i64 k, nt f, str n] I (NSt bc bf pi sc sa sp s da dp ua up) (ToN bc bf pi sc (Sp.itmN its p k f n s) (.pointer none)) := by
  have hb := (hC.st.sub _ _ hst).1
  have hlen := hC.len
  refine CalM.of fun w E hm => enter (N := 51) Tryz.func62 rfl [(0, ptr bc), (1, .int .i64 k), (2, nt f), (3, str n)] args4 rfl ?_
  have hCf := hC.file
  have hfind := (n_find k n its I a cp xs hC.fe).read
  rw [Sp.findV, hf] at hfind
  dsimp only at hfind
  rw [Sp.itmN_none hf]
  by_cases hn : n = []
  · rw [if_pos hn]
    subst hn
    repeat' (first
    | (refine m_readC (d:=19) hm (hc:=hfind) (k:=?_); clear hm; intro _ hm)
    | refine m_load1 hm (k:=?_)
    | refine i_loadN hm (k:=?_)
    | refine op_move (k:=?_)
    | refine op_assign (k:=?_)
    | refine op_lss (k:=?_)
    | refine op_neq_str (k:=?_)
    | refine op_nilCheck (k:=?_)
    | refine op_fieldAddr (k:=?_)
    | refine wl_nil ?_
    | refine at_then_normal ?_
    | refine at_then_ret ?_
    | refine wc_seq ?_
    | refine wc_region ?_
    | refine wc_skip ?_
    | refine wc_ret ?_
    | refine at_ret1 (h:=?_)
    | refine wc_cond_true (ht:=?_)
    | refine wc_cond_false (hf:=?_))
    all_goals try (exfalso; first | omega | contradiction)
    exact ⟨I, _, ⟨rfl, _, _, _, _, _, _, rfl⟩, hm⟩
  · rw [if_neg hn]
    have hT := fun (J : Imm) => n_tell (I := J) (bc := bc) (bf := bf) (pi := pi) (sc := sc) (sa := sa) (sp := sp) (s := s) (da := da) (dp := dp) (ua := ua) (up := up) n f 6 (by omega) hd
    repeat' (first
    | (refine m_readC (d:=19) hm (hc:=hfind) (k:=?_); clear hm; intro _ hm)
    | (refine m_call (d:=27) hm (hp:=pm4_0) (hc:=hT I) (k:=?_); clear hm; rintro _ I2 _ _ ⟨rfl, sa2, sp2, da2, dp2, ua2, up2, rfl⟩ hleI2 hm; try simp only [setn] at hm)
    | refine m_load1 hm (k:=?_)
    | refine i_loadN hm (k:=?_)
    | refine op_move (k:=?_)
    | refine op_assign (k:=?_)
    | refine op_lss (k:=?_)
    | refine op_neq_str (k:=?_)
    | refine op_nilCheck (k:=?_)
    | refine op_fieldAddr (k:=?_)
    | refine wl_nil ?_
    | refine at_then_normal ?_
    | refine at_then_ret ?_
    | refine wc_seq ?_
    | refine wc_region ?_
    | refine wc_ret ?_
    | refine at_ret1 (h:=?_)
    | refine wc_cond_true (ht:=?_)
    | (refine wc_cond_dec (ht:=fun _ => ?_) (hf:=fun _ => ?_)<;> (try first | contradiction | (exfalso; omega))))
    all_goals try (exfalso; first | omega | contradiction)
    exact ⟨I2, _, ⟨rfl, _, _, _, _, _, _, rfl⟩, hm⟩
set_option maxHeartbeats 8000000 in
theorem n_item1 (hC : NC I src p q its it bf a cp xs pi) (k : Int) (f : Nat) (n : List UInt8) (hst : Sp.stands q f n) (hd : s.n ≤ 1000000000) {j : Nat} (hf : Sp.findIt its k n = some j) :
    CalM Tryz.prog 62 #[ptr bc, .int .i64 k, nt f, str n] I (NSt bc bf pi sc sa sp s da dp ua up)
      (fun v I' H' => (∃ bj oj cj, v = .pointer (some ⟨bj, oj, none⟩) ∧ PtrI I' bj oj 59 cj ∧ ItAt I' (Sp.itNo its j) cj) ∧ ∃ sa sp da dp ua up, H' = NSt bc bf pi sc sa sp (Sp.itmN its p k f n s) da dp ua up) := by
  refine CalM.of fun w E hm => enter (N := 51) Tryz.func62 rfl [(0, ptr bc), (1, .int .i64 k), (2, nt f), (3, str n)] args4 rfl ?_
  have hCf := hC.file
  have hlen := hC.len
  have hri := hC.fe.row
  have hfew := hC.fe.few
  have hfind := (n_find k n its I a cp xs hC.fe).read
  rw [Sp.findV, hf] at hfind
  dsimp only at hfind
  rw [Sp.itmN_some hf]
  obtain ⟨hj, _, _, _, hmemj⟩ := Sp.findIt_lt hf
  obtain ⟨_, dd, hdd, hds⟩ := Sp.findIt_ok hC.sts hf
  have hd0 := hds.1
  have hU := fun (J : Imm) (m : Le I J) => n_use (I := J) (bc := bc) (sc := sc) (sa := sa) (sp := sp) (s := s) (da := da) (dp := dp) (ua := ua) (up := up) (hC.le m) f n ((Sp.itNo its j).at_ + (Sp.itNo its j).mark) hst hd
  obtain ⟨ci, hci, hat, hlc⟩ := hC.fe.get (Sp.itNo_get hj)
  have hat0 := hat
  obtain ⟨pa, pc, sa9, sc9, ba, bc9, da9, dc9, xb, rfl, _⟩ := hat
  repeat' (first
  | (refine m_readC (d:=19) hm (hc:=hfind) (k:=?_); clear hm; intro _ hm)
  | (refine i_indexAddr (d:=36) (hr:=hri) (k:=?_); intro bu ou hpu; rw [show ((j : Int).toNat * 10) = j * 10 from rfl, hci] at hpu)
  | (refine wc_quiet_tail (id:=7) 12 (h:=?_))
  | (refine m_call (d:=49) hm (hp:=pm4_0) (hc:=hU I (Le.refl _)) (k:=?_); clear hm; rintro _ I2 _ _ ⟨rfl, sa2, sp2, da2, dp2, ua2, up2, rfl⟩ hleI2 hm; try simp only [setn] at hm)
  | refine m_load1 hm (k:=?_)
  | refine i_load1 hm (k:=?_)
  | refine i_loadN hm (k:=?_)
  | refine iq_load1 hm (k:=?_)
  | refine op_move (k:=?_)
  | refine op_assign (k:=?_)
  | refine op_lss (k:=?_)
  | refine op_nilCheck (k:=?_)
  | refine op_fieldAddr (k:=?_)
  | refine wl_nil ?_
  | refine at_then_normal ?_
  | refine wc_seq ?_
  | refine wc_region ?_
  | refine wc_skip ?_
  | refine wc_ret ?_
  | refine at_ret1 (h:=?_)
  | (refine wq_nil_tail ?_; intro _ hkq; replace hm := hm.kept0 hkq; clear hkq)
  | refine wc_cond_false (hf:=?_)
  | refine q_move (k:=?_)
  | refine q_nilCheck (k:=?_)
  | refine q_add (k:=?_)
  | refine q_fieldAddr (k:=?_))
  all_goals try (exfalso; first | omega | contradiction)
  exact ⟨I2, _, And.intro ⟨_, _, _, rfl, hpu.le hleI2, hat0.le hleI2⟩ ⟨_, _, _, _, _, _, rfl⟩, hm⟩
end
end Go.Proofs.YtkbiakajlfmakaaGreatDoor
end
section
namespace Go.Fw
open Go
def mput (es : Ents) (s : List UInt8) (v : Value) : Ents := match es.findIdx? (fun p => decide (p.1 = s)) with
  | some i => es.set i (s, v)
  | none => es ++ [(s, v)]
theorem ents_modify (es : Ents) (i : Nat) (s : List UInt8) (v : Value) : (entsOf es 0).toArray.modify i (fun e => { e with key := str s, val := v }) = (entsOf (es.set i (s, v)) 0).toArray := by
  apply Array.ext_getElem?
  intro j
  rw [Array.getElem?_modify]
  simp only [entsOf, List.getElem?_toArray, List.getElem?_map, List.getElem?_zipIdx, List.getElem?_set]
  by_cases h : i = j
  · subst h
    rw [if_pos rfl, if_pos rfl]
    by_cases h2 : i < es.length
    · rw [if_pos h2, List.getElem?_eq_getElem h2]; rfl
    · rw [if_neg h2, List.getElem?_eq_none (by omega)]; rfl
  · rw [if_neg h, if_neg h]
theorem mput_nodup {es : Ents} {s : List UInt8} {v : Value} (h : (es.map (·.1)).Nodup) : ((mput es s v).map (·.1)).Nodup := by
  rw [mput]
  cases hf : es.findIdx? (fun p => decide (p.1 = s)) with
  | some i =>
    obtain ⟨hi, hs, _⟩ := List.findIdx?_eq_some_iff_getElem.1 hf
    have hs' : es[i].1 = s := by simpa using hs
    have : (es.set i (s, v)).map (·.1) = es.map (·.1) := by
      apply List.ext_getElem?
      intro j
      simp only [List.getElem?_map, List.getElem?_set]
      split
      · rename_i h
        subst h
        rw [List.getElem?_eq_getElem hi]
        simp [hs']
      · rfl
    dsimp only
    rw [this]
    exact h
  | none =>
    dsimp only
    rw [List.map_append, List.nodup_append]
    refine ⟨h, by simp, fun a h1 b h2 => ?_⟩
    simp only [List.map_cons, List.map_nil, List.mem_singleton] at h2
    subst h2
    rintro rfl
    obtain ⟨p, hp, hps⟩ := List.mem_map.1 h1
    have := List.findIdx?_eq_none_iff.1 hf p hp
    simp [hps] at this
section
variable {P : Program} {N : Nat} {ds : List Deferred} {Q : Exit → Act → World → Prop} {l : Log} {w : World} {ops : Array Oper} {os : List Oper}
variable {d : Nat} {ty : TypeId} {pos : String} {af : Array Edge} {g : Option (Nat × Bool)} {t t' : TypeId} {x y z : Operand} {E : Ent} {I : Imm} {H : List HItem}
theorem m_put {kt et : TypeId} [TyMap P t kt et] [TyStr P kt] {i b : Nat} {es : Ents} {s : List UInt8} {v : Value} {dst : Option Nat} (hm : Mem E I H w) (hd : dst = none) (hw : want ops l ⟨dst, .insert t x y z, ty, pos, af, g⟩ = some true)
    (hx : ev l x = some (.map (some b))) (hy : ev l y = some (str s)) (hz : ev l z = some v) (hi : H[i]? = some (.mp b es)) (hn : (es.map (·.1)).Nodup)
    (k : ∀ w', Mem E I (H.set i (.mp b (mput es s v))) w' → WL P N ds ops Q os l w') :
    WL P N ds ops Q (⟨dst, .insert t x y z, ty, pos, af, g⟩ :: os) l w := by
  cases hf : es.findIdx? (fun p => decide (p.1 = s)) with
  | none =>
    have hs : (es.map (·.1)).contains s = false := by
      rw [← Bool.not_eq_true, List.contains_iff_mem]
      intro h1
      obtain ⟨p, hp, hps⟩ := List.mem_map.1 h1
      have := List.findIdx?_eq_none_iff.1 hf p hp
      simp [hps] at this
    have e : mput es s v = es ++ [(s, v)] := by rw [mput, hf]
    rw [e] at k
    exact m_insertNew hm hd hw hx hy hz hi hn hs k
  | some j =>
    obtain ⟨hj, hsj, _⟩ := List.findIdx?_eq_some_iff_getElem.1 hf
    have hsj' : es[j].1 = s := by simpa using hsj
    have e : mput es s v = es.set j (s, v) := by rw [mput, hf]
    rw [e] at k
    have hget := hm.get hi
    subst hd
    refine wl_op hw fun a ha => ?_
    have h1 := run_underlying (P := P) (w := w) (TyMap.out (P := P) (t := t))
    have hk := TyStr.out (P := P) (t := kt)
    have h2 := run_findKey (P := P) (w := w) hk s es 0
    have h3 := run_checkKey (P := P) (w := w) hk s false
    have h4 := MapKept.run_getObj_map (P := P) hget
    rw [hf] at h2
    have hg : es[j]? = some es[j] := List.getElem?_eq_getElem hj
    simp only [Option.bind_some, hg, Option.map_some, Nat.zero_add] at h2
    have h5 := fun o' => MapKept.run_setObj_map (P := P) o' hget
    have hkey : (entsOf es 0).toArray[j]? = some { key := str s, val := es[j].2, born := j } := by
      simp [entsOf, List.getElem?_zipIdx, hg, hsj']
    have h6 : (Instr.keyThatStays (str s) (str s)).run P w = .ok (str s) w := by
      have : Instr.sameBits 10000 (str s) (str s) = true := (MapKept.bytes_beq _ _).2 rfl
      simp [Instr.keyThatStays, this]
    have hb := lt_of_heap hget
    have hkept : Kept [b] w { w with heap := w.heap.setIfInBounds b (.map ((entsOf es 0).toArray.modify j (fun e => { e with key := str s, val := v })) es.length) } :=
      ⟨rfl, rfl, rfl, by simp, fun i hi hx => by
        have : b ≠ i := by rintro rfl; simp at hx
        simp [Array.getElem?_setIfInBounds_ne this]⟩
    have hm' := hm.turn (h' := .mp b (es.set j (s, v))) hi (by simpa [HItem.blk] using hkept) (by
      show HItem.ok _ _
      have e2 := ents_modify es j s v
      simp only [HItem.ok, ← e2, List.length_set]
      simp [hb]) (.inl rfl)
    have h7 := (k _ hm').run _ ha
    simp only [Oper.wp, execOp, Instr.mapUpdate, ha.ev hx, ha.ev hy, ha.ev hz, Sem.run_bind, h1, Result.andThen_ok, h4, h3, h2, hkey, Option.map_some, Option.getD_some, h6, h5, Oper.upon_skip, Act.put, Sem.run_pure]
    simpa only [List.modify_toArray] using h7
theorem wl_mapUpdate {dst : Option Nat} (h : WL P N ds ops Q (⟨dst, .insert t x y z, ty, pos, af, g⟩ :: os) l w) : WL P N ds ops Q (⟨dst, .mapUpdate t x y z, ty, pos, af, g⟩ :: os) l w := ⟨fun a ha => h.run a ha⟩
end
end Go.Fw
end
