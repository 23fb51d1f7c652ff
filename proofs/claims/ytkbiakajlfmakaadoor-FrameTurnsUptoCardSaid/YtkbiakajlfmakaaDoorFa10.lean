/- Own work: texts FrH, PostFr, one behind the other. -/
import Derived.Test.YtkbiakajlfmakaaDoorFa9
import Derived.MakeChecks
import Derived.LaidSub
import Derived.Lay
import Derived.Stop.LaidErr
import Derived.Lib.LaidTab
import Derived.Carry
import Derived.Deep.Slices
import Derived.ChangeSlices
section
namespace Go.Proofs.YtkbiakajlfmakaaDoor
open Go.Fw
theorem AsksAt.app {I : Imm} : ∀ {qs : List Sp.Qn} {xs : List Value} {rs : List Sp.Qn} {ys : List Value}, AsksAt I qs xs → AsksAt I rs ys → AsksAt I (qs ++ rs) (xs ++ ys)
  | [], xs, rs, ys, h, g => by
    obtain rfl : xs = [] := h
    exact g
  | q :: qs, _, rs, ys, ⟨c, r, e, h1, h2⟩, g => ⟨c, r ++ ys, by rw [e, List.append_assoc], h1, AsksAt.app h2 g⟩
theorem AsksAt.one {I : Imm} : ∀ {qs : List Sp.Qn} {xs : List Value}, AsksAt I qs xs → ∀ u ∈ xs, u.oneCell' = true
  | [], xs, h, u, hu => by
    obtain rfl : xs = [] := h
    cases hu
  | q :: qs, _, ⟨c, r, e, ⟨a, cp, hc, _⟩, h2⟩, u, hu => by
    rw [e, hc] at hu
    rcases List.mem_append.1 hu with hu | hu
    · have : (askV q.id q.kind q.fr q.to q.text a q.args.length cp).all (·.oneCell') = true := rfl
      exact List.all_eq_true.1 this u hu
    · exact AsksAt.one h2 u hu
theorem bytes_one (l : List UInt8) : ∀ u ∈ l.map byteV, u.oneCell' = true := by
  intro u hu
  obtain ⟨c, _, rfl⟩ := List.mem_map.1 hu
  rfl
theorem fr_same' {I : Imm} {qs : List Sp.Qn} {a b : Option Addr} {c d n m : Nat} {xs ys : List Value} (hn : n = qs.length) (hm : m = qs.length) (hr : RowI I 41 6 (.slice a n c) n xs) (hx : AsksAt I qs xs)
    (hr2 : RowI I 41 6 (.slice b m d) m ys) (hy : AsksAt I qs ys) (hl : qs.length ≤ 1099511627776) (hE : ∀ q ∈ qs, Sp.qErr q = 0) :
    CalM Tryd.prog 22 #[.slice a n c, .slice b m d] I [] (fun v _ H' => v = .bool true ∧ H' = []) := by
  subst hn; subst hm
  exact fr_same hr hx hr2 hy hl hE
set_option maxHeartbeats 16000000 in
theorem sp_fjoin {a b : List UInt8} {aa ab : Option Addr} {ca cb : Nat} (I : Imm) (hC : ConvF I) (ha : RowI I 5 1 (.slice aa a.length ca) a.length (a.map byteV)) (hb : RowI I 5 1 (.slice ab b.length cb) b.length (b.map byteV))
    (hla : a.length ≤ 1048576) (hlb : b.length ≤ 1048576) :
    CalM Tryd.prog 6 #[.slice aa a.length ca, .slice ab b.length cb] I [] (fun v _ H' => v = .bool true ∧ H' = []) := by
  refine CalM.of fun w E hm => enter (N := 72) Tryd.func6 rfl [(0, .slice aa a.length ca), (1, .slice ab b.length cb)] args2 rfl ?_
  have hA := fun (J : Imm) (m : Le I J) => fr_alive J (hC.le m)
  have hErr := fun (J : Imm) (m : Le I J) (s : List UInt8) (e p n : Nat) (ba : Option Addr) (cp : Nat) (hs : Sp.asks s = .error (e, p)) (hl : s.length ≤ 1099511627776) (hn : n = s.length) (hr : RowI J 5 1 (.slice ba n cp) n (s.map byteV)) => fr_parse_err hn hr hl (hC.le m) hs
  have hOk := fun (J : Imm) (m : Le I J) (s : List UInt8) (qs : List Sp.Qn) (n : Nat) (ba : Option Addr) (cp : Nat) (hs : Sp.asks s = .ok qs) (hl : s.length ≤ 1099511627776) (hn : n = s.length) (hr : RowI J 5 1 (.slice ba n cp) n (s.map byteV)) => fr_parse_ok hn hr hl (hC.le m) hs
  have hlab : (a ++ b).length ≤ 1099511627776 := by rw [List.length_append]; omega
  cases hx : Sp.asks a with
  | error r =>
    obtain ⟨e, p⟩ := r
    have hne := (Sp.asksF_err a _ _ _ _ hx).2
    cases hy : Sp.asks b with
    | error r2 =>
      obtain ⟨e2, p2⟩ := r2
      repeat' (first
        | (refine m_call (d := 11) hm (by rfl) (by rfl) (by rfl) (by first | exact pm0 | exact pm1_0 | exact pm1_1 | exact pm1_2 | exact pm1_3 | exact pm2_0 | exact pm2_1 | exact pm2_2 | exact pm2_3 | exact pm2_4 | exact pm3_0 | exact pm3_1 | exact pm3_2) (hA _ (Le.refl _)) ?_; clear hm; rintro _ I2 _ _ ⟨rfl, rfl⟩ hle hm; have hleI2 := hle; try simp only [setn] at hm)
        | (refine m_call (d := 15) hm (by rfl) (by rfl) (by rfl) (by first | exact pm0 | exact pm1_0 | exact pm1_1 | exact pm1_2 | exact pm1_3 | exact pm2_0 | exact pm2_1 | exact pm2_2 | exact pm2_3 | exact pm2_4 | exact pm3_0 | exact pm3_1 | exact pm3_2) (hErr I2 hleI2 a e p _ _ _ hx (by omega) rfl (ha.le hleI2)) ?_; clear hm; rintro _ I3 _ _ ⟨rfl, rfl⟩ hle hm; have hleI3 := hle; try simp only [setn] at hm)
        | (refine m_call (d := 20) hm (by rfl) (by rfl) (by rfl) (by first | exact pm0 | exact pm1_0 | exact pm1_1 | exact pm1_2 | exact pm1_3 | exact pm2_0 | exact pm2_1 | exact pm2_2 | exact pm2_3 | exact pm2_4 | exact pm3_0 | exact pm3_1 | exact pm3_2) (hErr I3 (hleI2.trans hleI3) b e2 p2 _ _ _ hy (by omega) rfl (hb.le (hleI2.trans hleI3))) ?_; clear hm; rintro _ I4 _ _ ⟨rfl, rfl⟩ hle hm; have hleI4 := hle; try simp only [setn] at hm)
        | (refine m_allocS (d := 6) hm (by rfl) (by rfl) ?_; clear hm; intro b6 _ hm)
        | (refine m_allocS (d := 8) hm (by rfl) (by rfl) ?_; clear hm; intro b8 _ hm)
        | refine m_load1 hm (by rfl) (by rfl) (by rfl) (by first | exact gt0 | exact gt1 | exact gt2 | exact gt3 | exact gt4 | exact gt5 | exact gt6) (by rfl) ?_
        | (refine m_storeAll hm (by rfl) (by rfl) (by rfl) (by rfl) (by first | exact gt0 | exact gt1 | exact gt2 | exact gt3 | exact gt4 | exact gt5 | exact gt6) (by rfl) (by rfl) (by rfl) ?_; clear hm; intro _ hm; try simp only [setn] at hm)
        | refine op_move (by rfl) (by rfl) (by rfl) ?_
        | refine op_assign (by rfl) (by rfl) (by rfl) ?_
        | refine op_neq (by rfl) (by rfl) (by rfl) (by rfl) ?_
        | refine op_not (by rfl) (by rfl) (by rfl) ?_
        | refine op_extract (by rfl) (by rfl) (by rfl) (by rfl) ?_
        | refine op_fieldAddr (by rfl) (by rfl) (by rfl) ?_
        | refine wl_nil ?_
        | refine at_then_normal ?_
        | refine at_then_ret ?_
        | refine wc_seq ?_
        | refine wc_region ?_
        | refine wc_skip ?_
        | refine wc_ret ?_
        | refine at_ret1 (by rfl) (by rfl) ?_
        | refine wc_cond_false (by rfl) ?_
        | (refine wc_cond_dec (by rfl) (fun _ => ?_) (fun _ => ?_) <;> (try first | contradiction | (exfalso; omega))))
      all_goals try (exfalso; omega)
      all_goals exact ⟨I4, [], ⟨rfl, rfl⟩, hm.left (H := [])⟩
    | ok ys =>
      repeat' (first
        | (refine m_call (d := 11) hm (by rfl) (by rfl) (by rfl) (by first | exact pm0 | exact pm1_0 | exact pm1_1 | exact pm1_2 | exact pm1_3 | exact pm2_0 | exact pm2_1 | exact pm2_2 | exact pm2_3 | exact pm2_4 | exact pm3_0 | exact pm3_1 | exact pm3_2) (hA _ (Le.refl _)) ?_; clear hm; rintro _ I2 _ _ ⟨rfl, rfl⟩ hle hm; have hleI2 := hle; try simp only [setn] at hm)
        | (refine m_call (d := 15) hm (by rfl) (by rfl) (by rfl) (by first | exact pm0 | exact pm1_0 | exact pm1_1 | exact pm1_2 | exact pm1_3 | exact pm2_0 | exact pm2_1 | exact pm2_2 | exact pm2_3 | exact pm2_4 | exact pm3_0 | exact pm3_1 | exact pm3_2) (hErr I2 hleI2 a e p _ _ _ hx (by omega) rfl (ha.le hleI2)) ?_; clear hm; rintro _ I3 _ _ ⟨rfl, rfl⟩ hle hm; have hleI3 := hle; try simp only [setn] at hm)
        | (refine m_call (d := 20) hm (by rfl) (by rfl) (by rfl) (by first | exact pm0 | exact pm1_0 | exact pm1_1 | exact pm1_2 | exact pm1_3 | exact pm2_0 | exact pm2_1 | exact pm2_2 | exact pm2_3 | exact pm2_4 | exact pm3_0 | exact pm3_1 | exact pm3_2) (hOk I3 (hleI2.trans hleI3) b ys _ _ _ hy (by omega) rfl (hb.le (hleI2.trans hleI3))) ?_; clear hm; rintro _ I4 _ _ ⟨rfl, ya, yc, yv, rfl, hyr, hyt, _⟩ hle hm; have hleI4 := hle; try simp only [setn] at hm)
        | (refine m_allocS (d := 6) hm (by rfl) (by rfl) ?_; clear hm; intro b6 _ hm)
        | (refine m_allocS (d := 8) hm (by rfl) (by rfl) ?_; clear hm; intro b8 _ hm)
        | refine m_load1 hm (by rfl) (by rfl) (by rfl) (by first | exact gt0 | exact gt1 | exact gt2 | exact gt3 | exact gt4 | exact gt5 | exact gt6) (by rfl) ?_
        | (refine m_storeAll hm (by rfl) (by rfl) (by rfl) (by rfl) (by first | exact gt0 | exact gt1 | exact gt2 | exact gt3 | exact gt4 | exact gt5 | exact gt6) (by rfl) (by rfl) (by rfl) ?_; clear hm; intro _ hm; try simp only [setn] at hm)
        | refine op_move (by rfl) (by rfl) (by rfl) ?_
        | refine op_assign (by rfl) (by rfl) (by rfl) ?_
        | refine op_neq (by rfl) (by rfl) (by rfl) (by rfl) ?_
        | refine op_not (by rfl) (by rfl) (by rfl) ?_
        | refine op_extract (by rfl) (by rfl) (by rfl) (by rfl) ?_
        | refine op_fieldAddr (by rfl) (by rfl) (by rfl) ?_
        | refine wl_nil ?_
        | refine at_then_normal ?_
        | refine at_then_ret ?_
        | refine wc_seq ?_
        | refine wc_region ?_
        | refine wc_skip ?_
        | refine wc_ret ?_
        | refine at_ret1 (by rfl) (by rfl) ?_
        | refine wc_cond_false (by rfl) ?_
        | (refine wc_cond_dec (by rfl) (fun _ => ?_) (fun _ => ?_) <;> (try first | contradiction | (exfalso; omega))))
      all_goals try (exfalso; omega)
      all_goals exact ⟨I4, [], ⟨rfl, rfl⟩, hm.left (H := [])⟩
  | ok xs =>
    have hj := Sp.asks_app a b xs hx
    cases hy : Sp.asks b with
    | error r2 =>
      obtain ⟨e2, p2⟩ := r2
      obtain ⟨hp2, hne⟩ := Sp.asksF_err b _ _ _ _ hy
      rw [hy] at hj
      dsimp only at hj
      repeat' (first
        | (refine m_call (d := 11) hm (by rfl) (by rfl) (by rfl) (by first | exact pm0 | exact pm1_0 | exact pm1_1 | exact pm1_2 | exact pm1_3 | exact pm2_0 | exact pm2_1 | exact pm2_2 | exact pm2_3 | exact pm2_4 | exact pm3_0 | exact pm3_1 | exact pm3_2) (hA _ (Le.refl _)) ?_; clear hm; rintro _ I2 _ _ ⟨rfl, rfl⟩ hle hm; have hleI2 := hle; try simp only [setn] at hm)
        | (refine m_call (d := 15) hm (by rfl) (by rfl) (by rfl) (by first | exact pm0 | exact pm1_0 | exact pm1_1 | exact pm1_2 | exact pm1_3 | exact pm2_0 | exact pm2_1 | exact pm2_2 | exact pm2_3 | exact pm2_4 | exact pm3_0 | exact pm3_1 | exact pm3_2) (hOk I2 hleI2 a xs _ _ _ hx (by omega) rfl (ha.le hleI2)) ?_; clear hm; rintro _ I3 _ _ ⟨rfl, xa, xc, xv, rfl, hxr, hxt, _⟩ hle hm; have hleI3 := hle; try simp only [setn] at hm)
        | (refine m_call (d := 20) hm (by rfl) (by rfl) (by rfl) (by first | exact pm0 | exact pm1_0 | exact pm1_1 | exact pm1_2 | exact pm1_3 | exact pm2_0 | exact pm2_1 | exact pm2_2 | exact pm2_3 | exact pm2_4 | exact pm3_0 | exact pm3_1 | exact pm3_2) (hErr I3 (hleI2.trans hleI3) b e2 p2 _ _ _ hy (by omega) rfl (hb.le (hleI2.trans hleI3))) ?_; clear hm; rintro _ I4 _ _ ⟨rfl, rfl⟩ hle hm; have hleI4 := hle; try simp only [setn] at hm)
        | (refine m_buildRow (d := 27) hm (by rfl) (by rfl) (by rfl) (by rfl) (by rfl) (by rfl) (by rfl) (by rfl) (by rfl) ?_; clear hm; intro b27 _ hm)
        | (refine m_appendI (d := 29) hm (by rfl) (by rfl) (by rfl) (by rfl) (by first | exact gt0 | exact gt1 | exact gt2 | exact gt3 | exact gt4 | exact gt5 | exact gt6) (((ha.le hleI2).le hleI3).le hleI4) (bytes_one _) (by omega) (by omega) ?_; clear hm; intro a29 cp29 _ hm; try simp only [setn] at hm)
        | (refine m_appendI (d := 31) hm (by rfl) (by rfl) (by rfl) (by rfl) (by first | exact gt0 | exact gt1 | exact gt2 | exact gt3 | exact gt4 | exact gt5 | exact gt6) (((hb.le hleI2).le hleI3).le hleI4) (bytes_one _) (by omega) (by omega) ?_; clear hm; intro a31 cp31 _ hm; try simp only [setn] at hm; obtain ⟨I5, hle5, hm5, hr5⟩ := hm.freeze; clear hm; have hm := hm5; clear hm5; replace hr5 : RowI I5 5 1 (.slice a31 (0 + a.length + b.length) cp31) (0 + a.length + b.length) ((a ++ b).map byteV) := by { rw [List.map_append]; exact hr5 })
        | (refine m_call (d := 32) hm (by rfl) (by rfl) (by rfl) (by first | exact pm0 | exact pm1_0 | exact pm1_1 | exact pm1_2 | exact pm1_3 | exact pm2_0 | exact pm2_1 | exact pm2_2 | exact pm2_3 | exact pm2_4 | exact pm3_0 | exact pm3_1 | exact pm3_2) (hErr I5 (((hleI2.trans hleI3).trans hleI4).trans hle5) (a ++ b) e2 (a.length + p2) _ _ _ hj hlab (by rw [List.length_append]; omega) hr5) ?_; clear hm; rintro _ I6 _ _ ⟨rfl, rfl⟩ hle hm; have hleI6 := hle; try simp only [setn] at hm)
        | (refine m_allocS (d := 6) hm (by rfl) (by rfl) ?_; clear hm; intro b6 _ hm)
        | (refine m_allocS (d := 8) hm (by rfl) (by rfl) ?_; clear hm; intro b8 _ hm)
        | (refine m_allocS (d := 10) hm (by rfl) (by rfl) ?_; clear hm; intro b10 _ hm)
        | refine m_load1 hm (by rfl) (by rfl) (by rfl) (by first | exact gt0 | exact gt1 | exact gt2 | exact gt3 | exact gt4 | exact gt5 | exact gt6) (by rfl) ?_
        | (refine m_storeAll hm (by rfl) (by rfl) (by rfl) (by rfl) (by first | exact gt0 | exact gt1 | exact gt2 | exact gt3 | exact gt4 | exact gt5 | exact gt6) (by rfl) (by rfl) (by rfl) ?_; clear hm; intro _ hm; try simp only [setn] at hm)
        | refine op_move (by rfl) (by rfl) (by rfl) ?_
        | refine op_assign (by rfl) (by rfl) (by rfl) ?_
        | refine op_pick_true (by rfl) (by rfl) (by rfl) (by rfl) ?_
        | refine op_geq (by rfl) (by rfl) (by rfl) (by rfl) ?_
        | refine op_eql (by rfl) (by rfl) (by rfl) (by rfl) ?_
        | refine op_neq (by rfl) (by rfl) (by rfl) (by rfl) ?_
        | refine op_len_slice (by rfl) (by rfl) (by rfl) ?_
        | refine op_not (by rfl) (by rfl) (by rfl) ?_
        | refine op_extract (by rfl) (by rfl) (by rfl) (by rfl) ?_
        | refine op_sub (by rfl) (by rfl) (by rfl) (by rfl) (by omega) ?_
        | refine op_fieldAddr (by rfl) (by rfl) (by rfl) ?_
        | (refine wl_split_dec (by rfl) (by rfl) (by rfl) (fun _ => ?_) (fun _ => ?_) <;> (try first | contradiction | (exfalso; omega)))
        | refine wl_nil ?_
        | refine at_then_normal ?_
        | refine at_then_ret ?_
        | refine wc_seq ?_
        | refine wc_region ?_
        | refine wc_skip ?_
        | refine wc_ret ?_
        | refine at_ret1 (by rfl) (by rfl) ?_
        | refine wc_cond_false (by rfl) ?_
        | (refine wc_cond_dec (by rfl) (fun _ => ?_) (fun _ => ?_) <;> (try first | contradiction | (exfalso; omega))))
      all_goals try (exfalso; omega)
      exact ⟨I6, [], ⟨by rw [decide_eq_true (show ((a.length + p2 : Nat) : Int) - (a.length : Int) = (p2 : Int) by omega)], rfl⟩, hm.left (H := [])⟩
    | ok ys =>
      rw [hy] at hj
      dsimp only at hj
      have hE : ∀ q ∈ xs ++ ys, Sp.qErr q = 0 := fun q hq => ((Sp.asks_wr (a ++ b) _ hj).2 q hq).2
      repeat' (first
        | (refine m_call (d := 11) hm (by rfl) (by rfl) (by rfl) (by first | exact pm0 | exact pm1_0 | exact pm1_1 | exact pm1_2 | exact pm1_3 | exact pm2_0 | exact pm2_1 | exact pm2_2 | exact pm2_3 | exact pm2_4 | exact pm3_0 | exact pm3_1 | exact pm3_2) (hA _ (Le.refl _)) ?_; clear hm; rintro _ I2 _ _ ⟨rfl, rfl⟩ hle hm; have hleI2 := hle; try simp only [setn] at hm)
        | (refine m_call (d := 15) hm (by rfl) (by rfl) (by rfl) (by first | exact pm0 | exact pm1_0 | exact pm1_1 | exact pm1_2 | exact pm1_3 | exact pm2_0 | exact pm2_1 | exact pm2_2 | exact pm2_3 | exact pm2_4 | exact pm3_0 | exact pm3_1 | exact pm3_2) (hOk I2 hleI2 a xs _ _ _ hx (by omega) rfl (ha.le hleI2)) ?_; clear hm; rintro _ I3 _ _ ⟨rfl, xa, xc, xv, rfl, hxr, hxt, hxl⟩ hle hm; have hleI3 := hle; try simp only [setn] at hm)
        | (refine m_call (d := 20) hm (by rfl) (by rfl) (by rfl) (by first | exact pm0 | exact pm1_0 | exact pm1_1 | exact pm1_2 | exact pm1_3 | exact pm2_0 | exact pm2_1 | exact pm2_2 | exact pm2_3 | exact pm2_4 | exact pm3_0 | exact pm3_1 | exact pm3_2) (hOk I3 (hleI2.trans hleI3) b ys _ _ _ hy (by omega) rfl (hb.le (hleI2.trans hleI3))) ?_; clear hm; rintro _ I4 _ _ ⟨rfl, ya, yc, yv, rfl, hyr, hyt, hyl⟩ hle hm; have hleI4 := hle; try simp only [setn] at hm)
        | (refine m_buildRow (d := 27) hm (by rfl) (by rfl) (by rfl) (by rfl) (by rfl) (by rfl) (by rfl) (by rfl) (by rfl) ?_; clear hm; intro b27 _ hm)
        | (refine m_appendI (d := 29) hm (by rfl) (by rfl) (by rfl) (by rfl) (by first | exact gt0 | exact gt1 | exact gt2 | exact gt3 | exact gt4 | exact gt5 | exact gt6) (((ha.le hleI2).le hleI3).le hleI4) (bytes_one _) (by omega) (by omega) ?_; clear hm; intro a29 cp29 _ hm; try simp only [setn] at hm)
        | (refine m_appendI (d := 31) hm (by rfl) (by rfl) (by rfl) (by rfl) (by first | exact gt0 | exact gt1 | exact gt2 | exact gt3 | exact gt4 | exact gt5 | exact gt6) (((hb.le hleI2).le hleI3).le hleI4) (bytes_one _) (by omega) (by omega) ?_; clear hm; intro a31 cp31 _ hm; try simp only [setn] at hm; obtain ⟨I5, hle5, hm5, hr5⟩ := hm.freeze; clear hm; have hm := hm5; clear hm5; replace hr5 : RowI I5 5 1 (.slice a31 (0 + a.length + b.length) cp31) (0 + a.length + b.length) ((a ++ b).map byteV) := by { rw [List.map_append]; exact hr5 })
        | (refine m_call (d := 32) hm (by rfl) (by rfl) (by rfl) (by first | exact pm0 | exact pm1_0 | exact pm1_1 | exact pm1_2 | exact pm1_3 | exact pm2_0 | exact pm2_1 | exact pm2_2 | exact pm2_3 | exact pm2_4 | exact pm3_0 | exact pm3_1 | exact pm3_2) (hOk I5 (((hleI2.trans hleI3).trans hleI4).trans hle5) (a ++ b) (xs ++ ys) _ _ _ hj hlab (by rw [List.length_append]; omega) hr5) ?_; clear hm; rintro _ I6 _ _ ⟨rfl, za, zc, zv, rfl, hzr, hzt, hzl⟩ hle hm; have hleI6 := hle; try simp only [setn] at hm)
        | (refine m_buildRow (d := 65) hm (by rfl) (by rfl) (by rfl) (by rfl) (by rfl) (by rfl) (by rfl) (by rfl) (by rfl) ?_; clear hm; intro b65 _ hm)
        | (refine m_appendI (d := 67) hm (by rfl) (by rfl) (by rfl) (by rfl) (by first | exact gt0 | exact gt1 | exact gt2 | exact gt3 | exact gt4 | exact gt5 | exact gt6) (((hxr.le hleI4).le hle5).le hleI6) hxt.one (by omega) (by omega) ?_; clear hm; intro a67 cp67 _ hm; try simp only [setn] at hm)
        | (refine m_appendI (d := 69) hm (by rfl) (by rfl) (by rfl) (by rfl) (by first | exact gt0 | exact gt1 | exact gt2 | exact gt3 | exact gt4 | exact gt5 | exact gt6) ((hyr.le hle5).le hleI6) hyt.one (by omega) (by omega) ?_; clear hm; intro a69 cp69 _ hm; try simp only [setn] at hm; obtain ⟨I7, hle7, hm7, hr7⟩ := hm.freeze; clear hm; have hm := hm7; clear hm7; replace hr7 : RowI I7 41 6 (.slice a69 (0 + xs.length + ys.length) cp69) (0 + xs.length + ys.length) (xv ++ yv) := hr7)
        | (refine m_call (d := 70) hm (by rfl) (by rfl) (by rfl) (by first | exact pm0 | exact pm1_0 | exact pm1_1 | exact pm1_2 | exact pm1_3 | exact pm2_0 | exact pm2_1 | exact pm2_2 | exact pm2_3 | exact pm2_4 | exact pm3_0 | exact pm3_1 | exact pm3_2) (fr_same' rfl (by rw [List.length_append]; omega) (hzr.le hle7) (hzt.le hle7) hr7 (AsksAt.app ((((hxt.le hleI4).le hle5).le hleI6).le hle7) (((hyt.le hle5).le hleI6).le hle7)) (by rw [List.length_append]; omega) hE) ?_; clear hm; rintro _ I8 _ _ ⟨rfl, rfl⟩ hle hm; have hleI8 := hle; try simp only [setn] at hm)
        | (refine m_allocS (d := 6) hm (by rfl) (by rfl) ?_; clear hm; intro b6 _ hm)
        | (refine m_allocS (d := 8) hm (by rfl) (by rfl) ?_; clear hm; intro b8 _ hm)
        | (refine m_allocS (d := 10) hm (by rfl) (by rfl) ?_; clear hm; intro b10 _ hm)
        | refine m_load1 hm (by rfl) (by rfl) (by rfl) (by first | exact gt0 | exact gt1 | exact gt2 | exact gt3 | exact gt4 | exact gt5 | exact gt6) (by rfl) ?_
        | (refine m_storeAll hm (by rfl) (by rfl) (by rfl) (by rfl) (by first | exact gt0 | exact gt1 | exact gt2 | exact gt3 | exact gt4 | exact gt5 | exact gt6) (by rfl) (by rfl) (by rfl) ?_; clear hm; intro _ hm; try simp only [setn] at hm)
        | refine op_move (by rfl) (by rfl) (by rfl) ?_
        | refine op_assign (by rfl) (by rfl) (by rfl) ?_
        | refine op_pick_true (by rfl) (by rfl) (by rfl) (by rfl) ?_
        | refine op_eql (by rfl) (by rfl) (by rfl) (by rfl) ?_
        | refine op_neq (by rfl) (by rfl) (by rfl) (by rfl) ?_
        | refine op_not (by rfl) (by rfl) (by rfl) ?_
        | refine op_extract (by rfl) (by rfl) (by rfl) (by rfl) ?_
        | refine op_fieldAddr (by rfl) (by rfl) (by rfl) ?_
        | refine wl_nil ?_
        | refine at_then_normal ?_
        | refine wc_seq ?_
        | refine wc_region ?_
        | refine wc_skip ?_
        | refine wc_ret ?_
        | refine at_ret1 (by rfl) (by rfl) ?_
        | refine wc_cond_false (by rfl) ?_)
      all_goals try (exfalso; omega)
      exact ⟨I8, [], ⟨rfl, rfl⟩, hm.left (H := [])⟩
set_option maxHeartbeats 16000000 in
theorem sp_fturns {qs : List Sp.Qn} {b : List UInt8} {la ab : Option Addr} {lc cb : Nat} {lv : List Value} (I : Imm) (hC : ConvF I) (hr : RowI I 41 6 (.slice la qs.length lc) qs.length lv) (hat : AsksAt I qs lv) (hf : ∀ q ∈ qs, q.fits)
    (hb : RowI I 5 1 (.slice ab b.length cb) b.length (b.map byteV)) (hlq : qs.length ≤ 1048576) (hlb : b.length ≤ 1048576) :
    CalM Tryd.prog 5 #[.slice la qs.length lc, .slice ab b.length cb] I [] (fun v _ H' => v = .bool true ∧ H' = []) := by
  refine CalM.of fun w E hm => enter (N := 74) Tryd.func5 rfl [(0, .slice la qs.length lc), (1, .slice ab b.length cb)] args2 rfl ?_
  have hA := fun (J : Imm) (m : Le I J) => fr_alive J (hC.le m)
  have hErr := fun (J : Imm) (m : Le I J) (s : List UInt8) (e p n : Nat) (ba : Option Addr) (cp : Nat) (hs : Sp.asks s = .error (e, p)) (hl : s.length ≤ 1099511627776) (hn : n = s.length) (hr : RowI J 5 1 (.slice ba n cp) n (s.map byteV)) => fr_parse_err hn hr hl (hC.le m) hs
  have hOk := fun (J : Imm) (m : Le I J) (s : List UInt8) (qs : List Sp.Qn) (n : Nat) (ba : Option Addr) (cp : Nat) (hs : Sp.asks s = .ok qs) (hl : s.length ≤ 1099511627776) (hn : n = s.length) (hr : RowI J 5 1 (.slice ba n cp) n (s.map byteV)) => fr_parse_ok hn hr hl (hC.le m) hs
  have hBy := fun (J : Imm) (m : Le I J) => fr_bytes (hr.le m) (hat.le m) (by omega) hf (hC.le m)
  cases hbad : Sp.badAt qs 0 with
  | some r =>
    obtain ⟨e, p⟩ := r
    have hB := fun (J : Imm) (m : Le I J) => (hBy J m).mono (Post' := fun v _ H' => H' = [] ∧ v = .tuple #[.slice none 0 0, .agg #[nt e, nt p]] ∧ e ≠ 0) (fun v I' H' _ ⟨h1, h2⟩ => ⟨h1, by rw [hbad] at h2; exact h2⟩)
    clear hBy
    cases hy : Sp.asks b with
    | error r2 =>
      obtain ⟨e2, p2⟩ := r2
      obtain ⟨hp2, hne⟩ := Sp.asksF_err b _ _ _ _ hy
      repeat' (first
        | (refine m_call (d := 12) hm (by rfl) (by rfl) (by rfl) (by first | exact pm0 | exact pm1_0 | exact pm1_1 | exact pm1_2 | exact pm1_3 | exact pm2_0 | exact pm2_1 | exact pm2_2 | exact pm2_3 | exact pm2_4 | exact pm3_0 | exact pm3_1 | exact pm3_2) (hA _ (Le.refl _)) ?_; clear hm; rintro _ I2 _ _ ⟨rfl, rfl⟩ hle hm; have hleI2 := hle; try simp only [setn] at hm)
        | (refine m_call (d := 16) hm (by rfl) (by rfl) (by rfl) (by first | exact pm0 | exact pm1_0 | exact pm1_1 | exact pm1_2 | exact pm1_3 | exact pm2_0 | exact pm2_1 | exact pm2_2 | exact pm2_3 | exact pm2_4 | exact pm3_0 | exact pm3_1 | exact pm3_2) (hB I2 hleI2) ?_; clear hm; rintro _ I3 _ _ ⟨rfl, rfl, hne1⟩ hle hm; have hleI3 := hle; try simp only [setn] at hm)
        | (refine m_call (d := 38) hm (by rfl) (by rfl) (by rfl) (by first | exact pm0 | exact pm1_0 | exact pm1_1 | exact pm1_2 | exact pm1_3 | exact pm2_0 | exact pm2_1 | exact pm2_2 | exact pm2_3 | exact pm2_4 | exact pm3_0 | exact pm3_1 | exact pm3_2) (hErr I3 (hleI2.trans hleI3) b e2 p2 _ _ _ hy (by omega) rfl (hb.le (hleI2.trans hleI3))) ?_; clear hm; rintro _ I4 _ _ ⟨rfl, rfl⟩ hle hm; have hleI4 := hle; try simp only [setn] at hm)
        | (refine m_allocS (d := 6) hm (by rfl) (by rfl) ?_; clear hm; intro b6 _ hm)
        | (refine m_allocS (d := 10) hm (by rfl) (by rfl) ?_; clear hm; intro b10 _ hm)
        | refine m_load1 hm (by rfl) (by rfl) (by rfl) (by first | exact gt0 | exact gt1 | exact gt2 | exact gt3 | exact gt4 | exact gt5 | exact gt6) (by rfl) ?_
        | (refine m_storeAll hm (by rfl) (by rfl) (by rfl) (by rfl) (by first | exact gt0 | exact gt1 | exact gt2 | exact gt3 | exact gt4 | exact gt5 | exact gt6) (by rfl) (by rfl) (by rfl) ?_; clear hm; intro _ hm; try simp only [setn] at hm)
        | refine op_move (by rfl) (by rfl) (by rfl) ?_
        | refine op_assign (by rfl) (by rfl) (by rfl) ?_
        | refine op_pick_true (by rfl) (by rfl) (by rfl) (by rfl) ?_
        | refine op_lss (by rfl) (by rfl) (by rfl) (by rfl) ?_
        | refine op_geq (by rfl) (by rfl) (by rfl) (by rfl) ?_
        | refine op_eql (by rfl) (by rfl) (by rfl) (by rfl) ?_
        | refine op_neq (by rfl) (by rfl) (by rfl) (by rfl) ?_
        | refine op_len_slice (by rfl) (by rfl) (by rfl) ?_
        | refine op_not (by rfl) (by rfl) (by rfl) ?_
        | refine op_extract (by rfl) (by rfl) (by rfl) (by rfl) ?_
        | refine op_fieldAddr (by rfl) (by rfl) (by rfl) ?_
        | refine wl_nil ?_
        | refine at_then_normal ?_
        | refine at_then_ret ?_
        | refine wc_seq ?_
        | refine wc_region ?_
        | refine wc_skip ?_
        | refine wc_ret ?_
        | refine at_ret1 (by rfl) (by rfl) ?_
        | refine wc_cond_false (by rfl) ?_
        | (refine wc_cond_dec (by rfl) (fun _ => ?_) (fun _ => ?_) <;> (try first | contradiction | (exfalso; omega))))
      all_goals try (exfalso; omega)
      exact ⟨I4, [], ⟨by rw [decide_eq_true (show (p2 : Int) < (b.length : Int) by omega)], rfl⟩, hm.left (H := [])⟩
    | ok ms =>
      obtain ⟨hwr, hfit⟩ := Sp.asks_wr b ms hy
      repeat' (first
        | (refine m_call (d := 12) hm (by rfl) (by rfl) (by rfl) (by first | exact pm0 | exact pm1_0 | exact pm1_1 | exact pm1_2 | exact pm1_3 | exact pm2_0 | exact pm2_1 | exact pm2_2 | exact pm2_3 | exact pm2_4 | exact pm3_0 | exact pm3_1 | exact pm3_2) (hA _ (Le.refl _)) ?_; clear hm; rintro _ I2 _ _ ⟨rfl, rfl⟩ hle hm; have hleI2 := hle; try simp only [setn] at hm)
        | (refine m_call (d := 16) hm (by rfl) (by rfl) (by rfl) (by first | exact pm0 | exact pm1_0 | exact pm1_1 | exact pm1_2 | exact pm1_3 | exact pm2_0 | exact pm2_1 | exact pm2_2 | exact pm2_3 | exact pm2_4 | exact pm3_0 | exact pm3_1 | exact pm3_2) (hB I2 hleI2) ?_; clear hm; rintro _ I3 _ _ ⟨rfl, rfl, hne1⟩ hle hm; have hleI3 := hle; try simp only [setn] at hm)
        | (refine m_call (d := 38) hm (by rfl) (by rfl) (by rfl) (by first | exact pm0 | exact pm1_0 | exact pm1_1 | exact pm1_2 | exact pm1_3 | exact pm2_0 | exact pm2_1 | exact pm2_2 | exact pm2_3 | exact pm2_4 | exact pm3_0 | exact pm3_1 | exact pm3_2) (hOk I3 (hleI2.trans hleI3) b ms _ _ _ hy (by omega) rfl (hb.le (hleI2.trans hleI3))) ?_; clear hm; rintro _ I4 _ _ ⟨rfl, ma, mc, mv, rfl, hmr, hmt, hml⟩ hle hm; have hleI4 := hle; try simp only [setn] at hm)
        | (refine m_call (d := 61) hm (by rfl) (by rfl) (by rfl) (by first | exact pm0 | exact pm1_0 | exact pm1_1 | exact pm1_2 | exact pm1_3 | exact pm2_0 | exact pm2_1 | exact pm2_2 | exact pm2_3 | exact pm2_4 | exact pm3_0 | exact pm3_1 | exact pm3_2) (fr_bytes_ok rfl hmr hmt (by omega) hfit (hC.le ((hleI2.trans hleI3).trans hleI4)) hwr) ?_; clear hm; rintro _ I5 _ _ ⟨rfl, xa, xc, rfl, hxr, _⟩ hle hm; have hleI5 := hle; try simp only [setn] at hm)
        | (refine i_bytesStr (d := 69) hm (by rfl) (by rfl) (by rfl) hxr (by rfl) ?_)
        | (refine i_bytesStr (d := 71) hm (by rfl) (by rfl) (by rfl) (hb.le (((hleI2.trans hleI3).trans hleI4).trans hleI5)) (by rfl) ?_)
        | (refine m_allocS (d := 6) hm (by rfl) (by rfl) ?_; clear hm; intro b6 _ hm)
        | (refine m_allocS (d := 10) hm (by rfl) (by rfl) ?_; clear hm; intro b10 _ hm)
        | refine m_load1 hm (by rfl) (by rfl) (by rfl) (by first | exact gt0 | exact gt1 | exact gt2 | exact gt3 | exact gt4 | exact gt5 | exact gt6) (by rfl) ?_
        | (refine m_storeAll hm (by rfl) (by rfl) (by rfl) (by rfl) (by first | exact gt0 | exact gt1 | exact gt2 | exact gt3 | exact gt4 | exact gt5 | exact gt6) (by rfl) (by rfl) (by rfl) ?_; clear hm; intro _ hm; try simp only [setn] at hm)
        | refine op_move (by rfl) (by rfl) (by rfl) ?_
        | refine op_assign (by rfl) (by rfl) (by rfl) ?_
        | refine op_pick_true (by rfl) (by rfl) (by rfl) (by rfl) ?_
        | refine op_eql (by rfl) (by rfl) (by rfl) (by rfl) ?_
        | refine op_neq (by rfl) (by rfl) (by rfl) (by rfl) ?_
        | refine op_eql_str (by rfl) (by rfl) (by rfl) (by rfl) ?_
        | refine op_not (by rfl) (by rfl) (by rfl) ?_
        | refine op_extract (by rfl) (by rfl) (by rfl) (by rfl) ?_
        | refine op_fieldAddr (by rfl) (by rfl) (by rfl) ?_
        | refine wl_nil ?_
        | refine at_then_normal ?_
        | refine wc_seq ?_
        | refine wc_region ?_
        | refine wc_skip ?_
        | refine wc_ret ?_
        | refine at_ret1 (by rfl) (by rfl) ?_
        | refine wc_cond_false (by rfl) ?_
        | (refine wc_cond_dec (by rfl) (fun _ => ?_) (fun _ => ?_) <;> (try first | contradiction | (exfalso; omega))))
      all_goals try (exfalso; first | omega | contradiction)
      exact ⟨I5, [], ⟨by rw [decide_eq_true (show b = b from rfl)], rfl⟩, hm.left (H := [])⟩
  | none =>
    have hqE := Sp.badAt_ok hbad
    have hfit := fun q (hq : q ∈ qs) => (⟨hf q hq, hqE q hq⟩ : q.fits ∧ Sp.qErr q = 0)
    have hback := Sp.asks_bytes qs hfit
    have hB := fun (J : Imm) (m : Le I J) => fr_bytes_ok rfl (hr.le m) (hat.le m) (by omega) hfit (hC.le m) rfl
    clear hBy
    generalize qs.flatMap Sp.qBytes = bs at hback hB
    cases hy : Sp.asks b with
    | error r2 =>
      obtain ⟨e2, p2⟩ := r2
      obtain ⟨hp2, hne⟩ := Sp.asksF_err b _ _ _ _ hy
      repeat' (first
        | (refine m_call (d := 12) hm (by rfl) (by rfl) (by rfl) (by first | exact pm0 | exact pm1_0 | exact pm1_1 | exact pm1_2 | exact pm1_3 | exact pm2_0 | exact pm2_1 | exact pm2_2 | exact pm2_3 | exact pm2_4 | exact pm3_0 | exact pm3_1 | exact pm3_2) (hA _ (Le.refl _)) ?_; clear hm; rintro _ I2 _ _ ⟨rfl, rfl⟩ hle hm; have hleI2 := hle; try simp only [setn] at hm)
        | (refine m_call (d := 16) hm (by rfl) (by rfl) (by rfl) (by first | exact pm0 | exact pm1_0 | exact pm1_1 | exact pm1_2 | exact pm1_3 | exact pm2_0 | exact pm2_1 | exact pm2_2 | exact pm2_3 | exact pm2_4 | exact pm3_0 | exact pm3_1 | exact pm3_2) (hB I2 hleI2) ?_; clear hm; rintro _ I3 _ _ ⟨rfl, xa, xc, rfl, hxr, hxl⟩ hle hm; have hleI3 := hle; try simp only [setn] at hm)
        | (refine m_call (d := 24) hm (by rfl) (by rfl) (by rfl) (by first | exact pm0 | exact pm1_0 | exact pm1_1 | exact pm1_2 | exact pm1_3 | exact pm2_0 | exact pm2_1 | exact pm2_2 | exact pm2_3 | exact pm2_4 | exact pm3_0 | exact pm3_1 | exact pm3_2) (hOk I3 (hleI2.trans hleI3) bs qs _ _ _ hback (by omega) rfl hxr) ?_; clear hm; rintro _ I6 _ _ ⟨rfl, ma, mc, mv, rfl, hmr, hmt, _⟩ hle hm; have hleI6 := hle; try simp only [setn] at hm)
        | (refine m_call (d := 33) hm (by rfl) (by rfl) (by rfl) (by first | exact pm0 | exact pm1_0 | exact pm1_1 | exact pm1_2 | exact pm1_3 | exact pm2_0 | exact pm2_1 | exact pm2_2 | exact pm2_3 | exact pm2_4 | exact pm3_0 | exact pm3_1 | exact pm3_2) (fr_same' rfl rfl hmr hmt (hr.le ((hleI2.trans hleI3).trans hleI6)) (hat.le ((hleI2.trans hleI3).trans hleI6)) (by omega) hqE) ?_; clear hm; rintro _ I7 _ _ ⟨rfl, rfl⟩ hle hm; have hleI7 := hle; try simp only [setn] at hm)
        | (refine m_call (d := 38) hm (by rfl) (by rfl) (by rfl) (by first | exact pm0 | exact pm1_0 | exact pm1_1 | exact pm1_2 | exact pm1_3 | exact pm2_0 | exact pm2_1 | exact pm2_2 | exact pm2_3 | exact pm2_4 | exact pm3_0 | exact pm3_1 | exact pm3_2) (hErr I7 (((hleI2.trans hleI3).trans hleI6).trans hleI7) b e2 p2 _ _ _ hy (by omega) rfl (hb.le (((hleI2.trans hleI3).trans hleI6).trans hleI7))) ?_; clear hm; rintro _ I4 _ _ ⟨rfl, rfl⟩ hle hm; have hleI4 := hle; try simp only [setn] at hm)
        | (refine m_allocS (d := 6) hm (by rfl) (by rfl) ?_; clear hm; intro b6 _ hm)
        | (refine m_allocS (d := 8) hm (by rfl) (by rfl) ?_; clear hm; intro b8 _ hm)
        | (refine m_allocS (d := 10) hm (by rfl) (by rfl) ?_; clear hm; intro b10 _ hm)
        | refine m_load1 hm (by rfl) (by rfl) (by rfl) (by first | exact gt0 | exact gt1 | exact gt2 | exact gt3 | exact gt4 | exact gt5 | exact gt6) (by rfl) ?_
        | (refine m_storeAll hm (by rfl) (by rfl) (by rfl) (by rfl) (by first | exact gt0 | exact gt1 | exact gt2 | exact gt3 | exact gt4 | exact gt5 | exact gt6) (by rfl) (by rfl) (by rfl) ?_; clear hm; intro _ hm; try simp only [setn] at hm)
        | refine op_move (by rfl) (by rfl) (by rfl) ?_
        | refine op_assign (by rfl) (by rfl) (by rfl) ?_
        | refine op_pick_true (by rfl) (by rfl) (by rfl) (by rfl) ?_
        | refine op_pick_false (by rfl) (by rfl) (by rfl) (by rfl) ?_
        | refine op_lss (by rfl) (by rfl) (by rfl) (by rfl) ?_
        | refine op_geq (by rfl) (by rfl) (by rfl) (by rfl) ?_
        | refine op_eql (by rfl) (by rfl) (by rfl) (by rfl) ?_
        | refine op_neq (by rfl) (by rfl) (by rfl) (by rfl) ?_
        | refine op_len_slice (by rfl) (by rfl) (by rfl) ?_
        | refine op_not (by rfl) (by rfl) (by rfl) ?_
        | refine op_extract (by rfl) (by rfl) (by rfl) (by rfl) ?_
        | refine op_fieldAddr (by rfl) (by rfl) (by rfl) ?_
        | refine wl_nil ?_
        | refine at_then_normal ?_
        | refine at_then_ret ?_
        | refine wc_seq ?_
        | refine wc_region ?_
        | refine wc_skip ?_
        | refine wc_ret ?_
        | refine at_ret1 (by rfl) (by rfl) ?_
        | refine wc_cond_true (by rfl) ?_
        | refine wc_cond_false (by rfl) ?_
        | (refine wc_cond_dec (by rfl) (fun _ => ?_) (fun _ => ?_) <;> (try first | contradiction | (exfalso; omega))))
      all_goals try (exfalso; omega)
      exact ⟨I4, [], ⟨by rw [decide_eq_true (show (p2 : Int) < (b.length : Int) by omega)], rfl⟩, hm.left (H := [])⟩
    | ok ms =>
      obtain ⟨hwr, hfit2⟩ := Sp.asks_wr b ms hy
      repeat' (first
        | (refine m_call (d := 12) hm (by rfl) (by rfl) (by rfl) (by first | exact pm0 | exact pm1_0 | exact pm1_1 | exact pm1_2 | exact pm1_3 | exact pm2_0 | exact pm2_1 | exact pm2_2 | exact pm2_3 | exact pm2_4 | exact pm3_0 | exact pm3_1 | exact pm3_2) (hA _ (Le.refl _)) ?_; clear hm; rintro _ I2 _ _ ⟨rfl, rfl⟩ hle hm; have hleI2 := hle; try simp only [setn] at hm)
        | (refine m_call (d := 16) hm (by rfl) (by rfl) (by rfl) (by first | exact pm0 | exact pm1_0 | exact pm1_1 | exact pm1_2 | exact pm1_3 | exact pm2_0 | exact pm2_1 | exact pm2_2 | exact pm2_3 | exact pm2_4 | exact pm3_0 | exact pm3_1 | exact pm3_2) (hB I2 hleI2) ?_; clear hm; rintro _ I3 _ _ ⟨rfl, xa, xc, rfl, hxr, hxl⟩ hle hm; have hleI3 := hle; try simp only [setn] at hm)
        | (refine m_call (d := 24) hm (by rfl) (by rfl) (by rfl) (by first | exact pm0 | exact pm1_0 | exact pm1_1 | exact pm1_2 | exact pm1_3 | exact pm2_0 | exact pm2_1 | exact pm2_2 | exact pm2_3 | exact pm2_4 | exact pm3_0 | exact pm3_1 | exact pm3_2) (hOk I3 (hleI2.trans hleI3) bs qs _ _ _ hback (by omega) rfl hxr) ?_; clear hm; rintro _ I6 _ _ ⟨rfl, ma, mc, mv, rfl, hmr, hmt, _⟩ hle hm; have hleI6 := hle; try simp only [setn] at hm)
        | (refine m_call (d := 33) hm (by rfl) (by rfl) (by rfl) (by first | exact pm0 | exact pm1_0 | exact pm1_1 | exact pm1_2 | exact pm1_3 | exact pm2_0 | exact pm2_1 | exact pm2_2 | exact pm2_3 | exact pm2_4 | exact pm3_0 | exact pm3_1 | exact pm3_2) (fr_same' rfl rfl hmr hmt (hr.le ((hleI2.trans hleI3).trans hleI6)) (hat.le ((hleI2.trans hleI3).trans hleI6)) (by omega) hqE) ?_; clear hm; rintro _ I7 _ _ ⟨rfl, rfl⟩ hle hm; have hleI7 := hle; try simp only [setn] at hm)
        | (refine m_call (d := 38) hm (by rfl) (by rfl) (by rfl) (by first | exact pm0 | exact pm1_0 | exact pm1_1 | exact pm1_2 | exact pm1_3 | exact pm2_0 | exact pm2_1 | exact pm2_2 | exact pm2_3 | exact pm2_4 | exact pm3_0 | exact pm3_1 | exact pm3_2) (hOk I7 (((hleI2.trans hleI3).trans hleI6).trans hleI7) b ms _ _ _ hy (by omega) rfl (hb.le (((hleI2.trans hleI3).trans hleI6).trans hleI7))) ?_; clear hm; rintro _ I4 _ _ ⟨rfl, na, nc, nv, rfl, hnr, hnt, hnl⟩ hle hm; have hleI4 := hle; try simp only [setn] at hm)
        | (refine m_call (d := 61) hm (by rfl) (by rfl) (by rfl) (by first | exact pm0 | exact pm1_0 | exact pm1_1 | exact pm1_2 | exact pm1_3 | exact pm2_0 | exact pm2_1 | exact pm2_2 | exact pm2_3 | exact pm2_4 | exact pm3_0 | exact pm3_1 | exact pm3_2) (fr_bytes_ok rfl hnr hnt (by omega) hfit2 (hC.le ((((hleI2.trans hleI3).trans hleI6).trans hleI7).trans hleI4)) hwr) ?_; clear hm; rintro _ I5 _ _ ⟨rfl, ya, yc, rfl, hyr, _⟩ hle hm; have hleI5 := hle; try simp only [setn] at hm)
        | (refine i_bytesStr (d := 69) hm (by rfl) (by rfl) (by rfl) hyr (by rfl) ?_)
        | (refine i_bytesStr (d := 71) hm (by rfl) (by rfl) (by rfl) (hb.le (((((hleI2.trans hleI3).trans hleI6).trans hleI7).trans hleI4).trans hleI5)) (by rfl) ?_)
        | (refine m_allocS (d := 6) hm (by rfl) (by rfl) ?_; clear hm; intro b6 _ hm)
        | (refine m_allocS (d := 8) hm (by rfl) (by rfl) ?_; clear hm; intro b8 _ hm)
        | (refine m_allocS (d := 10) hm (by rfl) (by rfl) ?_; clear hm; intro b10 _ hm)
        | refine m_load1 hm (by rfl) (by rfl) (by rfl) (by first | exact gt0 | exact gt1 | exact gt2 | exact gt3 | exact gt4 | exact gt5 | exact gt6) (by rfl) ?_
        | (refine m_storeAll hm (by rfl) (by rfl) (by rfl) (by rfl) (by first | exact gt0 | exact gt1 | exact gt2 | exact gt3 | exact gt4 | exact gt5 | exact gt6) (by rfl) (by rfl) (by rfl) ?_; clear hm; intro _ hm; try simp only [setn] at hm)
        | refine op_move (by rfl) (by rfl) (by rfl) ?_
        | refine op_assign (by rfl) (by rfl) (by rfl) ?_
        | refine op_pick_true (by rfl) (by rfl) (by rfl) (by rfl) ?_
        | refine op_pick_false (by rfl) (by rfl) (by rfl) (by rfl) ?_
        | refine op_eql (by rfl) (by rfl) (by rfl) (by rfl) ?_
        | refine op_neq (by rfl) (by rfl) (by rfl) (by rfl) ?_
        | refine op_eql_str (by rfl) (by rfl) (by rfl) (by rfl) ?_
        | refine op_not (by rfl) (by rfl) (by rfl) ?_
        | refine op_extract (by rfl) (by rfl) (by rfl) (by rfl) ?_
        | refine op_fieldAddr (by rfl) (by rfl) (by rfl) ?_
        | refine wl_nil ?_
        | refine at_then_normal ?_
        | refine wc_seq ?_
        | refine wc_region ?_
        | refine wc_skip ?_
        | refine wc_ret ?_
        | refine at_ret1 (by rfl) (by rfl) ?_
        | refine wc_cond_true (by rfl) ?_
        | refine wc_cond_false (by rfl) ?_)
      all_goals try (exfalso; first | omega | contradiction)
      exact ⟨I5, [], ⟨by rw [decide_eq_true (show b = b from rfl)], rfl⟩, hm.left (H := [])⟩
end Go.Proofs.YtkbiakajlfmakaaDoor
end
section
namespace Go.Proofs.YtkbiakajlfmakaaDoor
open Go.ChangeShapes Go.WideShapes Go.ChangeAt Go.RowKit
open Go.Fw
theorem starF : "*" ++ "errors.errorString" = "*errors.errorString" := by decide
theorem rowF (u : TypeId) (h : Tryd.prog.typeName? 3 u = some "*errors.errorString") : u = 261 :=
  typeName_ptr_named (nm := "errors.errorString") (by rw [starF]; kernel_rfl) (by kernel_rfl) (by decide) u (by rw [starF]; exact h)
theorem rng_of {l : List (String × DataW Unit)} {W : World} (h : laidMetH Tryd.prog l W) (hp : (l.all fun x => x.2.handleName?.isNone) = true)
    (he : l.filter (fun x => x.1 == "strconv.ErrRange") = [("strconv.ErrRange", Rows.laid_strconv_ErrRange)]) : ∃ te pe c ty fr, immOf W 2 = some (.cells c ty fr) ∧ c[0]? = some (.iface te pe) := by
  rw [MakeChecks.laidMetH_plain _ _ _ hp] at h
  have h1 := h.filter (fun x => x.1 == "strconv.ErrRange")
  rw [he] at h1
  obtain ⟨a, s, hv, _⟩ := laid_sentinel (g := 2) h1 (by kernel_rfl) (ti := 149) (by kernel_rfl) Tryd.underlying149 rowF Tryd.underlying261 Tryd.underlying263 rfl rfl Tryd.underlying9 (by kernel_rfl) (by kernel_rfl)
  have hg : Tryd.prog.globalNamed "strconv.ErrRange" = some 2 := by kernel_rfl
  simp only [World.var?, hg, Option.bind_some] at hv
  split at hv
  · rename_i cs ty fr hw
    obtain rfl := Option.some.inj hv
    exact ⟨_, _, _, _, _, hw, rfl⟩
  · cases hv
theorem syn_of {l : List (String × DataW Unit)} {W : World} (h : laidMetH Tryd.prog l W) (hp : (l.all fun x => x.2.handleName?.isNone) = true)
    (he : l.filter (fun x => x.1 == "strconv.ErrSyntax") = [("strconv.ErrSyntax", Rows.laid_strconv_ErrSyntax)]) : ∃ te pe c ty fr, immOf W 1 = some (.cells c ty fr) ∧ c[0]? = some (.iface te pe) := by
  rw [MakeChecks.laidMetH_plain _ _ _ hp] at h
  have h1 := h.filter (fun x => x.1 == "strconv.ErrSyntax")
  rw [he] at h1
  obtain ⟨a, s, hv, _⟩ := laid_sentinel (g := 1) h1 (by kernel_rfl) (ti := 149) (by kernel_rfl) Tryd.underlying149 rowF Tryd.underlying261 Tryd.underlying263 rfl rfl Tryd.underlying9 (by kernel_rfl) (by kernel_rfl)
  have hg : Tryd.prog.globalNamed "strconv.ErrSyntax" = some 1 := by kernel_rfl
  simp only [World.var?, hg, Option.bind_some] at hv
  split at hv
  · rename_i cs ty fr hw
    obtain rfl := Option.some.inj hv
    exact ⟨_, _, _, _, _, hw, rfl⟩
  · cases hv
theorem tab_of {l : List (String × DataW Unit)} {W : World} (h : laidMetH Tryd.prog l W) (hp : (l.all fun x => x.2.handleName?.isNone) = true)
    (he : l.filter (fun x => x.1 == "internal/strconv.uint64pow10") = [("internal/strconv.uint64pow10", Rows.laid_internal_strconv_uint64pow10)]) :
    ∃ ty fr, immOf W 0 = some (.cells (Lib.pow10Tab.map fun z => Value.int .u64 z).toArray ty fr) := by
  rw [MakeChecks.laidMetH_plain _ _ _ hp] at h
  have h1 := h.filter (fun x => x.1 == "internal/strconv.uint64pow10")
  rw [he] at h1
  have hd : (Rows.laid_internal_strconv_uint64pow10 : DataW Unit) = Lib.tabData .u64 Lib.pow10Tab := by kernel_rfl
  rw [hd] at h1
  have hg : Tryd.prog.globalNamed "internal/strconv.uint64pow10" = some 0 := by kernel_rfl
  have hv := Lib.tabIs_of_head (g := 0) hg (t := 242) (by kernel_rfl) Tryd.underlying242 Tryd.underlying185 (by kernel_rfl) (by kernel_rfl) h1
  unfold Lib.TabIs at hv
  simp only [World.var?, hg, Option.bind_some] at hv
  split at hv
  · rename_i cs ty fr hw
    obtain rfl := Option.some.inj hv
    exact ⟨_, _, hw⟩
  · cases hv
theorem rowI_cells {W : World} {ty sz n cap : Nat} {a : Addr} {xs : List Value} (hl : xs.length = n * sz) (hsz : 0 < sz) (hnc : n ≤ cap) (hc : ∀ j v, xs[j]? = some v → W.cell? (a.add j) = some v) : RowI (immOf W) ty sz (.slice (some a) n cap) n xs := by
  refine ⟨hl, some a, cap, rfl, hnc, fun hn => ?_⟩
  have h0 : 0 < xs.length := by rw [hl]; exact Nat.mul_pos hn hsz
  have hx := hc 0 xs[0] (List.getElem?_eq_getElem h0)
  obtain ⟨b, off, sp⟩ := a
  have e0 : (⟨b, off, sp⟩ : Addr).add 0 = ⟨b, off, sp⟩ := rfl
  rw [e0] at hx
  cases hh : W.heap[b]? with
  | none => simp [World.cell?, hh] at hx
  | some o =>
    cases o with
    | cells c t fr =>
      cases sp with
      | some s => simp [World.cell?, hh] at hx
      | none =>
        refine ⟨b, off, c, (t, fr), rfl, hh, fun j u hj => ?_⟩
        have h2 := hc j u hj
        rw [Addr.add_lit] at h2
        simpa [World.cell?, hh] using h2
    | _ => simp [World.cell?, hh] at hx
theorem bulkAll_len {H : Type} : ∀ (l : List (DataW H)), l.length ≤ Rows.uptoBulkAll l
  | [] => by simp
  | d :: r => by
    have h1 := bulkAll_len r
    have h2 := bulk_one d
    simp only [List.length_cons, Rows.uptoBulkAll]
    omega
theorem wf_u8 {z : Int} (h : (Lit.int .u8 z).wf = true) : 0 ≤ z ∧ z ≤ 255 := by
  simp only [Lit.wf, Bool.and_eq_true, decide_eq_true_eq] at h
  have h1 : IntKind.u8.min = 0 := by decide
  have h2 : IntKind.u8.max = 255 := by decide
  rw [h1, h2] at h
  exact h
theorem wf_i64 {z : Int} (h : (Lit.int .i64 z).wf = true) : Sp.i64 z := by
  simp only [Lit.wf, Bool.and_eq_true, decide_eq_true_eq] at h
  have h1 : IntKind.i64.min = -9223372036854775808 := by decide
  have h2 : IntKind.i64.max = 9223372036854775807 := by decide
  rw [h1, h2] at h
  exact h
section
variable {H : Type} {enc : TypeId × Value → H} {W : World}
set_option maxRecDepth 100000 in
theorem open_bytes {v : Value} {d : DataW H} {p : List MemPlace} {b0 : Nat} (hval : Value.okWide Tryd.prog W .any b0 38 v) (h : DataW.Trod enc Tryd.prog W 0 (fun _ => true) true 38 v d p) :
    ∃ (a : Option Addr) (bs : List UInt8) (cap : Nat), v = .slice a bs.length cap ∧ RowI (immOf W) 5 1 (.slice a bs.length cap) bs.length (bs.map byteV) ∧ bs.length ≤ Rows.uptoBulk d := by
  obtain ⟨a0, len, cap, rfl⟩ := okWide_slice Tryd.underlying38 hval
  obtain ⟨fuel, hf⟩ := h
  rcases open_ints Tryd.underlying38 Tryd.underlying5 (by kernel_rfl) hf with ⟨hcs, hx⟩ | ⟨a, len', cap', zs, hcs, _, hl, hm, hz, hx, hcell, hwz⟩
  · simp [Value.cells] at hcs
    obtain ⟨rfl, rfl, rfl⟩ := hcs
    exact ⟨none, [], 0, rfl, rowI_nil _ _ _ _ _, Nat.zero_le _⟩
  · simp [Value.cells] at hcs
    obtain ⟨rfl, rfl, rfl⟩ := hcs
    simp only [if_true] at hz
    have hbl : ((zs.take len).map (fun z => UInt8.ofNat z.toNat)).length = len := by rw [List.length_map, List.length_take]; omega
    have hbv : ((zs.take len).map (fun z => UInt8.ofNat z.toNat)).map byteV = (zs.take len).map (Value.int .u8) := by
      rw [List.map_map]
      refine List.map_congr_left fun z hzm => ?_
      have hw := wf_u8 (hwz z (List.mem_of_mem_take hzm))
      have e : (UInt8.ofNat z.toNat).toNat = z.toNat := by rw [UInt8.toNat_ofNat']; omega
      simp only [Function.comp_apply, byteV, e]
      rw [Int.toNat_of_nonneg hw.1]
    refine ⟨some a, (zs.take len).map (fun z => UInt8.ofNat z.toNat), cap, by rw [hbl], ?_, ?_⟩
    · rw [hbl, hbv]
      refine rowI_cells (by rw [List.length_map, List.length_take]; omega) (by decide) hl (fun j u hj => ?_)
      rw [List.getElem?_map, List.getElem?_take] at hj
      split at hj
      · rename_i hjl
        have hjz : j < zs.length := by omega
        rw [List.getElem?_eq_getElem hjz] at hj
        have h3 := hcell j hjz
        rw [List.getD_eq_getElem?_getD, List.getElem?_eq_getElem hjz] at h3
        rw [h3]
        simpa using hj
      · cases hj
    · rw [hbl]
      simp only [Prod.mk.injEq] at hx
      rw [hx.1]
      have h4 := bulkAll_len (lits (H := H) .u8 (zs.take len))
      have h5 : (lits (H := H) .u8 (zs.take len)).length = len := by rw [lits, List.length_map, List.length_take]; omega
      simp only [Rows.uptoBulk]
      omega
set_option maxRecDepth 100000 in
theorem ints_of {fuel : Nat} {cs : List Value} {x : DataW H × List MemPlace} (h : DataW.trod enc Tryd.prog W 0 (fun _ => true) true fuel 39 cs = some x) :
    ∃ (a : Option Addr) (zs : List Int) (cap : Nat), cs = [.slice a zs.length cap] ∧ RowI (immOf W) 3 1 (.slice a zs.length cap) zs.length (zs.flatMap encZ) ∧ ∀ z ∈ zs, Sp.i64 z := by
  rcases open_ints Tryd.underlying39 Tryd.underlying3 (by kernel_rfl) h with ⟨rfl, hx⟩ | ⟨a, len, cap, zs, rfl, _, hl, hm, hz, hx, hcell, hwz⟩
  · exact ⟨none, [], 0, rfl, rowI_nil _ _ _ _ _, fun z hz => by cases hz⟩
  · simp only [if_true] at hz
    have hbl : (zs.take len).length = len := by rw [List.length_take]; omega
    refine ⟨some a, zs.take len, cap, by rw [hbl], ?_, fun z hzm => wf_i64 (hwz z (List.mem_of_mem_take hzm))⟩
    rw [hbl, show (zs.take len).flatMap encZ = (zs.take len).map (Value.int .i64) from flat_sing _ _]
    refine rowI_cells (by rw [List.length_map, List.length_take]; omega) (by decide) hl (fun j u hj => ?_)
    rw [List.getElem?_map, List.getElem?_take] at hj
    split at hj
    · rename_i hjl
      have hjz : j < zs.length := by omega
      rw [List.getElem?_eq_getElem hjz] at hj
      have h3 := hcell j hjz
      rw [List.getD_eq_getElem?_getD, List.getElem?_eq_getElem hjz] at h3
      rw [h3]
      simpa using hj
    · cases hj
theorem six {α : Type} {l : List α} (h : l.length = 6) : ∃ a b c d e f, l = [a, b, c, d, e, f] := by
  match l, h with
  | [a, b, c, d, e, f], _ => exact ⟨a, b, c, d, e, f, rfl⟩
set_option maxRecDepth 100000 in
theorem ask_of {fuel : Nat} {cs : List Value} {x : DataW H × List MemPlace} (h : DataW.trod enc Tryd.prog W 0 (fun _ => true) true fuel 41 cs = some x) (hl : cs.length = 6) :
    ∃ q : Sp.Qn, AskAt (immOf W) q cs ∧ q.fits := by
  obtain ⟨xs, n, _, _, _, hlen, hf⟩ := DataW.trod_struct Tryd.underlying41 h
  obtain ⟨x0, x1, x2, x3, x4, x5, rfl⟩ := six hlen
  obtain ⟨c0, c1, c2, c3, c4, c5, rfl⟩ := six hl
  have k3 : Tryd.prog.cellsOf 3 = 1 := by kernel_rfl
  have k9 : Tryd.prog.cellsOf 9 = 1 := by kernel_rfl
  have k39 : Tryd.prog.cellsOf 39 = 1 := by kernel_rfl
  have f0 : DataW.trod enc Tryd.prog W 0 (fun _ => true) true n 3 (([c0, c1, c2, c3, c4, c5].drop 0).take (Tryd.prog.cellsOf 3)) = some x0 := hf 0 _ rfl
  have f1 : DataW.trod enc Tryd.prog W 0 (fun _ => true) true n 3 (([c0, c1, c2, c3, c4, c5].drop 1).take (Tryd.prog.cellsOf 3)) = some x1 := hf 1 _ rfl
  have f2 : DataW.trod enc Tryd.prog W 0 (fun _ => true) true n 3 (([c0, c1, c2, c3, c4, c5].drop 2).take (Tryd.prog.cellsOf 3)) = some x2 := hf 2 _ rfl
  have f3 : DataW.trod enc Tryd.prog W 0 (fun _ => true) true n 3 (([c0, c1, c2, c3, c4, c5].drop 3).take (Tryd.prog.cellsOf 3)) = some x3 := hf 3 _ rfl
  have f4 : DataW.trod enc Tryd.prog W 0 (fun _ => true) true n 9 (([c0, c1, c2, c3, c4, c5].drop 4).take (Tryd.prog.cellsOf 9)) = some x4 := hf 4 _ rfl
  have f5 : DataW.trod enc Tryd.prog W 0 (fun _ => true) true n 39 (([c0, c1, c2, c3, c4, c5].drop 5).take (Tryd.prog.cellsOf 39)) = some x5 := hf 5 _ rfl
  rw [k3] at f0 f1 f2 f3
  rw [k9] at f4
  rw [k39] at f5
  obtain ⟨z0, e0, _, w0⟩ := DataW.trod_int Tryd.underlying3 f0
  obtain ⟨z1, e1, _, w1⟩ := DataW.trod_int Tryd.underlying3 f1
  obtain ⟨z2, e2, _, w2⟩ := DataW.trod_int Tryd.underlying3 f2
  obtain ⟨z3, e3, _, w3⟩ := DataW.trod_int Tryd.underlying3 f3
  obtain ⟨s, e4, _, w4⟩ := DataW.trod_string Tryd.underlying9 f4
  obtain ⟨a, zs, cap, e5, hr, w5⟩ := ints_of f5
  simp only [List.drop_zero, List.drop_succ_cons, List.take_succ_cons, List.take_zero, List.cons.injEq, and_true] at e0 e1 e2 e3 e4 e5
  subst e0; subst e1; subst e2; subst e3; subst e4; subst e5
  exact ⟨⟨z0, z1, z2, z3, s.data.toList, zs⟩, ⟨a, cap, rfl, hr⟩, wf_i64 w0, wf_i64 w1, wf_i64 w2, wf_i64 w3, w5⟩
theorem asks_build {I : Imm} {C : Nat → List Value} : ∀ (n : Nat), (∀ i, i < n → ∃ q : Sp.Qn, AskAt I q (C i) ∧ q.fits) → ∃ qs : List Sp.Qn, qs.length = n ∧ AsksAt I qs ((List.range n).flatMap C) ∧ ∀ q ∈ qs, q.fits
  | 0, _ => ⟨[], rfl, rfl, fun q hq => by cases hq⟩
  | n + 1, h => by
    obtain ⟨qs, h1, h2, h3⟩ := asks_build n (fun i hi => h i (by omega))
    obtain ⟨q, g1, g2⟩ := h n (by omega)
    refine ⟨qs ++ [q], by rw [List.length_append, h1]; rfl, ?_, fun x hx => ?_⟩
    · rw [List.range_succ, List.flatMap_append]
      have := AsksAt.snoc g1 h2
      simpa using this
    · rcases List.mem_append.1 hx with hx | hx
      · exact h3 x hx
      · obtain rfl := List.mem_singleton.1 hx
        exact g2
set_option maxRecDepth 100000 in
theorem open_asks {v : Value} {d : DataW H} {p : List MemPlace} {b0 : Nat} (hval : Value.okWide Tryd.prog W .any b0 37 v) (h : DataW.Trod enc Tryd.prog W 0 (fun _ => true) true 37 v d p) :
    ∃ (a : Option Addr) (qs : List Sp.Qn) (cap : Nat) (xs : List Value), v = .slice a qs.length cap ∧ RowI (immOf W) 41 6 (.slice a qs.length cap) qs.length xs ∧ AsksAt (immOf W) qs xs ∧ (∀ q ∈ qs, q.fits) ∧ qs.length ≤ Rows.uptoBulk d := by
  obtain ⟨a0, len, cap, rfl⟩ := okWide_slice Tryd.underlying37 hval
  obtain ⟨fuel, hf⟩ := h
  have k41 : Tryd.prog.cellsOf 41 = 6 := by kernel_rfl
  rcases Go.Deep.open_slice Tryd.underlying37 hf with ⟨hcs, hx⟩ | ⟨a, len', cap', m, n, D, Pl, hcs, _, hl, hm, hmm, hx, hel⟩
  · simp [Value.cells] at hcs
    obtain ⟨rfl, rfl, rfl⟩ := hcs
    exact ⟨none, [], 0, [], rfl, rowI_nil _ _ _ _ _, rfl, fun q hq => (by cases hq), Nat.zero_le _⟩
  · simp [Value.cells] at hcs
    obtain ⟨rfl, rfl, rfl⟩ := hcs
    simp only [if_true] at hmm
    rw [k41] at hel
    have hC : ∀ i, ∃ c : List Value, c.length = 6 ∧ (i < len → (∀ j u, c[j]? = some u → W.cell? ((a.add (i * 6)).add j) = some u) ∧ ∃ q : Sp.Qn, AskAt (immOf W) q c ∧ q.fits) := fun i => by
      by_cases hi : i < len
      · obtain ⟨cs', g1, g2⟩ := hel i (by omega)
        obtain ⟨_, g3, g4⟩ := World.cells?_some g1
        refine ⟨cs', g3, fun _ => ⟨fun j u hj => ?_, ask_of g2 g3⟩⟩
        rw [g4 j (by have := (List.getElem?_eq_some_iff.1 hj).1; omega)]
        exact hj
      · exact ⟨List.replicate 6 (.bool false), by simp, fun h => absurd h hi⟩
    have ⟨C, hC⟩ := Classical.axiomOfChoice hC
    obtain ⟨qs, q1, q2, q3⟩ := asks_build (I := immOf W) (C := C) len (fun i hi => ((hC i).2 hi).2)
    subst q1
    refine ⟨some a, qs, cap, _, rfl, rowI_cells (by rw [q2.len]) (by decide) hl (fun j u hj => ?_), q2, q3, ?_⟩
    · have hjl := (List.getElem?_eq_some_iff.1 hj).1
      rw [q2.len] at hjl
      have hi : j / 6 < qs.length := by omega
      have hfl := flat_drop C 6 (fun i => (hC i).1) (List.range qs.length) (j / 6) (j / 6) (List.getElem?_range hi)
      have hju : (C (j / 6))[j % 6]? = some u := by
        rw [← hfl, List.getElem?_take, if_pos (Nat.mod_lt _ (by decide)), List.getElem?_drop, show j / 6 * 6 + j % 6 = j by omega]
        exact hj
      have h7 := ((hC (j / 6)).2 hi).1 _ _ hju
      obtain ⟨b, off, sp⟩ := a
      have e1 : ((⟨b, off, sp⟩ : Addr).add (j / 6 * 6)).add (j % 6) = (⟨b, off, sp⟩ : Addr).add j := by
        unfold Addr.add
        by_cases h1 : j / 6 * 6 = 0
        · rw [if_pos h1, show j % 6 = j by omega]
        · rw [if_neg h1, if_neg (show ¬ j = 0 by omega)]
          by_cases h2 : j % 6 = 0
          · rw [if_pos h2, show j / 6 * 6 = j by omega]
          · rw [if_neg h2]
            simp only [Addr.mk.injEq, true_and, and_true]
            omega
      rw [← e1]; exact h7
    · simp only [Prod.mk.injEq] at hx
      rw [hx.1]
      have h4 := bulkAll_len ((List.range qs.length).map D)
      rw [List.length_map, List.length_range] at h4
      simp only [Rows.uptoBulk]
      omega
end
theorem kept_below {W W' : World} (h : Kept [] W W') : Below W.heap.size W W' := ⟨h.os, h.tape, h.output, h.size, fun k hk => h.blk k hk (by simp)⟩
theorem post_kept2 {H : Type} {enc : TypeId × Value → H} {P : Program} {f : Func} {s : ChangeSpec} {apart fresh handsOn : Bool} {W W' : World} {args : Array Value} {v : Value} {ds gs : List (DataW H)} {before pa pv : List MemPlace}
    (hW : DataW.Whole enc P f.params.toList s.vars apart W args.toList ds gs before)
    (hres : ∀ (b : Nat) (sp : Nat → Bool) (hd : Bool), DataW.TrodAll enc P W' b sp hd f.resultTypes.toList (v.resultList f.resultTypes.size) (s.fn H (ds ++ gs)).results [])
    (hargs : DataW.TrodAll enc P W' 0 (fun b => decide (b < W.heap.size)) true f.params.toList args.toList (s.fn H (ds ++ gs)).args pa)
    (hvars : ∀ sp : Nat → Bool, (∀ p ∈ before, sp p.block = true) → DataW.TrodVars enc P W' sp s.vars (s.fn H (ds ++ gs)).vars pv)
    (hk : Kept [] W W') : s.post enc P f apart fresh handsOn false W args v W' := by
  have hold : ∀ p ∈ before, (fun b => decide (b < W.heap.size)) p.block = true := fun p hp => by simpa using hW.lt p hp
  exact ⟨ds, gs, before, [], pa, pv, hW, hres _ _ _, hargs, hvars _ hold, kept_but hk _, fun h => by cases h⟩
theorem laidOutF : laidOutB Tryd.prog = true := by kernel_rfl
theorem run_keptF {f : FuncId} {args : Array Value} {v : Value} {W : World} (h : CalM Tryd.prog f args (immOf W) [] (fun u _ H' => u = v ∧ H' = [])) : Cal Tryd.prog f args W (fun u W' => u = v ∧ Kept [] W W') :=
  (h.run W (Mem.start (immOf_inv W))).mono (fun _ _ ⟨_, _, ⟨h1, _⟩, h2⟩ => ⟨h1, h2.kept⟩)
end Go.Proofs.YtkbiakajlfmakaaDoor
end
