/- Own work: the laws on labels, from a world of the program's shape. -/
import Derived.Test.YtgoglhmnfiehoaaDoorLawLabel2
import Derived.Test.YtgoglhmnfiehoaaDoorLawLabel3
namespace Go.Proofs.YtgoglhmnfiehoaaDoor
open Go.Fw
theorem maxAt_of (w : World) (h : w.ShapedOpen Tryd.prog) : MaxAt w := by
  obtain ⟨m, hm⟩ := Tryd.laysM146.s1_3 w h
  have hm' : w.cell? ⟨0, 0, none⟩ = some (.int .i64 m) := hm
  refine ⟨?_, m, hm'⟩
  rcases Nat.eq_zero_or_pos w.heap.size with h0 | h0
  · exfalso
    have : w.heap[0]? = none := Array.getElem?_eq_none (by omega)
    simp [World.cell?, this] at hm'
  · exact h0
theorem sp_order (a b c : Int) (w : World) (h : w.ShapedOpen Tryd.prog) : Cal Tryd.prog 4 #[.int .i64 a, .int .i64 b, .int .i64 c] w fun v w' => v = .bool true ∧ Kept [] w w' := law_order a b c w (maxAt_of w h)
theorem sp_tells (a b : Int) (s : List UInt8) (hl : s.length ≤ 1048576) (w : World) (h : w.ShapedOpen Tryd.prog) : Cal Tryd.prog 3 #[.int .i64 a, .int .i64 b, str s] w fun v w' => v = .bool true ∧ Kept [] w w' := law_tells a b s hl w (maxAt_of w h)
theorem sp_turns (n : Int) (s : List UInt8) (hl : s.length ≤ 1048576) (w : World) (h : w.ShapedOpen Tryd.prog) : Cal Tryd.prog 5 #[.int .i64 n, str s] w fun v w' => v = .bool true ∧ Kept [] w w' := law_turns n s hl w (maxAt_of w h)
end Go.Proofs.YtgoglhmnfiehoaaDoor
