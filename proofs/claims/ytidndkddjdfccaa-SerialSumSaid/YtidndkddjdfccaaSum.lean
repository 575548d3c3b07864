/- The walk of the statement SerialSum. -/
import Derived.Test.YtidndkddjdfccaaG
set_option linter.unusedSimpArgs false
namespace Go.Proofs.Ytidndkddjdfccaa
open Go.RowKit
theorem c4 (a b c : Int) (w : World) : Calls Try.prog 4 #[.int .i64 a, .int .i64 b, .int .i64 c] w fun e w' => e = .returned (.bool true) ∧ Below w.heap.size w w' := by
  have hx := fun w => c9 a b w
  have hy := fun w => c9 b c w
  have hz := fun w => c9 a c w
  have h0 := fun w => c9 a a w
  rw [show farI a a = 0 by unfold farI; omega] at h0
  have hs : farI a b + farI b c = farI a c ∨ farI a b + farI b c = farI a c + 65536 := by unfold farI; omega
  obtain ⟨x0, x1⟩ := far_lt a b
  obtain ⟨y0, y1⟩ := far_lt b c
  obtain ⟨z0, z1⟩ := far_lt a c
  generalize farI a b = x at hx hs x0 x1
  generalize farI b c = y at hy hs y0 y1
  generalize farI a c = z at hz hs z0 z1
  have w1 : IntKind.i64.wrap (x + y) = x + y := IntWalk.i64_in _ (by omega)
  have w2 : IntKind.i64.wrap (z + 65536) = z + 65536 := IntWalk.i64_in _ (by omega)
  have w3 : wrap64 (x + y) = x + y := by unfold wrap64; omega
  have w4 : wrap64 (z + 65536) = z + 65536 := by unfold wrap64; omega
  have H1 := hidd hx
  have H2 := hidd hy
  have H3 := hidd hz
  have H4 := hidd h0
  clear hx hy hz h0 x0 x1 y0 y1 z0 z1
  rcases hs with hs | hs
  all_goals
    have hn1 : ¬ z + 65536 = z := by omega
    have q1 := w3.trans hs
    have q2 := w1.trans hs
    clear w1 w3 hs
    go_enter Try.func4, Try.ntmps4
    go_wp2_with fail
    refine (H1.out _).mono ?_
    rintro e w1 ⟨rfl, hb1⟩
    go_wp2_with fail
    refine (H2.out _).mono ?_
    rintro e w2 ⟨rfl, hb2⟩
    go_wp2_with fail
    refine (H3.out _).mono ?_
    rintro e w3 ⟨rfl, hb3⟩
    go_wp2_with fail
    refine (c10 _).mono ?_
    rintro e w4 ⟨rfl, hb4⟩
    go_wp2_with fail
  all_goals
    refine (H4.out _).mono ?_
    rintro e w5 ⟨rfl, hb5⟩
    go_wp2
    go_ret
    exact ⟨rfl, Bl_then (Bl_then (Bl_then (Bl_then hb1 hb2) hb3) hb4) hb5⟩
end Go.Proofs.Ytidndkddjdfccaa
