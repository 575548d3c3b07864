/- The walk of the statement SerialRound. -/
import Derived.Test.YtidndkddjdfccaaG
set_option linter.unusedSimpArgs false
namespace Go.Proofs.Ytidndkddjdfccaa
open Go.RowKit
theorem lessI_eq (a b : Int) : lessI a b = (decide (0 < farI a b) && decide (farI a b < 32768)) := rfl
set_option maxHeartbeats 2000000 in
set_option maxRecDepth 100000 in
theorem c6 (a b k : Int) (w : World) : Calls Try.prog 6 #[.int .i64 a, .int .i64 b, .int .i64 k] w fun e w' => e = .returned (.bool true) ∧ Below w.heap.size w w' := by
  by_cases hb : a < -1000000000 ∨ 1000000000 < a ∨ k < -1000000 ∨ 1000000 < k
  · go_enter Try.func6, Try.ntmps6
    rcases hb with hb | hb | hb | hb
    all_goals
      go_wp2
      all_goals (go_ret; exact ⟨rfl, Below.refl _ _⟩)
  · have a0 : ¬ a < -1000000000 := by omega
    have a1 : ¬ 1000000000 < a := by omega
    have k0 : ¬ k < -1000000 := by omega
    have k1 : ¬ 1000000 < k := by omega
    clear hb
    have w1 : wrap64 (65536 * k) = 65536 * k := by unfold wrap64; omega
    have w2 : wrap64 (a + 65536 * k) = a + 65536 * k := by unfold wrap64; omega
    have w1' : IntKind.i64.wrap (65536 * k) = 65536 * k := IntWalk.i64_in _ (by omega)
    have w2' : IntKind.i64.wrap (a + 65536 * k) = a + 65536 * k := IntWalk.i64_in _ (by omega)
    obtain ⟨x, hx⟩ : ∃ x, a + 65536 * k = x := ⟨_, rfl⟩
    rw [hx] at w2 w2'
    have n1 : nxtI x = nxtI a := by unfold nxtI; omega
    have f1 : farI x b = farI a b := by unfold farI; omega
    have f2 : farI b x = farI b a := by unfold farI; omega
    have l1 : lessI x b = lessI a b := by rw [lessI_eq, lessI_eq, f1]
    have h13x := fun w => c13 x w
    have h13a := fun w => c13 a w
    have h9a := fun w => c9 a b w
    have h9b := fun w => c9 b a w
    have h9x := fun w => c9 x b w
    have h16x := fun w => c16 x b w
    have h16a := fun w => c16 a b w
    have h16b := fun w => c16 b a w
    have h18x := fun w => c18 x b (farI a b) w
    have h18a := fun w => c18 a b (farI a b) w
    rw [n1] at h13x
    rw [f1] at h9x
    rw [l1] at h16x
    rw [f2] at h18x
    rw [lessI_eq] at h16x h16a h16b
    have hg : (farI a b = 0 ∧ farI b a = 0) ∨ (0 < farI a b ∧ farI b a = 65536 - farI a b) := by unfold farI; omega
    obtain ⟨g0, g1⟩ := far_lt a b
    clear n1 f1 f2 l1
    generalize nxtI a = N at h13x h13a
    generalize farI a b = F at *
    generalize farI b a = G at *
    generalize decide (G < F) = W at h18x h18a
    have H13x := hidd h13x
    have H13a := hidd h13a
    have H9a := hidd h9a
    have H9b := hidd h9b
    have H9x := hidd h9x
    have HX := hidd hx
    clear h13x h13a h9a h9b h9x
    rcases hg with ⟨rfl, rfl⟩ | ⟨hF, hG⟩
    · have p1 : (decide ((0 : Int) < 0) && decide ((0 : Int) < 32768)) = false := rfl
      have p2 := p1
      have e16x : ∀ w, Calls Try.prog 16 #[.int .i64 x, .int .i64 b] w fun e w' => e = .returned (.bool false) ∧ Below w.heap.size w w' := fun w => by have := h16x w; rwa [p1] at this
      have e16a : ∀ w, Calls Try.prog 16 #[.int .i64 a, .int .i64 b] w fun e w' => e = .returned (.bool false) ∧ Below w.heap.size w w' := fun w => by have := h16a w; rwa [p1] at this
      have e16b : ∀ w, Calls Try.prog 16 #[.int .i64 b, .int .i64 a] w fun e w' => e = .returned (.bool false) ∧ Below w.heap.size w w' := fun w => by have := h16b w; rwa [p2] at this
      have H16x := hidd e16x
      have H16a := hidd e16a
      have H16b := hidd e16b
      have H18x := hidd h18x
      have H18a := hidd h18a
      clear e16x e16a e16b h16x h16a h16b h18x h18a p1 p2
      go_enter Try.func6, Try.ntmps6
      go_wp2_with fail
      refine (H9a.out _).mono ?_
      rintro e w1 ⟨rfl, hb1⟩
      go_wp2_with fail
      refine (H9b.out _).mono ?_
      rintro e w2 ⟨rfl, hb2⟩
      go_wp2_with fail
      refine (H13x.out _).mono ?_
      rintro e w3 ⟨rfl, rfl⟩
      go_wp2_with fail
      refine (H13a.out _).mono ?_
      rintro e w3 ⟨rfl, rfl⟩
      go_wp2_with fail
      refine (H9x.out _).mono ?_
      rintro e w3 ⟨rfl, hb3⟩
      go_wp2_with fail
      refine (H16x.out _).mono ?_
      rintro e w4 ⟨rfl, hb4⟩
      go_wp2_with fail
      refine (H16a.out _).mono ?_
      rintro e w5 ⟨rfl, hb5⟩
      go_wp2_with fail
      refine (H18x.out _).mono ?_
      rintro e w6 ⟨rfl, hb6⟩
      go_wp2_with fail
      refine (H18a.out _).mono ?_
      rintro e w7 ⟨rfl, hb7⟩
      go_wp2_with fail
      refine (H16a.out _).mono ?_
      rintro e w8 ⟨rfl, hb8⟩
      go_wp2_with fail
      refine (H16b.out _).mono ?_
      rintro e w9 ⟨rfl, hb9⟩
      go_wp2_with fail
      refine (c10 _).mono ?_
      rintro e w10 ⟨rfl, hb10⟩
      go_wp2
      go_ret
      exact ⟨by first | rfl | simp [q2, q6], Bl_then (Bl_then (Bl_then (Bl_then (Bl_then (Bl_then (Bl_then (Bl_then (Bl_then hb1 hb2) hb3) hb4) hb5) hb6) hb7) hb8) hb9) hb10⟩
    rcases Int.lt_trichotomy F 32768 with h | rfl | h
    · have p1 : (decide (0 < F) && decide (F < 32768)) = true := by simp; omega
      have p2 : (decide (0 < G) && decide (G < 32768)) = false := by simp; omega
      have q0 : ¬ F < 0 := by omega
      have q1 : ¬ 65535 < F := by omega
      have q2 : ¬ F = 0 := by omega
      have q4 : wrap64 (F + G) = 65536 := by unfold wrap64; omega
      have q5 : IntKind.i64.wrap (F + G) = 65536 := by rw [show F + G = 65536 by omega]; rfl
      have q6 : ¬ F = 32768 := by omega
      clear hG g0 g1 h
      have e16x : ∀ w, Calls Try.prog 16 #[.int .i64 x, .int .i64 b] w fun e w' => e = .returned (.bool true) ∧ Below w.heap.size w w' := fun w => by have := h16x w; rwa [p1] at this
      have e16a : ∀ w, Calls Try.prog 16 #[.int .i64 a, .int .i64 b] w fun e w' => e = .returned (.bool true) ∧ Below w.heap.size w w' := fun w => by have := h16a w; rwa [p1] at this
      have e16b : ∀ w, Calls Try.prog 16 #[.int .i64 b, .int .i64 a] w fun e w' => e = .returned (.bool false) ∧ Below w.heap.size w w' := fun w => by have := h16b w; rwa [p2] at this
      have H16x := hidd e16x
      have H16a := hidd e16a
      have H16b := hidd e16b
      have H18x := hidd h18x
      have H18a := hidd h18a
      clear e16x e16a e16b h16x h16a h16b h18x h18a p1 p2
      go_enter Try.func6, Try.ntmps6
      go_wp2_with fail
      refine (H9a.out _).mono ?_
      rintro e w1 ⟨rfl, hb1⟩
      go_wp2_with fail
      refine (H9b.out _).mono ?_
      rintro e w2 ⟨rfl, hb2⟩
      go_wp2_with fail
      refine (H13x.out _).mono ?_
      rintro e w3 ⟨rfl, rfl⟩
      go_wp2_with fail
      refine (H13a.out _).mono ?_
      rintro e w3 ⟨rfl, rfl⟩
      go_wp2_with fail
      refine (H9x.out _).mono ?_
      rintro e w3 ⟨rfl, hb3⟩
      go_wp2_with fail
      refine (H16x.out _).mono ?_
      rintro e w4 ⟨rfl, hb4⟩
      go_wp2_with fail
      refine (H16a.out _).mono ?_
      rintro e w5 ⟨rfl, hb5⟩
      go_wp2_with fail
      refine (H18x.out _).mono ?_
      rintro e w6 ⟨rfl, hb6⟩
      go_wp2_with fail
      refine (H18a.out _).mono ?_
      rintro e w7 ⟨rfl, hb7⟩
      go_wp2_with fail
      refine (H16a.out _).mono ?_
      rintro e w8 ⟨rfl, hb8⟩
      go_wp2_with fail
      refine (H16b.out _).mono ?_
      rintro e w9 ⟨rfl, hb9⟩
      go_wp2_with fail
      refine (c10 _).mono ?_
      rintro e w10 ⟨rfl, hb10⟩
      go_wp2
      go_ret
      exact ⟨by first | rfl | simp [q2, q6], Bl_then (Bl_then (Bl_then (Bl_then (Bl_then (Bl_then (Bl_then (Bl_then (Bl_then hb1 hb2) hb3) hb4) hb5) hb6) hb7) hb8) hb9) hb10⟩
    · obtain rfl : G = 32768 := by omega
      have p1 : (decide ((0 : Int) < 32768) && decide ((32768 : Int) < 32768)) = false := rfl
      have p2 := p1
      clear hF hG g0 g1
      have e16x : ∀ w, Calls Try.prog 16 #[.int .i64 x, .int .i64 b] w fun e w' => e = .returned (.bool false) ∧ Below w.heap.size w w' := fun w => by have := h16x w; rwa [p1] at this
      have e16a : ∀ w, Calls Try.prog 16 #[.int .i64 a, .int .i64 b] w fun e w' => e = .returned (.bool false) ∧ Below w.heap.size w w' := fun w => by have := h16a w; rwa [p1] at this
      have e16b : ∀ w, Calls Try.prog 16 #[.int .i64 b, .int .i64 a] w fun e w' => e = .returned (.bool false) ∧ Below w.heap.size w w' := fun w => by have := h16b w; rwa [p2] at this
      have H16x := hidd e16x
      have H16a := hidd e16a
      have H16b := hidd e16b
      have H18x := hidd h18x
      have H18a := hidd h18a
      clear e16x e16a e16b h16x h16a h16b h18x h18a p1 p2
      go_enter Try.func6, Try.ntmps6
      go_wp2_with fail
      refine (H9a.out _).mono ?_
      rintro e w1 ⟨rfl, hb1⟩
      go_wp2_with fail
      refine (H9b.out _).mono ?_
      rintro e w2 ⟨rfl, hb2⟩
      go_wp2_with fail
      refine (H13x.out _).mono ?_
      rintro e w3 ⟨rfl, rfl⟩
      go_wp2_with fail
      refine (H13a.out _).mono ?_
      rintro e w3 ⟨rfl, rfl⟩
      go_wp2_with fail
      refine (H9x.out _).mono ?_
      rintro e w3 ⟨rfl, hb3⟩
      go_wp2_with fail
      refine (H16x.out _).mono ?_
      rintro e w4 ⟨rfl, hb4⟩
      go_wp2_with fail
      refine (H16a.out _).mono ?_
      rintro e w5 ⟨rfl, hb5⟩
      go_wp2_with fail
      refine (H18x.out _).mono ?_
      rintro e w6 ⟨rfl, hb6⟩
      go_wp2_with fail
      refine (H18a.out _).mono ?_
      rintro e w7 ⟨rfl, hb7⟩
      go_wp2_with fail
      refine (H16a.out _).mono ?_
      rintro e w8 ⟨rfl, hb8⟩
      go_wp2_with fail
      refine (H16b.out _).mono ?_
      rintro e w9 ⟨rfl, hb9⟩
      go_wp2_with fail
      refine (c10 _).mono ?_
      rintro e w10 ⟨rfl, hb10⟩
      go_wp2
      go_ret
      exact ⟨by first | rfl | simp [q2, q6], Bl_then (Bl_then (Bl_then (Bl_then (Bl_then (Bl_then (Bl_then (Bl_then (Bl_then hb1 hb2) hb3) hb4) hb5) hb6) hb7) hb8) hb9) hb10⟩
    · have p1 : (decide (0 < F) && decide (F < 32768)) = false := by simp; omega
      have p2 : (decide (0 < G) && decide (G < 32768)) = true := by simp; omega
      have q0 : ¬ F < 0 := by omega
      have q1 : ¬ 65535 < F := by omega
      have q2 : ¬ F = 0 := by omega
      have q4 : wrap64 (F + G) = 65536 := by unfold wrap64; omega
      have q5 : IntKind.i64.wrap (F + G) = 65536 := by rw [show F + G = 65536 by omega]; rfl
      have q6 : ¬ F = 32768 := by omega
      clear hG g0 g1 h
      have e16x : ∀ w, Calls Try.prog 16 #[.int .i64 x, .int .i64 b] w fun e w' => e = .returned (.bool false) ∧ Below w.heap.size w w' := fun w => by have := h16x w; rwa [p1] at this
      have e16a : ∀ w, Calls Try.prog 16 #[.int .i64 a, .int .i64 b] w fun e w' => e = .returned (.bool false) ∧ Below w.heap.size w w' := fun w => by have := h16a w; rwa [p1] at this
      have e16b : ∀ w, Calls Try.prog 16 #[.int .i64 b, .int .i64 a] w fun e w' => e = .returned (.bool true) ∧ Below w.heap.size w w' := fun w => by have := h16b w; rwa [p2] at this
      have H16x := hidd e16x
      have H16a := hidd e16a
      have H16b := hidd e16b
      have H18x := hidd h18x
      have H18a := hidd h18a
      clear e16x e16a e16b h16x h16a h16b h18x h18a p1 p2
      go_enter Try.func6, Try.ntmps6
      go_wp2_with fail
      refine (H9a.out _).mono ?_
      rintro e w1 ⟨rfl, hb1⟩
      go_wp2_with fail
      refine (H9b.out _).mono ?_
      rintro e w2 ⟨rfl, hb2⟩
      go_wp2_with fail
      refine (H13x.out _).mono ?_
      rintro e w3 ⟨rfl, rfl⟩
      go_wp2_with fail
      refine (H13a.out _).mono ?_
      rintro e w3 ⟨rfl, rfl⟩
      go_wp2_with fail
      refine (H9x.out _).mono ?_
      rintro e w3 ⟨rfl, hb3⟩
      go_wp2_with fail
      refine (H16x.out _).mono ?_
      rintro e w4 ⟨rfl, hb4⟩
      go_wp2_with fail
      refine (H16a.out _).mono ?_
      rintro e w5 ⟨rfl, hb5⟩
      go_wp2_with fail
      refine (H18x.out _).mono ?_
      rintro e w6 ⟨rfl, hb6⟩
      go_wp2_with fail
      refine (H18a.out _).mono ?_
      rintro e w7 ⟨rfl, hb7⟩
      go_wp2_with fail
      refine (H16a.out _).mono ?_
      rintro e w8 ⟨rfl, hb8⟩
      go_wp2_with fail
      refine (H16b.out _).mono ?_
      rintro e w9 ⟨rfl, hb9⟩
      go_wp2_with fail
      refine (c10 _).mono ?_
      rintro e w10 ⟨rfl, hb10⟩
      go_wp2
      go_ret
      exact ⟨by first | rfl | simp [q2, q6], Bl_then (Bl_then (Bl_then (Bl_then (Bl_then (Bl_then (Bl_then (Bl_then (Bl_then hb1 hb2) hb3) hb4) hb5) hb6) hb7) hb8) hb9) hb10⟩
end Go.Proofs.Ytidndkddjdfccaa
