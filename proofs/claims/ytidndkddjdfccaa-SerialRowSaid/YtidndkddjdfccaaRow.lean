/- The walk of the statement SerialRow. -/
import Derived.Test.YtidndkddjdfccaaG
set_option linter.unusedSimpArgs false
namespace Go.Proofs.Ytidndkddjdfccaa
open Go.RowKit
theorem far_next {a x i : Int} (h : farI a x = i) (hi : 0 ≤ i) (h2 : i < 60000) : farI a (nxtI x) = i + 1 := by
  unfold farI nxtI at *
  omega
theorem far_back {a x i : Int} (h : farI a x = i) (hi : 0 < i) : farI x a = 65536 - i := by
  unfold farI at *
  omega
set_option maxHeartbeats 1000000 in
theorem c7 (a n : Int) (w : World) : Calls Try.prog 7 #[.int .i64 a, .int .i64 n] w fun e w' => e = .returned (.bool true) ∧ Below w.heap.size w w' := by
  by_cases hn : n < 0 ∨ 500 < n
  · go_enter Try.func7, Try.ntmps7
    rcases hn with hn | hn
    · go_wp2
      go_ret
      exact ⟨rfl, Below.refl _ _⟩
    · go_wp2
      go_ret
      exact ⟨rfl, Below.refl _ _⟩
  · obtain ⟨N, rfl⟩ : ∃ N : Nat, n = N := ⟨n.toNat, by omega⟩
    have hN : N ≤ 500 := by omega
    have e1 : ¬ (N : Int) < 0 := by omega
    have e2 : ¬ (500 : Int) < N := by omega
    clear hn
    go_enter Try.func7, Try.ntmps7
    go_wp2
    go_loopw [5, 6] (fun xv iv wr => ∃ (k : Nat) (x : Int), k ≤ N ∧ iv = .int .i64 k ∧ xv = .int .i64 x ∧ farI a x = k ∧ Below w.heap.size w wr) (fun _ iv _ => N - (intOf iv).toNat)
    case atStart => exact ⟨0, a, Nat.zero_le _, rfl, rfl, by unfold farI; omega, Below.refl _ _⟩
    case round =>
      obtain ⟨k, x, hk, rfl, rfl, hf, hb⟩ := hrel
      have h9 := fun w => c9 a x w
      rw [hf] at h9
      have h18 := fun w => c18 x a N w
      rw [hf] at h18
      have H9 := hidd h9
      by_cases hlt : k < N
      · have hd : decide ((k : Int) < N) = true := by simp; omega
        rw [hd] at h18
        have H18 := hidd h18
        have hki : (k : Int) < N := by omega
        have HF := hidd (far_next hf (by omega) (by omega))
        have H13 := hidd (fun w => c13 x w)
        have HB := hidd hb
        clear h9 h18 hb hd
        by_cases hk0 : k = 0
        · subst hk0
          clear hf
          go_wp2_with fail
          refine (H9.out _).mono ?_
          rintro e w1 ⟨rfl, hb1⟩
          go_wp2_with fail
          refine (H18.out _).mono ?_
          rintro e w2 ⟨rfl, hb2⟩
          go_wp2_with fail
          refine (H13.out _).mono ?_
          rintro e w3 ⟨rfl, rfl⟩
          go_wp2
          go_roundw
          case rel => exact ⟨1, nxtI x, by omega, by go_num, rfl, by rw [HF.out]; rfl, Bl_then (Bl_then HB.out hb1) hb2⟩
          case measure => first | (simp [intOf]; done) | (simp [intOf]; omega)
        · have h16 := fun w => c16 a x w
          have h16' := fun w => c16 x a w
          have l1 : lessI a x = true := by unfold lessI; rw [hf]; simp; omega
          have l2 : lessI x a = false := by unfold lessI; rw [far_back hf (by omega)]; simp; omega
          rw [l1] at h16
          rw [l2] at h16'
          have H16 := hidd h16
          have H16' := hidd h16'
          have hkp : (0 : Int) < k := by omega
          clear h16 h16' l1 l2 hf
          go_wp2_with fail
          refine (H9.out _).mono ?_
          rintro e w1 ⟨rfl, hb1⟩
          go_wp2_with fail
          refine (H18.out _).mono ?_
          rintro e w2 ⟨rfl, hb2⟩
          go_wp2_with fail
          refine (H16.out _).mono ?_
          rintro e w3 ⟨rfl, hb3⟩
          go_wp2_with fail
          refine (H16'.out _).mono ?_
          rintro e w4 ⟨rfl, hb4⟩
          go_wp2_with fail
          refine (H13.out _).mono ?_
          rintro e w5 ⟨rfl, rfl⟩
          go_wp2
          go_roundw
          case rel => exact ⟨k + 1, nxtI x, by omega, by go_num, rfl, by rw [HF.out]; omega, Bl_then (Bl_then (Bl_then (Bl_then HB.out hb1) hb2) hb3) hb4⟩
          case measure => first | (simp [intOf]; done) | (simp [intOf]; omega)
      · obtain rfl : k = N := by omega
        have hd : decide ((k : Int) < k) = false := by simp
        rw [hd] at h18
        have H18 := hidd h18
        have HB := hidd hb
        clear h9 h18 hb hd hf
        go_wp2_with fail
        refine (c10 _).mono ?_
        rintro e w1 ⟨rfl, hb1⟩
        go_wp2_with fail
        refine (H18.out _).mono ?_
        rintro e w2 ⟨rfl, hb2⟩
        go_wp2
        go_ret
        exact ⟨rfl, Bl_then (Bl_then HB.out hb1) hb2⟩
end Go.Proofs.Ytidndkddjdfccaa
