/- The walk of awake. -/
import Derived.Test.YtidndkddjdfccaaF
set_option linter.unusedSimpArgs false
namespace Go.Proofs.Ytidndkddjdfccaa
open Go.RowKit Go.Sort Go.Shelf Go.Lib
theorem cp : compactUpTo ([65535, 0, 2, 2] : List Int).toArray 4 = [65535, 0, 2] := by decide +kernel
theorem s1 : sorted16 65534 [2, 65535, 0, 2] = [to16 65535, to16 0, to16 2, to16 2] := by
  unfold sorted16
  simp only [List.map_cons, List.map_nil]
  have e : ∀ x y, (!ltOf (cf 65534) y x) = decide (farI 65534 (x.val : Int) ≤ farI 65534 (y.val : Int)) := by
    intro x y
    rw [lt16]
    by_cases h : farI 65534 (y.val : Int) < farI 65534 (x.val : Int)
    · have : ¬ farI 65534 (x.val : Int) ≤ farI 65534 (y.val : Int) := by omega
      simp [h, this]
    · have : farI 65534 (x.val : Int) ≤ farI 65534 (y.val : Int) := by omega
      simp [h, this]
  simp only [e]
  simp [List.mergeSort, List.MergeSort.Internal.splitInTwo, List.merge, to16_val, lf, farI]
theorem sort_aw : sortI 65534 [2, 65535, 0, 2] = [65535, 0, 2] := by
  unfold sortI
  have e : sorted 65534 [2, 65535, 0, 2] = [65535, 0, 2, 2] := by unfold sorted; rw [s1]; simp [to16_val, lf]
  rw [e]
  exact cp
theorem rd_new {w : World} {n : Nat} {L : List Int} (h : L.length = n) (T : TypeId) : RdN .i64 (w.alloc (.cells (L.map (Value.int .i64)).toArray T)) (.slice (some ⟨w.heap.size, 0, none⟩) n n) L := by
  subst h
  refine ⟨_, _, rfl, .inr ⟨_, _, rfl, by simp, fun k x hk => ?_⟩⟩
  rw [Nat.zero_add, cell_of_heap (heap_new w _) k]
  simp [hk]
set_option maxHeartbeats 1000000 in
theorem c10 (w : World) : Calls Try.prog 10 #[] w fun e w' => e = .returned (.bool true) ∧ Below w.heap.size w w' := by
  have f1 : nxtI 65535 = 0 := by decide
  have f2 : farI 65535 2 = 3 := by decide
  have f3 : lessI 65535 2 = true := by decide
  have f4 : lessI 2 65535 = false := by decide
  have h13 := fun w => c13 65535 w
  have h9 := fun w => c9 65535 2 w
  have h16 := fun w => c16 65535 2 w
  have h16' := fun w => c16 2 65535 w
  rw [f1] at h13
  rw [f2] at h9
  rw [f3] at h16
  rw [f4] at h16'
  have H13 := hidd h13
  have H9 := hidd h9
  have H16 := hidd h16
  have H16' := hidd h16'
  clear h13 h9 h16 h16' f1 f2 f3 f4
  go_enter Try.func10, Try.ntmps10
  go_wp2_with fail
  refine (H13.out _).mono ?_
  rintro e w1 ⟨rfl, rfl⟩
  go_wp2_with fail
  refine (H9.out _).mono ?_
  rintro e w1 ⟨rfl, hb1⟩
  go_wp2_with fail
  refine (H16.out _).mono ?_
  rintro e w2 ⟨rfl, hb2⟩
  go_wp2_with fail
  refine (H16'.out _).mono ?_
  rintro e w3 ⟨rfl, hb3⟩
  have HB3 := hidd (Bl_then (Bl_then hb1 hb2) hb3)
  clear hb1 hb2 hb3
  go_wp2_with fail
  refine (c8 (L := [2, 65535, 0, 2]) 65534 (rd_new (L := [2, 65535, 0, 2]) rfl _) (by simp)).mono ?_
  rintro e w4 ⟨v4, rfl, ho4, hb4⟩
  rw [sort_aw] at ho4
  have HB4 := hidd (Bl_then HB3.out (Bl_then (w := w3) (Bl_alloc (Below.refl _ _) _) hb4))
  have HO4 := hidd ho4
  clear ho4 hb4
  go_wp2_with fail
  refine (c11 (HO4.out.below (Bl_alloc (Below.refl _ _) _)).rd (rd_new (L := [65535, 0, 2]) rfl _) (by simp) rfl).mono ?_
  rintro e w5 ⟨rfl, nq, rfl⟩
  go_wp2
  go_ret
  exact ⟨rfl, (Bl_alloc HB4.out _).drewN _⟩
end Go.Proofs.Ytidndkddjdfccaa
