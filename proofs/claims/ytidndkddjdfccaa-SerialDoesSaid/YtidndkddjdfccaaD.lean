import Derived.Test.YtidndkddjdfccaaC
import Derived.Sort.Grow
set_option linter.unusedSimpArgs false
namespace Go.Proofs.Ytidndkddjdfccaa
open Go.RowKit Go.Sort
set_option maxHeartbeats 1000000 in
set_option maxRecDepth 100000 in
theorem c21x (a b : Int) (g : Nat) (W : World) (hg : g < W.heap.size) (h0 : W.cell? ⟨g, 0, none⟩ = some (.int .i64 a)) (h1 : W.cell? ⟨g, 1, none⟩ = some (.int .i64 b)) :
    Calls Try.prog 21 #[.slice (some ⟨g, 0, none⟩) 2 2] W fun e w' => e = .returned (.slice (some ⟨W.heap.size, 0, none⟩) 2 2) ∧ ∃ o1 o2, w' = ((W.alloc (.cells #[.int .u16 (IntKind.u16.wrap a), .int .u16 (IntKind.u16.wrap b)] 37)).alloc o1).alloc o2 := by
  obtain ⟨i0, hi, hz0, hz1, hz2⟩ := info_parts info37
  have hmk : (Instr.makeSlice 33 (.int .i64 0) (.int .i64 2)).run Try.prog W = .ok (.slice (some ⟨W.heap.size, 0, none⟩) 0 2) (W.alloc (.cells #[.int .u16 0, .int .u16 0] 37)) := by
    have hr := run_make (P := Try.prog) W 33 37 i0 _ Try.underlying33 hi hz0 .i64 .i64 0 2 (by omega) (by omega) (by rw [hz2]; omega) (by omega)
    rw [hz1] at hr
    have e : madeCells (Value.int IntKind.u16 0).cells (Int.toNat 2 * 1) = #[.int .u16 0, .int .u16 0] := by
      refine Array.ext (by simp [madeCells]) (fun i h1 h2 => ?_)
      match i, h2 with
      | 0, _ => simp [madeCells, Value.cells]
      | 1, _ => simp [madeCells, Value.cells]
    rw [e] at hr
    exact hr
  clear hi hz0 hz1 hz2
  go_enter Try.func21, Try.ntmps21
  go_wp2
  refine wp_loop_rounds 3 ?_; rw [rounds_succ]
  go_wp2
  rw [rounds_succ]
  go_wp2
  rw [rounds_succ]
  go_wp2
  go_ret
  exact ⟨rfl, _, _, rfl⟩
theorem four_grow (w : World) (a b c d : Obj) (n : Nat) : ((((w.alloc a).alloc b).alloc c).alloc d).drewN n = grow (w.drewN n) #[a, b, c, d] := by
  rw [alloc_eq_grow, alloc_eq_grow, alloc_eq_grow, alloc_eq_grow, grow_grow, grow_grow, grow_grow]
  rfl
set_option maxHeartbeats 400000 in
/-- Far, and what memory it makes. -/
theorem c9x (a b : Int) (w : World) : Calls Try.prog 9 #[.int .i64 a, .int .i64 b] w fun e w' => e = .returned (.int .i64 (farI a b)) ∧ ∃ q os, w' = grow (w.drewN q) os := by
  have hf : wrap64 (IntKind.u16.wrap (IntKind.u16.wrap b - IntKind.u16.wrap a)) = farI a b := by
    rw [u16w, u16w, u16w]
    unfold wrap64 farI
    omega
  go_enter Try.func9, Try.ntmps9
  go_wp2_with fail
  refine (c21x a b w.heap.size _ (by simp) (cell_of_heap (heap_new w _) 0) (cell_of_heap (heap_new w _) 1)).mono ?_
  rintro e w1 ⟨rfl, o1, o2, rfl⟩
  go_wp2_with fail
  go_quiet (fail)
  go_wp2
  go_ret
  exact ⟨ret64 hf, _, _, four_grow w _ _ _ _ _⟩
end Go.Proofs.Ytidndkddjdfccaa
