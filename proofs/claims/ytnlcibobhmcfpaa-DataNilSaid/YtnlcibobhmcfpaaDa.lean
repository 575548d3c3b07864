/- The walks of nil planes and of the statement DataNil. -/
import Derived.Test.YtnlcibobhmcfpaaQi
import Derived.Test.YtnlcibobhmcfpaaLa
import Derived.Test.YtnlcibobhmcfpaaShelf
set_option linter.unusedSimpArgs false
namespace Go.Proofs.Ytnlcibobhmcfpaa
open Go.RowKit
set_option maxHeartbeats 400000 in
theorem c34n (s d t n : Int) (x : ByteArray) (next : Int) (ok : Bool) (w : World) :
    Calls Try.prog 34 #[.pointer none, .agg #[.int .i64 s, .int .i64 d, .int .i64 t, .int .i64 n, .string x], .int .i64 next, .bool ok] w fun e w' => e = .returned (.tuple #[.agg #[.int .i64 0, .int .i64 0, .int .i64 0, .int .i64 0, .int .i64 0, .int .i64 0, .string ⟨#[]⟩], .int .i64 3]) ∧ New2 w w' := by
  go_enter Try.func34, Try.ntmps34
  go_wp2
  refine bodyPost_ret (v := .tuple #[.agg #[.int .i64 0, .int .i64 0, .int .i64 0, .int .i64 0, .int .i64 0, .int .i64 0, .string ⟨#[]⟩], .int .i64 3]) ?_ ?_ ?_
  · simp [results, Try.results34, go_sem]
  · rfl
  · exact ⟨rfl, ⟨_, _, rfl⟩⟩
theorem c35n (dst next : Int) (w : World) :
    Calls Try.prog 35 #[.pointer none, .int .i64 dst, .int .i64 next] w fun e w' => e = .returned (.tuple #[.slice none 0 0, .int .i64 3]) ∧ w = w' := by
  go_enter Try.func35, Try.ntmps35
  go_wp2
  go_ret2
  exact ⟨rfl, rfl⟩
theorem c36n (w : World) : Calls Try.prog 36 #[.pointer none] w fun e w' => e = .returned (.slice none 0 0) ∧ w = w' := by
  go_enter Try.func36, Try.ntmps36
  go_wp2
  go_ret
  exact ⟨rfl, rfl⟩
theorem c38n (w : World) : Calls Try.prog 38 #[.pointer none] w fun e w' => e = .returned (.agg #[.int .i64 0, .int .i64 0, .int .i64 0, .int .i64 0, .int .i64 0]) ∧ New2 w w' := by
  go_enter Try.func38, Try.ntmps38
  go_wp2
  refine bodyPost_ret (v := .agg #[.int .i64 0, .int .i64 0, .int .i64 0, .int .i64 0, .int .i64 0]) ?_ ?_ ?_
  · simp [results, Try.results38, go_sem]
  · rfl
  · exact ⟨rfl, ⟨_, _, rfl⟩⟩
theorem c39n (w : World) : Calls Try.prog 39 #[.pointer none] w fun e w' => e = .returned (.slice none 0 0) ∧ w = w' := by
  go_enter Try.func39, Try.ntmps39
  go_wp2_with (go_at_call 36; refine (c36n _).mono ?_; rintro e w' ⟨rfl, rfl⟩)
  refine wp_loop_rounds 1 ?_; rw [rounds_succ]
  go_wp2_with (first
    | (go_at_call 57; refine (Try.slices_Sort_int_none none 0 _).mono ?_; rintro e w' ⟨rfl, hw⟩; subst hw)
    | (go_at_call 58; refine (Try.slices_Compact_int_empty none 0 _).mono ?_; rintro e w' ⟨rfl, hw⟩; subst hw))
  go_ret
  exact ⟨rfl, rfl⟩
set_option maxHeartbeats 400000 in
theorem c12 (s d t n : Int) (x : ByteArray) (dst next : Int) (w : World) :
    Calls Try.prog 12 #[.agg #[.int .i64 s, .int .i64 d, .int .i64 t, .int .i64 n, .string x], .int .i64 dst, .int .i64 next] w fun e w' => e = .returned (.bool true) ∧ Below w.heap.size w w' := by
  go_enter Try.func12, Try.ntmps12
  go_wp2_with (first
    | (go_at_call 34; refine (c34n _ _ _ _ _ _ _ _).mono ?_; rintro e w' ⟨rfl, o1, o2, rfl⟩)
    | (go_at_call 35; refine (c35n _ _ _).mono ?_; rintro e w' ⟨rfl, rfl⟩)
    | (go_at_call 16; refine (c16 _).mono ?_; rintro e w2 ⟨rfl, hb2⟩)
    | (go_at_call 36; refine (c36n _).mono ?_; rintro e w' ⟨rfl, rfl⟩)
    | (go_at_call 39; refine (c39n _).mono ?_; rintro e w' ⟨rfl, rfl⟩)
    | (go_at_call 38; refine (c38n _).mono ?_; rintro e w' ⟨rfl, p1, p2, rfl⟩))
  go_ret
  exact ⟨rfl, Bl_alloc (Bl_alloc (Bl_then (Bl_alloc (Bl_alloc (Bl_alloc (Bl_alloc (Below.refl _ _) _) _) _) _) hb2) _) _⟩
end Go.Proofs.Ytnlcibobhmcfpaa
