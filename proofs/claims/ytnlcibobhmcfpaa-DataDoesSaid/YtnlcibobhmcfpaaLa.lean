/- The walks of the statements DataDecides and DataSame: each call returns true and leaves what was there as it was. -/
import Derived.Test.YtnlcibobhmcfpaaWa
import Derived.Test.YtnlcibobhmcfpaaWb
set_option linter.unusedSimpArgs false
namespace Go.Proofs.Ytnlcibobhmcfpaa
open Go.RowKit
theorem Bl_trans {w w1 w2 : World} (h : Below w.heap.size w w1) (k : Below w1.heap.size w1 w2) : Below w.heap.size w w2 := h.trans (k.mono h.size)
theorem c14v (s d t n : Int) (x : ByteArray) (me next : Int) (ok : Bool) (w : World) (kind to s' d' t' n' : Int) (x' : ByteArray) (err : Int) (h : decide22 s d t n x me next ok = ⟨kind, to, s', d', t', n', x', err⟩) :
    Calls Try.prog 14 #[.agg #[.int .i64 s, .int .i64 d, .int .i64 t, .int .i64 n, .string x], .int .i64 me, .int .i64 next, .bool ok] w fun e w' => e = .returned (.tuple #[.agg #[.int .i64 kind, .int .i64 to, .int .i64 s', .int .i64 d', .int .i64 t', .int .i64 n', .string x'], .int .i64 err]) ∧ New7 w w' :=
  (c14 s d t n x me next ok w).mono fun e w' he => by rw [h] at he; exact he
theorem aw1 : decide22 0 5 3 0 ⟨#[]⟩ 1 2 true = ⟨2, 2, 0, 5, 2, 0, ⟨#[]⟩, 0⟩ := rfl
theorem aw2 : decide22 0 5 0 0 ⟨#[]⟩ 5 0 false = ⟨1, 0, 0, 5, 0, 0, ⟨#[]⟩, 0⟩ := rfl
set_option maxHeartbeats 400000 in
theorem c16 (w : World) : Calls Try.prog 16 #[] w fun e w' => e = .returned (.bool true) ∧ Below w.heap.size w w' := by
  go_enter Try.func16, Try.ntmps16
  go_wp2_with (first
    | (go_at_call 14; ((with_reducible refine (c14v 0 5 3 0 ⟨#[]⟩ 1 2 true _ 2 2 0 5 2 0 ⟨#[]⟩ 0 aw1).mono ?_); rintro e w' ⟨rfl, o1, o2, o3, o4, o5, o6, o7, rfl⟩))
    | (go_at_call 14; ((with_reducible refine (c14v 0 5 0 0 ⟨#[]⟩ 5 0 false _ 1 0 0 5 0 0 ⟨#[]⟩ 0 aw2).mono ?_); rintro e w' ⟨rfl, p1, p2, p3, p4, p5, p6, p7, rfl⟩)))
  go_ret
  exact ⟨rfl, by repeat (first | exact Below.refl _ _ | refine Bl_alloc ?_ _)⟩
theorem c15v (s d t n : Int) (x : ByteArray) (me next : Int) (ok : Bool) (w : World) (kind to s' d' t' n' : Int) (x' : ByteArray) (err : Int) (h : decide22 s d t n x me next ok = ⟨kind, to, s', d', t', n', x', err⟩) :
    Calls Try.prog 15 #[.agg #[.int .i64 s, .int .i64 d, .int .i64 t, .int .i64 n, .string x], .int .i64 me, .int .i64 next, .bool ok] w fun e w' => e = .returned (.tuple #[.agg #[.int .i64 kind, .int .i64 to, .int .i64 s', .int .i64 d', .int .i64 t', .int .i64 n', .string x'], .int .i64 err]) ∧ Below w.heap.size w w' :=
  (c15 s d t n x me next ok w).mono fun e w' he => by rw [h] at he; exact he
set_option maxHeartbeats 400000 in
theorem c3 (s d t n : Int) (x : ByteArray) (me next : Int) (ok : Bool) (w : World) :
    Calls Try.prog 3 #[.agg #[.int .i64 s, .int .i64 d, .int .i64 t, .int .i64 n, .string x], .int .i64 me, .int .i64 next, .bool ok] w fun e w' => e = .returned (.bool true) ∧ Below w.heap.size w w' := by
  obtain ⟨v, hv⟩ : ∃ v, decide22 s d t n x me next ok = v := ⟨_, rfl⟩
  obtain ⟨kind, to, s', d', t', n', x', err⟩ := v
  have H := hidd hv
  clear hv
  by_cases hx : (x.size : Int) ≤ 600
  · go_enter Try.func3, Try.ntmps3
    go_wp2_with (first
      | (go_at_call 14; ((with_reducible refine (c14v s d t n x me next _ _ _ _ _ _ _ _ _ _ H.out).mono ?_); rintro e w' ⟨rfl, o1, o2, o3, o4, o5, o6, o7, rfl⟩))
      | (go_at_call 15; ((with_reducible refine (c15v s d t n x me next ok _ _ _ _ _ _ _ _ _ H.out).mono ?_); rintro e w1 ⟨rfl, hb1⟩; have hlt1 : w.heap.size + 1 + 1 + 1 + 1 + 1 + 1 + 1 + 1 < w1.heap.size := (by have hz1 := hb1.size; simp at hz1; omega); have hA1 := fun o => hb1.cell (p := ⟨w.heap.size + 1 + 1 + 1 + 1 + 1 + 1 + 1 + 1, o, none⟩) (by first | (simp; done) | (simp; omega))))
      | (go_at_call 16; ((with_reducible refine (c16 _).mono ?_); rintro e w2 ⟨rfl, hb2⟩; have hA2 := fun o => hb2.cell (p := ⟨w.heap.size + 1 + 1 + 1 + 1 + 1 + 1 + 1 + 1, o, none⟩) (by first | (simp; done) | (simp; omega)); have hB2 := fun o => hb2.cell (p := ⟨w1.heap.size, o, none⟩) (by first | (simp; done) | (simp; omega)))))
    go_ret
    exact ⟨rfl, by repeat (first | exact Below.refl _ _ | refine Bl_alloc ?_ _ | refine Bl_trans ?_ hb2 | refine Bl_trans ?_ hb1)⟩
  · go_enter Try.func3, Try.ntmps3
    go_wp2
    go_ret
    exact ⟨rfl, by repeat (first | exact Below.refl _ _ | refine Bl_alloc ?_ _)⟩
theorem c17v (s d t n : Int) (x : ByteArray) (w : World) (h : rightB s d t n x = true) (h0 : 0 < t) : Calls Try.prog 17 #[.agg #[.int .i64 s, .int .i64 d, .int .i64 t, .int .i64 n, .string x]] w fun e w' => e = .returned (.tuple #[.agg #[.int .i64 s, .int .i64 d, .int .i64 (t - 1), .int .i64 n, .string x], .int .i64 0]) ∧ New3 w w' :=
  c17g s d t n x w h h0 (right_t h).2
set_option maxHeartbeats 1000000 in
theorem c4 (s d t n : Int) (x : ByteArray) (me next : Int) (ok : Bool) (w : World) :
    Calls Try.prog 4 #[.agg #[.int .i64 s, .int .i64 d, .int .i64 t, .int .i64 n, .string x], .int .i64 me, .int .i64 next, .bool ok] w fun e w' => e = .returned (.bool true) ∧ Below w.heap.size w w' := by
  obtain ⟨v, hv⟩ : ∃ v, v = decide22 s d t n x me next ok := ⟨_, rfl⟩
  have H := hidd hv.symm
  by_cases hx : (x.size : Int) ≤ 600
  · unfold decide22 at hv
    cases hc : rightB s d t n x && nodeB me && !(ok && (!nodeB next || next == me)) with
    | false =>
      rw [hc] at hv; simp only [cond_false] at hv; subst hv
      clear hc
      go_enter Try.func4, Try.ntmps4
      go_wp2_with (first
        | (go_at_call 14; ((with_reducible refine (c14v s d t n x me next _ _ _ _ _ _ _ _ _ _ H.out).mono ?_); rintro e w' ⟨rfl, o1, o2, o3, o4, o5, o6, o7, rfl⟩))
        | (go_at_call 16; ((with_reducible refine (c16 _).mono ?_); rintro e w2 ⟨rfl, hb2⟩; have hA2 := fun o => hb2.cell (p := ⟨w.heap.size + 1 + 1 + 1 + 1 + 1 + 1 + 1 + 1, o, none⟩) (by first | (simp; done) | (simp; omega)))))
      go_ret
      exact ⟨by first | rfl | (simp; done) | (simp; omega), by repeat (first | exact Below.refl _ _ | refine Bl_alloc ?_ _ | refine Bl_trans ?_ hb2)⟩
    | true =>
      rw [hc] at hv; simp only [cond_true] at hv
      simp only [Bool.and_eq_true, Bool.not_eq_true', Bool.and_eq_false_iff] at hc
      obtain ⟨⟨hr, hm⟩, hk⟩ := hc
      have ⟨t0, t1⟩ := right_t hr
      have HR := hidd hr
      clear hr
      cases hd : d == me with
      | true =>
        rw [hd] at hv; simp only [cond_true] at hv; subst hv
        have hv := trivial
        clear hk
        clear hv
        go_enter Try.func4, Try.ntmps4
        go_wp2_with (first | (go_at_call 14; ((with_reducible refine (c14v s d t n x me next _ _ _ _ _ _ _ _ _ _ H.out).mono ?_); rintro e w' ⟨rfl, o1, o2, o3, o4, o5, o6, o7, rfl⟩)) | (go_at_call 16; ((with_reducible refine (c16 _).mono ?_); rintro e w2 ⟨rfl, hb2⟩; have hA0 := fun o => hb2.cell (p := ⟨w.heap.size, o, none⟩) (by first | (simp; done) | (simp; omega)); have hA2 := fun o => hb2.cell (p := ⟨w.heap.size + 1 + 1 + 1 + 1 + 1 + 1 + 1 + 1, o, none⟩) (by first | (simp; done) | (simp; omega)))))
        go_ret
        exact ⟨by first | rfl | (simp; done) | (simp; omega), by repeat (first | exact Below.refl _ _ | refine Bl_alloc ?_ _ | refine Bl_trans ?_ hb2)⟩
      | false =>
        rw [hd] at hv; simp only [cond_false] at hv
        cases ok with
        | false =>
          simp only [Bool.not_false, cond_true] at hv; subst hv
          have hv := trivial
          clear hk
          clear hv
          go_enter Try.func4, Try.ntmps4
          go_wp2_with (first | (go_at_call 14; ((with_reducible refine (c14v s d t n x me next _ _ _ _ _ _ _ _ _ _ H.out).mono ?_); rintro e w' ⟨rfl, o1, o2, o3, o4, o5, o6, o7, rfl⟩)) | (go_at_call 16; ((with_reducible refine (c16 _).mono ?_); rintro e w2 ⟨rfl, hb2⟩; have hA0 := fun o => hb2.cell (p := ⟨w.heap.size, o, none⟩) (by first | (simp; done) | (simp; omega)); have hA2 := fun o => hb2.cell (p := ⟨w.heap.size + 1 + 1 + 1 + 1 + 1 + 1 + 1 + 1, o, none⟩) (by first | (simp; done) | (simp; omega)))))
          go_ret
          exact ⟨by first | rfl | (simp; done) | (simp; omega), by repeat (first | exact Below.refl _ _ | refine Bl_alloc ?_ _ | refine Bl_trans ?_ hb2)⟩
        | true =>
          simp only [Bool.not_true, cond_false] at hv
          cases h0 : t == 0 with
          | true =>
            rw [h0] at hv; simp only [cond_true] at hv; subst hv
            have hv := trivial
            clear hk
            clear hv
            go_enter Try.func4, Try.ntmps4
            go_wp2_with (first | (go_at_call 14; ((with_reducible refine (c14v s d t n x me next _ _ _ _ _ _ _ _ _ _ H.out).mono ?_); rintro e w' ⟨rfl, o1, o2, o3, o4, o5, o6, o7, rfl⟩)) | (go_at_call 16; ((with_reducible refine (c16 _).mono ?_); rintro e w2 ⟨rfl, hb2⟩; have hA0 := fun o => hb2.cell (p := ⟨w.heap.size, o, none⟩) (by first | (simp; done) | (simp; omega)); have hA2 := fun o => hb2.cell (p := ⟨w.heap.size + 1 + 1 + 1 + 1 + 1 + 1 + 1 + 1, o, none⟩) (by first | (simp; done) | (simp; omega)))))
            go_ret
            exact ⟨by first | rfl | (simp; done) | (simp; omega), by repeat (first | exact Below.refl _ _ | refine Bl_alloc ?_ _ | refine Bl_trans ?_ hb2)⟩
          | false =>
            rw [h0] at hv; simp only [cond_false] at hv; subst hv
            have ht0 : 0 < t := by simp at h0; omega
            have hv := trivial
            clear hk
            clear hv
            go_enter Try.func4, Try.ntmps4
            go_wp2_with (first | (go_at_call 14; ((with_reducible refine (c14v s d t n x me next _ _ _ _ _ _ _ _ _ _ H.out).mono ?_); rintro e w' ⟨rfl, o1, o2, o3, o4, o5, o6, o7, rfl⟩)) | (go_at_call 16; ((with_reducible refine (c16 _).mono ?_); rintro e w2 ⟨rfl, hb2⟩; have hA0 := fun o => hb2.cell (p := ⟨w.heap.size, o, none⟩) (by first | (simp; done) | (simp; omega)); have hA2 := fun o => hb2.cell (p := ⟨w.heap.size + 1 + 1 + 1 + 1 + 1 + 1 + 1 + 1, o, none⟩) (by first | (simp; done) | (simp; omega)); have hA3 := fun o => hb2.cell (p := ⟨w.heap.size + 1 + 1 + 1 + 1 + 1 + 1 + 1 + 1 + 1 + 1 + 1 + 1, o, none⟩) (by first | (simp; done) | (simp; omega)))) | (go_at_call 17; ((with_reducible refine (c17v s d t n x _ HR.out ht0).mono ?_); rintro e w' ⟨rfl, q1, q2, q3, rfl⟩)))
            go_ret
            exact ⟨by first | rfl | (simp; done) | (simp; omega), by repeat (first | exact Below.refl _ _ | refine Bl_alloc ?_ _ | refine Bl_trans ?_ hb2)⟩
  · go_enter Try.func4, Try.ntmps4
    go_wp2
    go_ret
    exact ⟨by first | rfl | (simp; done) | (simp; omega), by repeat (first | exact Below.refl _ _ | refine Bl_alloc ?_ _)⟩
end Go.Proofs.Ytnlcibobhmcfpaa
