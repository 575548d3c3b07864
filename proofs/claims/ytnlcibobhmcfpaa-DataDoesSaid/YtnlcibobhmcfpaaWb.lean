/- The walks of the references of layers 8 and 22: Right, Hop, Decide. -/
import Derived.Test.YtnlcibobhmcfpaaBase
set_option linter.unusedSimpArgs false
namespace Go.Proofs.Ytnlcibobhmcfpaa
open Go.RowKit
theorem c48 (x : Int) (w : World) :
    Calls Try.prog 48 #[.int .i64 x] w fun e w' => e = .returned (.bool (nodeB x)) ∧ w = w' := by
  by_cases h0 : 0 ≤ x
  · go_enter Try.func48, Try.ntmps48
    go_wp2
    go_ret
    exact ⟨by simp [nodeB, h0], rfl⟩
  · go_enter Try.func48, Try.ntmps48
    go_wp2
    go_ret
    exact ⟨by simp [nodeB]; omega, rfl⟩
theorem c47 (s d t n : Int) (x : ByteArray) (w : World) :
    Calls Try.prog 47 #[.agg #[.int .i64 s, .int .i64 d, .int .i64 t, .int .i64 n, .string x]] w fun e w' => e = .returned (.bool (rightB s d t n x)) ∧ New1 w w' := by
  go_enter Try.func47, Try.ntmps47
  go_wp2
  all_goals
    go_ret
    refine ⟨congrArg Ending.returned (congrArg Value.bool ?_), ⟨_, rfl⟩⟩
    simp only [rightB, nodeB]
    first
    | (symm; simp [*]; done)
    | (symm; simp [*]; omega)
    | (rw [Bool.eq_iff_iff]; simp; omega)
theorem c47t (s d t n : Int) (x : ByteArray) (w : World) (h : rightB s d t n x = true) :
    Calls Try.prog 47 #[.agg #[.int .i64 s, .int .i64 d, .int .i64 t, .int .i64 n, .string x]] w fun e w' => e = .returned (.bool true) ∧ New1 w w' := (c47 s d t n x w).mono fun e w' he => by rw [h] at he; exact he
theorem c47f (s d t n : Int) (x : ByteArray) (w : World) (h : rightB s d t n x = false) :
    Calls Try.prog 47 #[.agg #[.int .i64 s, .int .i64 d, .int .i64 t, .int .i64 n, .string x]] w fun e w' => e = .returned (.bool false) ∧ New1 w w' := (c47 s d t n x w).mono fun e w' he => by rw [h] at he; exact he
theorem c49f (s d t n : Int) (x : ByteArray) (w : World) (h : rightB s d t n x = false) :
    Calls Try.prog 49 #[.agg #[.int .i64 s, .int .i64 d, .int .i64 t, .int .i64 n, .string x]] w fun e w' => e = .returned (.tuple #[.agg #[.int .i64 0, .int .i64 0, .int .i64 0, .int .i64 0, .string ⟨#[]⟩], .int .i64 1]) ∧ New3 w w' := by
  have H := hidd h
  clear h
  go_enter Try.func49, Try.ntmps49
  go_wp2_with (go_at_call 47; refine (c47f _ _ _ _ _ _ H.out).mono ?_; rintro e w' ⟨rfl, o, rfl⟩)
  refine bodyPost_ret (v := .tuple #[.agg #[.int .i64 0, .int .i64 0, .int .i64 0, .int .i64 0, .string ⟨#[]⟩], .int .i64 1]) (by simp [results, Try.results49, go_sem]) rfl ⟨rfl, ⟨_, _, _, rfl⟩⟩
theorem c49z (s d n : Int) (x : ByteArray) (w : World) (h : rightB s d 0 n x = true) :
    Calls Try.prog 49 #[.agg #[.int .i64 s, .int .i64 d, .int .i64 0, .int .i64 n, .string x]] w fun e w' => e = .returned (.tuple #[.agg #[.int .i64 0, .int .i64 0, .int .i64 0, .int .i64 0, .string ⟨#[]⟩], .int .i64 7]) ∧ New3 w w' := by
  have H := hidd h
  clear h
  go_enter Try.func49, Try.ntmps49
  go_wp2_with (go_at_call 47; refine (c47t _ _ _ _ _ _ H.out).mono ?_; rintro e w' ⟨rfl, o, rfl⟩)
  refine bodyPost_ret (v := .tuple #[.agg #[.int .i64 0, .int .i64 0, .int .i64 0, .int .i64 0, .string ⟨#[]⟩], .int .i64 7]) (by simp [results, Try.results49, go_sem]) rfl ⟨rfl, ⟨_, _, _, rfl⟩⟩
theorem c49g (s d t n : Int) (x : ByteArray) (w : World) (h : rightB s d t n x = true) (h0 : 0 < t) (h1 : t ≤ 255) :
    Calls Try.prog 49 #[.agg #[.int .i64 s, .int .i64 d, .int .i64 t, .int .i64 n, .string x]] w fun e w' => e = .returned (.tuple #[.agg #[.int .i64 s, .int .i64 d, .int .i64 (t - 1), .int .i64 n, .string x], .int .i64 0]) ∧ New3 w w' := by
  have H := hidd h
  clear h
  have ht : (t == 0) = false := by simp; omega
  go_enter Try.func49, Try.ntmps49
  go_wp2_with (go_at_call 47; refine (c47t _ _ _ _ _ _ H.out).mono ?_; rintro e w' ⟨rfl, o, rfl⟩)
  refine bodyPost_ret (v := .tuple #[.agg #[.int .i64 s, .int .i64 d, .int .i64 (t - 1), .int .i64 n, .string x], .int .i64 0]) (by simp [results, Try.results49, go_sem]) rfl ⟨rfl, ⟨_, _, _, rfl⟩⟩
set_option maxHeartbeats 1000000 in
theorem c15 (s d t n : Int) (x : ByteArray) (me next : Int) (ok : Bool) (w : World) :
    Calls Try.prog 15 #[.agg #[.int .i64 s, .int .i64 d, .int .i64 t, .int .i64 n, .string x], .int .i64 me, .int .i64 next, .bool ok] w fun e w' => e = .returned (decide22 s d t n x me next ok).val ∧ Below w.heap.size w w' := by
  by_cases h : rightB s d t n x = true
  · have H := hidd h
    obtain ⟨t0, t1⟩ := right_t h
    clear h
    by_cases ht : t = 0
    · subst ht
      go_enter Try.func15, Try.ntmps15
      go_wp2_with (first | (go_at_call 47; refine (c47t _ _ _ _ _ _ H.out).mono ?_; rintro e w' ⟨rfl, o, rfl⟩) | (go_at_call 49; refine (c49z _ _ _ _ _ H.out).mono ?_; rintro e w' ⟨rfl, o1, o2, o3, rfl⟩) | (go_at_call 48; refine (c48 _ _).mono ?_; rintro e w' ⟨rfl, rfl⟩))
      all_goals
        have Hh := H.out
        try simp only [Bool.not_eq_true] at *
        obtain ⟨v, Hv⟩ : ∃ v, v = decide22 s d 0 n x me next ok := ⟨_, rfl⟩
        have HV := hidd Hv
        have Hv' := Hv
        clear Hv
        simp only [decide22, Hh, Bool.true_and, Bool.and_true, Bool.false_and, Bool.and_false, Bool.not_true, Bool.not_false, Bool.true_or, Bool.or_true, Bool.false_or, Bool.or_false, cond_true, cond_false, *] at Hv'
        refine bodyPost_ret (v := (decide22 s d 0 n x me next ok).val) (by rw [← HV.out, Hv']; simp [results, Try.results15, go_sem, Ver.val]) rfl ⟨rfl, by repeat (first | exact Below.refl _ _ | refine Bl_alloc ?_ _)⟩
    · have ht' : 0 < t := by omega
      have htb : (t == 0) = false := by simp; omega
      go_enter Try.func15, Try.ntmps15
      go_wp2_with (first | (go_at_call 47; refine (c47t _ _ _ _ _ _ H.out).mono ?_; rintro e w' ⟨rfl, o, rfl⟩) | (go_at_call 49; refine (c49g _ _ _ _ _ _ H.out ht' t1).mono ?_; rintro e w' ⟨rfl, o1, o2, o3, rfl⟩) | (go_at_call 48; refine (c48 _ _).mono ?_; rintro e w' ⟨rfl, rfl⟩))
      all_goals
        have Hh := H.out
        try simp only [Bool.not_eq_true] at *
        obtain ⟨v, Hv⟩ : ∃ v, v = decide22 s d t n x me next ok := ⟨_, rfl⟩
        have HV := hidd Hv
        have Hv' := Hv
        clear Hv
        simp only [decide22, Hh, Bool.true_and, Bool.and_true, Bool.false_and, Bool.and_false, Bool.not_true, Bool.not_false, Bool.true_or, Bool.or_true, Bool.false_or, Bool.or_false, cond_true, cond_false, *] at Hv'
        refine bodyPost_ret (v := (decide22 s d t n x me next ok).val) (by rw [← HV.out, Hv']; simp [results, Try.results15, go_sem, Ver.val]) rfl ⟨rfl, by repeat (first | exact Below.refl _ _ | refine Bl_alloc ?_ _)⟩
  · simp at h
    have H := hidd h
    clear h
    go_enter Try.func15, Try.ntmps15
    go_wp2_with (first | (go_at_call 47; refine (c47f _ _ _ _ _ _ H.out).mono ?_; rintro e w' ⟨rfl, o, rfl⟩) | (go_at_call 49; refine (c49f _ _ _ _ _ _ H.out).mono ?_; rintro e w' ⟨rfl, o1, o2, o3, rfl⟩) | (go_at_call 48; refine (c48 _ _).mono ?_; rintro e w' ⟨rfl, rfl⟩))
    all_goals
      have Hh := H.out
      try simp only [Bool.not_eq_true] at *
      obtain ⟨v, Hv⟩ : ∃ v, v = decide22 s d t n x me next ok := ⟨_, rfl⟩
      have HV := hidd Hv
      have Hv' := Hv
      clear Hv
      simp only [decide22, Hh, Bool.true_and, Bool.and_true, Bool.false_and, Bool.and_false, Bool.not_true, Bool.not_false, Bool.true_or, Bool.or_true, Bool.false_or, Bool.or_false, cond_true, cond_false, *] at Hv'
      refine bodyPost_ret (v := (decide22 s d t n x me next ok).val) (by rw [← HV.out, Hv']; simp [results, Try.results15, go_sem, Ver.val]) rfl ⟨rfl, by repeat (first | exact Below.refl _ _ | refine Bl_alloc ?_ _)⟩
end Go.Proofs.Ytnlcibobhmcfpaa
