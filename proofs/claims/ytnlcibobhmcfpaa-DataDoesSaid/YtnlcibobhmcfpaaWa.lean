/- The walks of packet.Check, packet.Hop and data.Decide: what they answer, and what memory they make. -/
import Derived.Test.YtnlcibobhmcfpaaBase
set_option linter.unusedSimpArgs false
namespace Go.Proofs.Ytnlcibobhmcfpaa
open Go.RowKit
theorem c60 (x : Int) (w : World) :
    Calls Try.prog 60 #[.int .i64 x] w fun e w' => e = .returned (.bool (nodeB x)) ∧ w = w' := by
  by_cases h0 : 0 ≤ x
  · go_enter Try.func60, Try.ntmps60
    go_wp2
    go_ret
    exact ⟨by simp [nodeB, h0], rfl⟩
  · go_enter Try.func60, Try.ntmps60
    go_wp2
    go_ret
    exact ⟨by simp [nodeB]; omega, rfl⟩
theorem c46 (x : Int) (w : World) :
    Calls Try.prog 46 #[.int .i64 x] w fun e w' => e = .returned (.bool (nodeB x)) ∧ w = w' := by
  by_cases h0 : 0 ≤ x
  · go_enter Try.func46, Try.ntmps46
    go_wp2
    go_ret
    exact ⟨by simp [nodeB, h0], rfl⟩
  · go_enter Try.func46, Try.ntmps46
    go_wp2
    go_ret
    exact ⟨by simp [nodeB]; omega, rfl⟩
theorem c50 (s d t n : Int) (x : ByteArray) (w : World) :
    Calls Try.prog 50 #[.agg #[.int .i64 s, .int .i64 d, .int .i64 t, .int .i64 n, .string x]] w fun e w' => e = .returned (.int .i64 (errOf (rightB s d t n x))) ∧ New1 w w' := by
  go_enter Try.func50, Try.ntmps50
  go_wp2_with (go_at_call 60; refine (c60 _ _).mono ?_; rintro e w' ⟨rfl, rfl⟩)
  all_goals
    go_ret
    refine ⟨congrArg Ending.returned ?_, ⟨_, rfl⟩⟩
    first
    | (refine (right_of (b := false) ?_).symm; simp [rightB, *]; done)
    | (refine (right_of (b := true) ?_).symm; simp [rightB, *]; done)
    | (refine (right_of (b := false) ?_).symm; simp only [rightB, Bool.and_eq_false_iff, decide_eq_false_iff_not]; omega)
    | (refine (right_of (b := true) ?_).symm; simp only [rightB, Bool.and_eq_true, decide_eq_true_eq]; refine ⟨⟨⟨⟨⟨⟨?_, ?_⟩, ?_⟩, ?_⟩, ?_⟩, ?_⟩, ?_⟩ <;> first | assumption | omega)
theorem c50t (s d t n : Int) (x : ByteArray) (w : World) (h : rightB s d t n x = true) :
    Calls Try.prog 50 #[.agg #[.int .i64 s, .int .i64 d, .int .i64 t, .int .i64 n, .string x]] w fun e w' => e = .returned (.int .i64 0) ∧ New1 w w' := (c50 s d t n x w).mono fun e w' he => by rw [h] at he; exact he
theorem c50f (s d t n : Int) (x : ByteArray) (w : World) (h : rightB s d t n x = false) :
    Calls Try.prog 50 #[.agg #[.int .i64 s, .int .i64 d, .int .i64 t, .int .i64 n, .string x]] w fun e w' => e = .returned (.int .i64 1) ∧ New1 w w' := (c50 s d t n x w).mono fun e w' he => by rw [h] at he; exact he
theorem c17f (s d t n : Int) (x : ByteArray) (w : World) (h : rightB s d t n x = false) :
    Calls Try.prog 17 #[.agg #[.int .i64 s, .int .i64 d, .int .i64 t, .int .i64 n, .string x]] w fun e w' => e = .returned (.tuple #[.agg #[.int .i64 0, .int .i64 0, .int .i64 0, .int .i64 0, .string ⟨#[]⟩], .int .i64 1]) ∧ New3 w w' := by
  have H := hidd h
  clear h
  go_enter Try.func17, Try.ntmps17
  go_wp2_with (go_at_call 50; refine (c50f _ _ _ _ _ _ H.out).mono ?_; rintro e w' ⟨rfl, o, rfl⟩)
  refine bodyPost_ret (v := .tuple #[.agg #[.int .i64 0, .int .i64 0, .int .i64 0, .int .i64 0, .string ⟨#[]⟩], .int .i64 1]) (by simp [results, Try.results17, go_sem]) rfl ⟨rfl, ⟨_, _, _, rfl⟩⟩
theorem c17z (s d n : Int) (x : ByteArray) (w : World) (h : rightB s d 0 n x = true) :
    Calls Try.prog 17 #[.agg #[.int .i64 s, .int .i64 d, .int .i64 0, .int .i64 n, .string x]] w fun e w' => e = .returned (.tuple #[.agg #[.int .i64 0, .int .i64 0, .int .i64 0, .int .i64 0, .string ⟨#[]⟩], .int .i64 7]) ∧ New3 w w' := by
  have H := hidd h
  clear h
  go_enter Try.func17, Try.ntmps17
  go_wp2_with (go_at_call 50; refine (c50t _ _ _ _ _ _ H.out).mono ?_; rintro e w' ⟨rfl, o, rfl⟩)
  refine bodyPost_ret (v := .tuple #[.agg #[.int .i64 0, .int .i64 0, .int .i64 0, .int .i64 0, .string ⟨#[]⟩], .int .i64 7]) (by simp [results, Try.results17, go_sem]) rfl ⟨rfl, ⟨_, _, _, rfl⟩⟩
theorem c17g (s d t n : Int) (x : ByteArray) (w : World) (h : rightB s d t n x = true) (h0 : 0 < t) (h1 : t ≤ 255) :
    Calls Try.prog 17 #[.agg #[.int .i64 s, .int .i64 d, .int .i64 t, .int .i64 n, .string x]] w fun e w' => e = .returned (.tuple #[.agg #[.int .i64 s, .int .i64 d, .int .i64 (t - 1), .int .i64 n, .string x], .int .i64 0]) ∧ New3 w w' := by
  have H := hidd h
  clear h
  have ht : (t == 0) = false := by simp; omega
  go_enter Try.func17, Try.ntmps17
  go_wp2_with (go_at_call 50; refine (c50t _ _ _ _ _ _ H.out).mono ?_; rintro e w' ⟨rfl, o, rfl⟩)
  refine bodyPost_ret (v := .tuple #[.agg #[.int .i64 s, .int .i64 d, .int .i64 (t - 1), .int .i64 n, .string x], .int .i64 0]) (by simp [results, Try.results17, go_sem]) rfl ⟨rfl, ⟨_, _, _, rfl⟩⟩
set_option maxHeartbeats 1000000 in
theorem c14 (s d t n : Int) (x : ByteArray) (me next : Int) (ok : Bool) (w : World) :
    Calls Try.prog 14 #[.agg #[.int .i64 s, .int .i64 d, .int .i64 t, .int .i64 n, .string x], .int .i64 me, .int .i64 next, .bool ok] w fun e w' => e = .returned (decide22 s d t n x me next ok).val ∧ New7 w w' := by
  by_cases h : rightB s d t n x = true
  · have H := hidd h
    obtain ⟨t0, t1⟩ := right_t h
    clear h
    by_cases ht : t = 0
    · subst ht
      go_enter Try.func14, Try.ntmps14
      go_wp2_with (first | (go_at_call 17; refine (c17z _ _ _ _ _ H.out).mono ?_; rintro e w' ⟨rfl, o1, o2, o3, rfl⟩) | (go_at_call 46; refine (c46 _ _).mono ?_; rintro e w' ⟨rfl, rfl⟩))
      all_goals
        have Hh := H.out
        try simp only [Bool.not_eq_true] at *
        obtain ⟨v, Hv⟩ : ∃ v, v = decide22 s d 0 n x me next ok := ⟨_, rfl⟩
        have HV := hidd Hv
        have Hv' := Hv
        clear Hv
        simp only [decide22, Hh, Bool.true_and, Bool.and_true, Bool.false_and, Bool.and_false, Bool.not_true, Bool.not_false, Bool.true_or, Bool.or_true, Bool.false_or, Bool.or_false, cond_true, cond_false, *] at Hv'
        refine bodyPost_ret (v := (decide22 s d 0 n x me next ok).val) (by rw [← HV.out, Hv']; simp [results, Try.results14, go_sem, Ver.val]) rfl ⟨rfl, ⟨_, _, _, _, _, _, _, rfl⟩⟩
    · have ht' : 0 < t := by omega
      have htb : (t == 0) = false := by simp; omega
      go_enter Try.func14, Try.ntmps14
      go_wp2_with (first | (go_at_call 17; refine (c17g _ _ _ _ _ _ H.out ht' t1).mono ?_; rintro e w' ⟨rfl, o1, o2, o3, rfl⟩) | (go_at_call 46; refine (c46 _ _).mono ?_; rintro e w' ⟨rfl, rfl⟩))
      all_goals
        have Hh := H.out
        try simp only [Bool.not_eq_true] at *
        obtain ⟨v, Hv⟩ : ∃ v, v = decide22 s d t n x me next ok := ⟨_, rfl⟩
        have HV := hidd Hv
        have Hv' := Hv
        clear Hv
        simp only [decide22, Hh, Bool.true_and, Bool.and_true, Bool.false_and, Bool.and_false, Bool.not_true, Bool.not_false, Bool.true_or, Bool.or_true, Bool.false_or, Bool.or_false, cond_true, cond_false, *] at Hv'
        refine bodyPost_ret (v := (decide22 s d t n x me next ok).val) (by rw [← HV.out, Hv']; simp [results, Try.results14, go_sem, Ver.val]) rfl ⟨rfl, ⟨_, _, _, _, _, _, _, rfl⟩⟩
  · simp at h
    have H := hidd h
    clear h
    go_enter Try.func14, Try.ntmps14
    go_wp2_with (first | (go_at_call 17; refine (c17f _ _ _ _ _ _ H.out).mono ?_; rintro e w' ⟨rfl, o1, o2, o3, rfl⟩) | (go_at_call 46; refine (c46 _ _).mono ?_; rintro e w' ⟨rfl, rfl⟩))
    all_goals
      have Hh := H.out
      try simp only [Bool.not_eq_true] at *
      obtain ⟨v, Hv⟩ : ∃ v, v = decide22 s d t n x me next ok := ⟨_, rfl⟩
      have HV := hidd Hv
      have Hv' := Hv
      clear Hv
      simp only [decide22, Hh, Bool.true_and, Bool.and_true, Bool.false_and, Bool.and_false, Bool.not_true, Bool.not_false, Bool.true_or, Bool.or_true, Bool.false_or, Bool.or_false, cond_true, cond_false, *] at Hv'
      refine bodyPost_ret (v := (decide22 s d t n x me next ok).val) (by rw [← HV.out, Hv']; simp [results, Try.results14, go_sem, Ver.val]) rfl ⟨rfl, ⟨_, _, _, _, _, _, _, rfl⟩⟩
end Go.Proofs.Ytnlcibobhmcfpaa
