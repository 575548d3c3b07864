/- The walks of the document's example of layer 10 (awake) and of the statement QueueNil. -/
import Derived.Test.YtnlcibobhmcfpaaQh
set_option linter.unusedSimpArgs false
namespace Go.Proofs.Ytnlcibobhmcfpaa
open Go.RowKit
def aw (d n : Int) : Pk := ⟨0, d, 0, n, ⟨#[]⟩⟩
theorem InQ_ge {q r B : Nat} (hq : B ≤ q) (hr : B ≤ r) : ∀ k, InQ q r k → B ≤ k := by
  intro k hk
  rcases hk with rfl | rfl <;> assumption
theorem Bl_keeps {q r : Nat} {w w1 w2 : World} (h : Below w.heap.size w w1) (k : Keeps (InQ q r) w1 w2) (hq : w.heap.size ≤ q) (hr : w.heap.size ≤ r) : Below w.heap.size w w2 := h.trans (k.toBelow h.size (InQ_ge hq hr))
set_option maxHeartbeats 1000000 in
theorem c19 (w : World) : Calls Try.prog 19 #[] w fun e w' => e = .returned (.bool true) ∧ Below w.heap.size w w' := by
  go_enter Try.func19, Try.ntmps19
  go_wp2_with fail
  refine (c18g 2 _ (by omega) (by omega)).mono ?_
  rintro e w1 ⟨q, r, rfl, hQ1, hq, hr, hB1⟩
  have HQ1 := hidd hQ1
  have HB1 := hidd hB1
  obtain ⟨l1, l2⟩ := hQ1.lt
  clear hQ1 hB1
  go_wp2_with fail
  refine (c20g HQ1.out (aw 1 1) (by decide) (by decide)).mono ?_
  rintro e w2 ⟨rfl, hQ2, hK2⟩
  have HQ2 := hidd hQ2
  have HB2 := hidd (HB1.out.trans (hK2.toBelow HB1.out.size (InQ_ge hq hr)))
  clear hQ2 hK2
  go_wp2_with fail
  refine (c20g HQ2.out (aw 2 2) (by decide) (by decide)).mono ?_
  rintro e w3 ⟨rfl, hQ3, hK3⟩
  have HQ3 := hidd hQ3
  have HB3 := hidd (HB2.out.trans (hK3.toBelow HB2.out.size (InQ_ge hq hr)))
  clear hQ3 hK3
  go_wp2_with fail
  refine (c20f HQ3.out (aw 1 3) (by decide) (by decide)).mono ?_
  rintro e w4 ⟨rfl, hb4⟩
  have HQ4 := hidd (HQ3.out.below hb4)
  have HB4 := hidd (HB3.out.trans (hb4.mono HB3.out.size))
  clear hb4
  go_wp2_with fail
  refine (c23h HQ4.out (dst := 2) (k := 1) (p := aw 2 2) (by decide) (by rfl)).mono ?_
  rintro e w5 ⟨rfl, ⟨f5, R5, hQ5⟩, hK5⟩
  have HQ5 := hidd hQ5
  have HB5 := hidd (HB4.out.trans (hK5.toBelow HB4.out.size (InQ_ge hq hr)))
  clear hQ5 hK5
  unfold Pk.val aw
  go_wp2_with fail
  refine (c23m (HQ5.out.below (Bl_alloc (Below.refl _ _) _)) (dst := 2) (by decide)).mono ?_
  rintro e w6 ⟨rfl, hb6⟩
  have hn := (Keeps.below (S := fun _ => False) hb6).heapAt (heap_new w5 (.cells #[.int .i64 0, .int .i64 2, .int .i64 0, .int .i64 2, .string ⟨#[]⟩] 23)) (fun x => x)
  have HQ6 := hidd ((HQ5.out.below (Bl_alloc (Below.refl _ _) _)).below hb6)
  have HB6 := hidd ((HB5.out.trans ((Bl_alloc (Below.refl w5.heap.size w5) (.cells #[.int .i64 0, .int .i64 2, .int .i64 0, .int .i64 2, .string ⟨#[]⟩] 23)).mono HB5.out.size)).trans (hb6.mono (Bl_alloc HB5.out _).size))
  have z0 := cell_of_heap (heap_alloc hn (.cells #[.int .i64 0, .int .i64 0, .int .i64 0, .int .i64 0, .string ⟨#[]⟩] 23))
  clear hb6 hn
  unfold Pk.val Pk.zero
  go_wp2_with (go_at_call 21; refine (c21 (HQ6.out.below (Bl_alloc (Below.refl _ _) _)) 1).mono ?_; rintro e w7 ⟨rfl, hb7⟩; have HB7 := hidd hb7; clear hb7)
  go_ret
  exact ⟨congrArg (fun b => Ending.returned (Value.bool b)) (by decide), Bl_then (Bl_alloc HB6.out _) HB7.out⟩
set_option maxHeartbeats 1000000 in
theorem c9 (p : Pk) (dst : Int) (w : World) : Calls Try.prog 9 #[p.val, .int .i64 dst] w fun e w' => e = .returned (.bool true) ∧ Below w.heap.size w w' := by
  obtain ⟨s, d, t, n, x⟩ := p
  unfold Pk.val
  go_enter Try.func9, Try.ntmps9
  go_wp2_with fail
  refine (c23n _ _).mono ?_
  rintro e w1 ⟨rfl, hb1⟩
  have hA1 := fun o => hb1.cell (p := ⟨w.heap.size, o, none⟩) (by first | (simp; done) | (simp; omega))
  have hl1 : w.heap.size < w1.heap.size := by have := hb1.size; simp at this; omega
  have HB1 := hidd (Bl_then (Bl_alloc (Below.refl _ _) _) hb1)
  clear hb1
  unfold Pk.val Pk.zero
  go_wp2_with fail
  refine (c25n _).mono ?_
  rintro e w2 ⟨rfl, hb2⟩
  have hA2 := fun o => hb2.cell (p := ⟨w.heap.size, o, none⟩) (by first | (simp; done) | (simp; omega))
  have hl2 : w.heap.size < w2.heap.size := by have := hb2.size; simp at this; omega
  have HB2 := hidd (Bl_then (Bl_alloc HB1.out _) hb2)
  clear hb2
  unfold Pk.val Pk.zero
  go_wp2_with fail
  refine (c19 _).mono ?_
  rintro e w3 ⟨rfl, hb3⟩
  have hA3 := fun o => hb3.cell (p := ⟨w.heap.size, o, none⟩) (by first | (simp; done) | (simp; omega))
  have hl3 : w.heap.size < w3.heap.size := by have := hb3.size; simp at this; omega
  have HB3 := hidd (Bl_then (Bl_alloc HB2.out _) hb3)
  clear hb3
  go_wp2_with fail
  refine (c20n ⟨s, d, t, n, x⟩ _).mono ?_
  rintro e w4 ⟨rfl, o4, rfl⟩
  go_wp2_with (first
    | (go_at_call 21; refine (c21n _ _).mono ?_; rintro e w' ⟨rfl, rfl⟩)
    | (go_at_call 26; refine (c26n _ _).mono ?_; rintro e w' ⟨rfl, rfl⟩)
    | (go_at_call 22; refine (c22n _).mono ?_; rintro e w' ⟨rfl, rfl⟩))
  go_ret
  exact ⟨rfl, Bl_alloc HB3.out _⟩
end Go.Proofs.Ytnlcibobhmcfpaa
