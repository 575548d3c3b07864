/- The walk of queue.Put. -/
import Derived.Test.YtnlcibobhmcfpaaQd
import Derived.Deep.RegionWith
set_option linter.unusedSimpArgs false
namespace Go.Proofs.Ytnlcibobhmcfpaa
open Go.RowKit
theorem c20n (p : Pk) (w : World) :
    Calls Try.prog 20 #[.pointer none, p.val] w fun e w' => e = .returned (.int .i64 3) ∧ New1 w w' := by
  obtain ⟨s, d, t, n, x⟩ := p
  unfold Pk.val
  go_enter Try.func20, Try.ntmps20
  go_wp2
  go_ret
  exact ⟨rfl, _, rfl⟩
def Pk.right (p : Pk) : Bool := rightB p.s p.d p.t p.n p.x
theorem c20b (q : Nat) (p : Pk) (w : World) (h : p.right = false) :
    Calls Try.prog 20 #[.pointer (some ⟨q, 0, none⟩), p.val] w fun e w' => e = .returned (.int .i64 1) ∧ Below w.heap.size w w' := by
  obtain ⟨s, d, t, n, x⟩ := p
  unfold Pk.val
  have H := hidd h
  clear h
  go_enter Try.func20, Try.ntmps20
  go_wp2_with (go_at_call 50; refine (c50f _ _ _ _ _ _ H.out).mono ?_; rintro e w' ⟨rfl, o, rfl⟩)
  go_ret
  exact ⟨rfl, Bl_alloc (Bl_alloc (Below.refl _ _) _) _⟩
theorem c20f {w : World} {q r n f : Nat} {R L : List Pk} (h : QAt w q r n f R L) (p : Pk) (hp : p.right = true) (hL : L.length = n) :
    Calls Try.prog 20 #[.pointer (some ⟨q, 0, none⟩), p.val] w fun e w' => e = .returned (.int .i64 8) ∧ Below w.heap.size w w' := by
  obtain ⟨s, d, t, nn, x⟩ := p
  unfold Pk.val
  have H := hidd hp
  have h2 := h.q2
  have h0 := h.q0
  obtain ⟨hlq, hlr⟩ := h.lt
  rw [hL] at h2
  clear hp hL h
  go_enter Try.func20, Try.ntmps20
  go_wp2_with (go_at_call 50; refine (c50t _ _ _ _ _ _ H.out).mono ?_; rintro e w' ⟨rfl, o, rfl⟩)
  go_quiet (fail)
  go_wp2
  go_ret
  exact ⟨rfl, (Bl_alloc (Bl_alloc (Below.refl _ _) _) _).drewN _⟩
theorem QAt.heapEq {w w' : World} {q r n f : Nat} {R L : List Pk} (h : QAt w q r n f R L) (e : w'.heap = w.heap) : QAt w' q r n f R L := ⟨by rw [e]; exact h.hq, by rw [e]; exact h.hr, h.ne, h.n1, h.n64, h.hf, h.hR, h.hL, h.at_⟩
def InQ (q r : Nat) (k : Nat) : Prop := k = q ∨ k = r
theorem Keeps.of_below {S : Nat → Prop} {a b c : World} (k : Keeps S b c) (h : Below a.heap.size a b) : Keeps S a c := (Keeps.below h).trans k
def pkSet (w : World) (r j : Nat) (p : Pk) : World :=
  ((((w.setCell ⟨r, j * 5, none⟩ (.int .i64 p.s)).setCell ⟨r, j * 5 + 1, none⟩ (.int .i64 p.d)).setCell ⟨r, j * 5 + 2, none⟩ (.int .i64 p.t)).setCell ⟨r, j * 5 + 3, none⟩ (.int .i64 p.n)).setCell ⟨r, j * 5 + 4, none⟩ (.string p.x)
theorem pkSet_other {w : World} {r j c : Nat} {p : Pk} {o : Obj} (h : w.heap[c]? = some o) (hne : c ≠ r) : (pkSet w r j p).heap[c]? = some o :=
  heap_set_ne (heap_set_ne (heap_set_ne (heap_set_ne (heap_set_ne h hne _ _) hne _ _) hne _ _) hne _ _) hne _ _
theorem pkSet_keeps {w : World} {r j : Nat} {p : Pk} {S : Nat → Prop} (hr : S r) : Keeps S w (pkSet w r j p) :=
  (((((Keeps.refl S w).setCell (.inr hr) _).setCell (.inr hr) _).setCell (.inr hr) _).setCell (.inr hr) _).setCell (.inr hr) _
theorem mod_ne {f k m n : Nat} (hk : k < m) (hm : m < n) : (f + k) % n ≠ (f + m) % n := by
  intro h
  have h1 := Nat.div_add_mod (f + k) n
  have h2 := Nat.div_add_mod (f + m) n
  rw [h] at h1
  have h3 : n * ((f + m) / n) - n * ((f + k) / n) = m - k := by omega
  rw [← Nat.mul_sub] at h3
  rcases Nat.eq_zero_or_pos ((f + m) / n - (f + k) / n) with h0 | h0
  · rw [h0] at h3; omega
  · have := Nat.le_mul_of_pos_right n h0; omega
theorem put_done {w : World} {q r n f : Nat} {R L : List Pk} (h : QAt w q r n f R L) (p : Pk) (hL : L.length < n) :
    QAt ((pkSet w r ((f + L.length) % n) p).setCell ⟨q, 2, none⟩ (.int .i64 ((L.length : Int) + 1))) q r n f (R.set ((f + L.length) % n) p) (L ++ [p]) := by
  have hj : (f + L.length) % n < R.length := by rw [h.hR]; exact Nat.mod_lt _ (by omega)
  refine ⟨?_, ?_, h.ne, h.n1, h.n64, h.hf, by simpa using h.hR, by simp; omega, fun k hk => ?_⟩
  · have := heap_set (pkSet_other (j := (f + L.length) % n) (p := p) h.hq h.ne) 2 (.int .i64 ((L.length : Int) + 1))
    rw [this]
    simp
  · exact heap_set_ne (pk_store h.hr hj p) (Ne.symm h.ne) _ _
  · rw [List.length_append, List.length_singleton] at hk
    rcases Nat.lt_or_ge k L.length with hk' | hk'
    · rw [List.getElem?_set_ne (Ne.symm (mod_ne hk' hL)), h.at_ k hk', List.getElem?_append_left hk']
    · obtain rfl : k = L.length := by omega
      rw [List.getElem?_set_self hj]
      simp
theorem put_keeps {w : World} {q r n f : Nat} {R L : List Pk} (_ : QAt w q r n f R L) (p : Pk) :
    Keeps (InQ q r) w ((pkSet w r ((f + L.length) % n) p).setCell ⟨q, 2, none⟩ (.int .i64 ((L.length : Int) + 1))) :=
  (pkSet_keeps (.inr rfl)).setCell (.inr (.inl rfl)) _
set_option maxHeartbeats 1000000 in
theorem c20g {w : World} {q r n f : Nat} {R L : List Pk} (h : QAt w q r n f R L) (p : Pk) (hp : p.right = true) (hL : L.length < n) :
    Calls Try.prog 20 #[.pointer (some ⟨q, 0, none⟩), p.val] w fun e w' => e = .returned (.int .i64 0) ∧ QAt w' q r n f (R.set ((f + L.length) % n) p) (L ++ [p]) ∧ Keeps (InQ q r) w w' := by
  obtain ⟨s, d, t, nn, x⟩ := p
  unfold Pk.val
  have H := hidd hp
  have h2 := h.q2
  have h0 := h.q0
  have h1 := h.q1
  have hn := h.n64
  have hf := h.hf
  obtain ⟨hlq, hlr⟩ := h.lt
  have hfz0 := free_of_heap h.hq 2
  have hj : (f + L.length) % n < R.length := by rw [h.hR]; exact Nat.mod_lt _ (by omega)
  obtain ⟨u, hu⟩ : ∃ u, R[(f + L.length) % n]? = some u := ⟨_, List.getElem?_eq_getElem hj⟩
  obtain ⟨g0, g1, g2, g3, g4⟩ := pk_cell h.hr hu
  have hfz := free_of_heap h.hr
  have HQ := hidd h
  have hne := h.ne
  have HJ := hidd hj
  clear hp h hu hj
  have hnf : ((L.length : Int) == n) = false := by simp; omega
  have HL := hidd hL
  go_enter Try.func20, Try.ntmps20
  go_wp2_with (go_at_call 50; refine (c50t _ _ _ _ _ _ H.out).mono ?_; rintro e w' ⟨rfl, o, rfl⟩)
  go_quiet (fail)
  go_wp2_with fail
  go_region_with (go_at_call 51; refine (c51q (R := R) (L := L) (n := n) (f := f) (r := r) ((HQ.out.below (Bl_alloc (Bl_alloc (Below.refl _ _) _) _)).drewN _) (L.length : Int) (by omega) (by omega)).mono ?_; rintro e w' ⟨rfl, nq', rfl⟩)
  all_goals
    go_wp2
    go_ret
    have hQ1 := HQ.out.below (Bl_alloc (Bl_alloc (Below.refl w.heap.size w) (.cells #[.int .i64 s, .int .i64 d, .int .i64 t, .int .i64 nn, .string x] 23)) o)
    exact ⟨rfl, put_done (hQ1.drewN _) ⟨s, d, t, nn, x⟩ HL.out, (put_keeps (hQ1.drewN _) ⟨s, d, t, nn, x⟩).of_below ((Bl_alloc (Bl_alloc (Below.refl _ _) _) _).drewN _)⟩
end Go.Proofs.Ytnlcibobhmcfpaa
