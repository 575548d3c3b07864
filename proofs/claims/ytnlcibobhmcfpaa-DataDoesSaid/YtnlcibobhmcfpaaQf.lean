/- The walk of queue.cut: one packet is taken out of the ring. -/
import Derived.Test.YtnlcibobhmcfpaaQe
set_option linter.unusedSimpArgs false
namespace Go.Proofs.Ytnlcibobhmcfpaa
open Go.RowKit
/-- What lies in the ring while the k-th one is taken out and those ahead of it go one further: down to place j this is done. -/
def Shifted (L : List Pk) (k j : Nat) (M : List Pk) : Prop := M.length = L.length ∧ ∀ i, i < L.length → M[i]? = if j < i ∧ i ≤ k then L[i - 1]? else L[i]?
theorem Shifted.refl (L : List Pk) (k : Nat) : Shifted L k k L := ⟨rfl, fun i _ => by rw [if_neg (by omega)]⟩
theorem Shifted.step {L M : List Pk} {k j : Nat} {p : Pk} (h : Shifted L k (j + 1) M) (hj : j + 1 ≤ k) (hp : M[j]? = some p) : Shifted L k j (M.set (j + 1) p) := by
  refine ⟨by simpa using h.1, fun i hi => ?_⟩
  have hjl : j < M.length := (List.getElem?_eq_some_iff.1 hp).1
  by_cases e : i = j + 1
  · subst e
    have hm := h.1
    rw [List.getElem?_set_self (by omega), if_pos (by omega)]
    have := h.2 j (by omega)
    rw [if_neg (by omega)] at this
    rw [← hp, this]
    rfl
  · rw [List.getElem?_set_ne (by omega), h.2 i hi]
    by_cases c : j + 1 < i ∧ i ≤ k
    · rw [if_pos c, if_pos (by omega)]
    · rw [if_neg c, if_neg (by omega)]
theorem Shifted.tail {L M : List Pk} {k : Nat} (h : Shifted L k 0 M) (hk : k < L.length) : M.tail = L.eraseIdx k := by
  apply List.ext_getElem?
  intro i
  rw [List.getElem?_tail, List.getElem?_eraseIdx]
  by_cases hi : i + 1 < L.length
  · rw [h.2 (i + 1) hi]
    by_cases c : i < k
    · rw [if_pos (by omega), if_pos c]; rfl
    · rw [if_neg (by omega), if_neg c]
  · have hm := h.1
    rw [List.getElem?_eq_none (by omega)]
    split
    · rw [List.getElem?_eq_none (by omega)]
    · rw [List.getElem?_eq_none (by omega)]
theorem QAt.store {w : World} {q r n f : Nat} {R L : List Pk} (h : QAt w q r n f R L) {j : Nat} (hj : j < L.length) (p : Pk) : QAt (pkSet w r ((f + j) % n) p) q r n f (R.set ((f + j) % n) p) (L.set j p) := by
  have hL := h.hL
  have hm : (f + j) % n < R.length := by rw [h.hR]; exact Nat.mod_lt _ (by omega)
  refine ⟨by rw [pkSet_other h.hq h.ne]; simp, pk_store h.hr hm p, h.ne, h.n1, h.n64, h.hf, by simpa using h.hR, by simpa using h.hL, fun k hk => ?_⟩
  rw [List.length_set] at hk
  by_cases e : k = j
  · subst e; rw [List.getElem?_set_self hm, List.getElem?_set_self hk]
  · have hne : (f + j) % n ≠ (f + k) % n := by
      rcases Nat.lt_or_gt_of_ne e with h1 | h1
      · exact Ne.symm (mod_ne h1 (by omega))
      · exact mod_ne h1 (by omega)
    rw [List.getElem?_set_ne hne, List.getElem?_set_ne (Ne.symm e), h.at_ k hk]
theorem mod_next (f k n : Nat) : ((f + 1) % n + k) % n = (f + (k + 1)) % n := by
  rw [Nat.mod_add_mod]; congr 1; omega
theorem QAt.pop {w : World} {q r n f m : Nat} {R L : List Pk} (h : QAt w q r n f R L) (hm : L.length = m) (hl : 0 < m) :
    QAt ((w.setCell ⟨q, 1, none⟩ (.int .i64 (((f : Int) + 1) % n))).setCell ⟨q, 2, none⟩ (.int .i64 ((m : Int) - 1))) q r n ((f + 1) % n) R L.tail := by
  have hL := h.hL
  subst hm
  refine ⟨?_, ?_, h.ne, h.n1, h.n64, Nat.mod_lt _ (by omega), h.hR, by simp; omega, fun k hk => ?_⟩
  · have h1 := heap_set h.hq 1 (.int .i64 (((f : Int) + 1) % n))
    have h2 := heap_set h1 2 (.int .i64 ((L.length : Int) - 1))
    rw [h2]
    have : ((L.length : Int) - 1) = ((L.tail.length : Nat) : Int) := by simp; omega
    rw [this]
    simp
  · exact heap_set_ne (heap_set_ne h.hr (Ne.symm h.ne) _ _) (Ne.symm h.ne) _ _
  · rw [List.length_tail] at hk
    rw [mod_next, h.at_ (k + 1) (by omega), List.getElem?_tail]
theorem five_keeps (w : World) (b : Nat) (v0 v1 v2 v3 v4 : Value) {S : Nat → Prop} (hs : S b) : Keeps S w (((((w.setCell ⟨b, 0, none⟩ v0).setCell ⟨b, 1, none⟩ v1).setCell ⟨b, 2, none⟩ v2).setCell ⟨b, 3, none⟩ v3).setCell ⟨b, 4, none⟩ v4) :=
  (((((Keeps.refl S w).setCell (.inr hs) _).setCell (.inr hs) _).setCell (.inr hs) _).setCell (.inr hs) _).setCell (.inr hs) _
theorem QAt.drew {w : World} {q r n f : Nat} {R L : List Pk} (h : QAt w q r n f R L) : QAt w.drew q r n f R L := ⟨h.hq, h.hr, h.ne, h.n1, h.n64, h.hf, h.hR, h.hL, h.at_⟩
theorem tail_set {L : List Pk} {p : Pk} : (L.set 0 p).tail = L.tail := by cases L <;> rfl
set_option maxHeartbeats 1000000 in
theorem c53 {w : World} {q r n f : Nat} {R L : List Pk} (h : QAt w q r n f R L) {k : Nat} {p : Pk} (hp : L[k]? = some p) :
    Calls Try.prog 53 #[.pointer (some ⟨q, 0, none⟩), .int .i64 k] w fun e w' => e = .returned p.val ∧ (∃ f' R', QAt w' q r n f' R' (L.eraseIdx k)) ∧ Keeps (InQ q r) w w' := by
  have hk : k < L.length := (List.getElem?_eq_some_iff.1 hp).1
  have hL := Nat.le_trans h.hL h.n64
  obtain ⟨hlq, hlr⟩ := h.lt
  have hne := h.ne
  obtain ⟨g0, g1, g2, g3, g4⟩ := pk_cell h.hr ((h.at_ k hk).trans hp)
  have HQ := hidd h
  have HP := hidd hp
  clear h hp
  unfold Pk.val
  go_enter Try.func53, Try.ntmps53
  go_wp2_with (go_at_call 51; refine (c51q (HQ.out.below (Bl_alloc (Below.refl _ _) _)) _ (by omega) (by omega)).mono ?_; rintro e w' ⟨rfl, nq', rfl⟩)
  go_loopw [1] (fun kv wr => ∃ j : Nat, j ≤ k ∧ kv = .int .i64 j ∧ ∃ R' M, QAt wr q r n f R' M ∧ Shifted L k j M ∧ Keeps (InQ q r) w wr ∧ wr.heap[w.heap.size]? = some (.cells #[.int .i64 0, .int .i64 0, .int .i64 0, .int .i64 0, .string ⟨#[]⟩] 23 (0, 0)) ∧
      wr.heap[w.heap.size + 1]? = some (.cells #[.int .i64 p.s, .int .i64 p.d, .int .i64 p.t, .int .i64 p.n, .string p.x] 23 (0, 0))) (fun kv _ => (intOf kv).toNat)
  case atStart =>
    have hb : Below w.heap.size w (((w.alloc (.cells #[.int .i64 0, .int .i64 0, .int .i64 0, .int .i64 0, .string ⟨#[]⟩] 23)).drewN nq').alloc (.cells #[.int .i64 p.s, .int .i64 p.d, .int .i64 p.t, .int .i64 p.n, .string p.x] 23)) :=
      Bl_alloc ((Bl_alloc (Below.refl _ _) _).drewN _) _
    refine ⟨k, Nat.le_refl _, rfl, R, L, HQ.out.below hb, Shifted.refl _ _, Keeps.below hb, ?_, ?_⟩
    · exact heap_alloc (heap_drewN (heap_new _ _) _) _
    · have := heap_new ((w.alloc (.cells #[.int .i64 0, .int .i64 0, .int .i64 0, .int .i64 0, .string ⟨#[]⟩] 23)).drewN nq') (.cells #[.int .i64 p.s, .int .i64 p.d, .int .i64 p.t, .int .i64 p.n, .string p.x] 23)
      rw [show ((w.alloc (.cells #[.int .i64 0, .int .i64 0, .int .i64 0, .int .i64 0, .string ⟨#[]⟩] 23)).drewN nq').heap.size = w.heap.size + 1 by show (w.heap.push _).size = _; simp] at this
      exact this
  case round =>
    obtain ⟨j, hj, rfl, R', M, hQ, hS, hK, hb0, hb1⟩ := hrel
    have hfr := free_of_heap hQ.hr
    have hML := hS.1
    cases j with
    | succ j =>
      obtain ⟨u, hu⟩ : ∃ u, M[j]? = some u := ⟨_, List.getElem?_eq_getElem (by omega)⟩
      obtain ⟨v, hv⟩ : ∃ v, M[j + 1]? = some v := ⟨_, List.getElem?_eq_getElem (by omega)⟩
      obtain ⟨u0, u1, u2, u3, u4⟩ := pk_cell hQ.hr ((hQ.at_ j (by omega)).trans hu)
      obtain ⟨v0, v1, v2, v3, v4⟩ := pk_cell hQ.hr ((hQ.at_ (j + 1) (by omega)).trans hv)
      have HQ' := hidd hQ
      have HS := hidd hS
      have HU := hidd hu
      have HK := hidd hK
      have HB0 := hidd hb0
      have HB1 := hidd hb1
      have HML := hidd hML
      clear hQ hS hu hv hK hb0 hb1 hML
      go_wp2_with (first
        | (go_at_call 51; ((with_reducible refine (c51q HQ'.out _ ?_ ?_).mono ?_); (omega); (omega); rintro e w' ⟨rfl, nq1, rfl⟩))
        | (go_at_call 51; ((with_reducible refine (c51q (HQ'.out.drewN _) _ ?_ ?_).mono ?_); (omega); (omega); rintro e w' ⟨rfl, nq2, rfl⟩)))
      go_roundw
      case rel =>
        have hml := HML.out
        exact ⟨j, by omega, rfl, _, _, (HQ'.out.drewN _).store (by omega) u, HS.out.step (by omega) HU.out, (HK.out.drewN _).trans (pkSet_keeps (.inr rfl)), pkSet_other (heap_drewN HB0.out _) (by omega), pkSet_other (heap_drewN HB1.out _) (by omega)⟩
      case measure => first | (simp [intOf]; done) | (simp [intOf]; omega)
    | zero =>
      obtain ⟨v, hv⟩ : ∃ v, M[0]? = some v := ⟨_, List.getElem?_eq_getElem (by omega)⟩
      obtain ⟨v0, v1, v2, v3, v4⟩ := pk_cell (j := f % n) hQ.hr ((hQ.at_ 0 (by omega)).trans hv)
      have h0 := hQ.q0
      have h1 := hQ.q1
      have h2 := hQ.q2
      have hn := hQ.n64
      have hf := hQ.hf
      have hfq := free_of_heap hQ.hq
      have p0 := cell_of_heap hb1
      have z0 := cell_of_heap hb0
      have zf := free_of_heap hb0
      have HQ' := hidd hQ
      have HS := hidd hS
      have HK := hidd hK
      have HB0 := hidd hb0
      have HB1 := hidd hb1
      clear hQ hS hv hK hb0 hb1
      go_wp2_with (first
        | (go_at_call 51; ((with_reducible refine (c51q HQ'.out _ ?_ ?_).mono ?_); (omega); (omega); rintro e w' ⟨rfl, nq1, rfl⟩))
        | (go_at_call 51; ((with_reducible refine (c51q (HQ'.out.drewN _) _ ?_ ?_).mono ?_); (omega); (omega); rintro e w' ⟨rfl, nq2, rfl⟩)))
      have q1 := (HQ'.out.drewN nq1).store (j := 0) (by have := HS.out.1; omega) Pk.zero
      have k1 : Keeps (InQ q r) w (pkSet (wr.drewN nq1) r ((f + 0) % n) Pk.zero) := (HK.out.drewN _).trans (pkSet_keeps (.inr rfl))
      have b0 := pkSet_other (j := (f + 0) % n) (p := Pk.zero) (heap_drewN HB0.out nq1) (show w.heap.size ≠ r by omega)
      have b1 := pkSet_other (j := (f + 0) % n) (p := Pk.zero) (heap_drewN HB1.out nq1) (show w.heap.size + 1 ≠ r by omega)
      have ht : ∃ M1, M1 = M.set 0 Pk.zero := ⟨_, rfl⟩
      obtain ⟨M1, hM1⟩ := ht
      rw [← hM1] at q1
      have hM1l : M1.length = L.length := by rw [hM1, List.length_set]; exact HS.out.1
      have hM1t : M1.tail = L.eraseIdx k := by rw [hM1, tail_set]; exact HS.out.tail hk
      change Code.wp _ _ _ _ (pkSet (wr.drewN nq1) r ((f + 0) % n) Pk.zero)
      generalize pkSet (wr.drewN nq1) r ((f + 0) % n) Pk.zero = W1 at *
      clear h0 h1 h2 hfq p0 z0 zf hfr v0 v1 v2 v3 v4 hML
      have h0 := q1.q0
      have h1 := q1.q1
      have h2 := q1.q2
      have hfq := free_of_heap q1.hq
      have p0 := cell_of_heap b1
      have z0 := cell_of_heap b0
      have zf := free_of_heap b0
      rw [hM1l] at h2
      have Q1 := hidd q1
      have K1 := hidd k1
      have B0 := hidd b0
      have HM1 := hidd hM1l
      have HM1t := hidd hM1t
      clear q1 k1 b0 b1 hM1 hM1l hM1t HQ' HS HK HB0 HB1
      have e4 : 0 ≤ ((f : Int) + 1) % n := Int.emod_nonneg _ (by omega)
      have e5 : ((f : Int) + 1) % n < n := Int.emod_lt_of_pos _ (by omega)
      have hqn : ¬ q = w.heap.size := by omega
      have hnq : ¬ w.heap.size = q := by omega
      go_region_with (first
        | (go_at_call 56; refine (c56 q 1 f W1.drew h1).mono ?_; rintro e w' ⟨rfl, rfl⟩)
        | (go_at_call 61; refine (c61 q 1 (.int .i64 f) _ W1.drew h1 (hfq 1)).mono ?_; rintro e w' ⟨rfl, rfl⟩))
      all_goals go_wp2
      all_goals
        refine bodyPost_ret (v := .agg #[.int .i64 p.s, .int .i64 p.d, .int .i64 p.t, .int .i64 p.n, .string p.x]) (by simp [results, Try.results53, go_sem, z0, hqn, hnq]) rfl ⟨rfl, ⟨(f + 1) % n, R'.set ((f + 0) % n) Pk.zero, ?_⟩, ?_⟩
        · rw [← HM1t.out]
          exact (((Q1.out.pop HM1.out (by omega)).keeps (S := fun b => b = w.heap.size) (five_keeps _ _ _ _ _ _ _ rfl) (fun e => by omega) (fun e => by omega))).drew
        · exact (((((((K1.out.setCell (.inr (.inl rfl)) _).setCell (.inr (.inl rfl)) _).setCell (.inl (Nat.le_refl _)) _).setCell (.inl (Nat.le_refl _)) _).setCell (.inl (Nat.le_refl _)) _).setCell (.inl (Nat.le_refl _)) _).setCell (.inl (Nat.le_refl _)) _).drew
end Go.Proofs.Ytnlcibobhmcfpaa
