/- The walks of queue.Take, queue.First and queue.New. -/
import Derived.Test.YtnlcibobhmcfpaaQf
set_option linter.unusedSimpArgs false
namespace Go.Proofs.Ytnlcibobhmcfpaa
open Go.RowKit
theorem c52v {w : World} {q r n f : Nat} {R L : List Pk} (h : QAt w q r n f R L) {dst v : Int} (hv : findB L dst = v) :
    Calls Try.prog 52 #[.pointer (some ⟨q, 0, none⟩), .int .i64 dst] w fun e w' => e = .returned (.int .i64 v) ∧ ∃ nq, w.drewN nq = w' :=
  (c52 h dst).mono fun e w' he => by rw [hv] at he; exact he
theorem c23n (dst : Int) (w : World) :
    Calls Try.prog 23 #[.pointer none, .int .i64 dst] w fun e w' => e = .returned (.tuple #[Pk.zero.val, .int .i64 3]) ∧ Below w.heap.size w w' := by
  unfold Pk.val Pk.zero
  go_enter Try.func23, Try.ntmps23
  go_wp2
  refine bodyPost_ret (v := .tuple #[.agg #[.int .i64 0, .int .i64 0, .int .i64 0, .int .i64 0, .string ⟨#[]⟩], .int .i64 3]) ?_ ?_ ?_
  · simp [results, Try.results23, go_sem]
  · rfl
  · exact ⟨rfl, Bl_alloc (Below.refl _ _) _⟩
theorem c23m {w : World} {q r n f : Nat} {R L : List Pk} (h : QAt w q r n f R L) {dst : Int} (hv : findB L dst = -1) :
    Calls Try.prog 23 #[.pointer (some ⟨q, 0, none⟩), .int .i64 dst] w fun e w' => e = .returned (.tuple #[Pk.zero.val, .int .i64 7]) ∧ Below w.heap.size w w' := by
  have HQ := hidd h
  have HV := hidd hv
  clear h hv
  unfold Pk.val Pk.zero
  go_enter Try.func23, Try.ntmps23
  go_wp2_with (go_at_call 52; refine (c52v (HQ.out.below (Bl_alloc (Below.refl _ _) _)) HV.out).mono ?_; rintro e w' ⟨rfl, nq, rfl⟩)
  refine bodyPost_ret (v := .tuple #[.agg #[.int .i64 0, .int .i64 0, .int .i64 0, .int .i64 0, .string ⟨#[]⟩], .int .i64 7]) ?_ ?_ ?_
  · simp [results, Try.results23, go_sem]
  · rfl
  · exact ⟨rfl, (((((Below.setCell ((Bl_alloc (Below.refl _ _) _).drewN _) (Nat.le_refl _) _).setCell (Nat.le_refl _) _).setCell (Nat.le_refl _) _).setCell (Nat.le_refl _) _).setCell (Nat.le_refl _) _)⟩
theorem findB_some {L : List Pk} {dst : Int} (h : findB L dst ≠ -1) : ∃ (k : Nat) (p : Pk), findB L dst = k ∧ L[k]? = some p ∧ (p.d == dst) = true := by
  unfold findB at *
  cases hf : L.findIdx? (fun p => p.d == dst) with
  | none => rw [hf] at h; exact absurd rfl h
  | some k =>
    rw [List.findIdx?_eq_some_iff_getElem] at hf
    obtain ⟨hk, h1, _⟩ := hf
    exact ⟨k, L[k], rfl, List.getElem?_eq_getElem hk, h1⟩
set_option maxHeartbeats 400000 in
theorem c23h {w : World} {q r n f : Nat} {R L : List Pk} (h : QAt w q r n f R L) {dst : Int} {k : Nat} {p : Pk} (hv : findB L dst = k) (hp : L[k]? = some p) :
    Calls Try.prog 23 #[.pointer (some ⟨q, 0, none⟩), .int .i64 dst] w fun e w' => e = .returned (.tuple #[p.val, .int .i64 0]) ∧ (∃ f' R', QAt w' q r n f' R' (L.eraseIdx k)) ∧ Keeps (InQ q r) w w' := by
  obtain ⟨hlq, hlr⟩ := h.lt
  have HQ := hidd h
  have HV := hidd hv
  have HP := hidd hp
  clear h hv hp
  unfold Pk.val
  go_enter Try.func23, Try.ntmps23
  go_wp2_with (first
    | (go_at_call 52; refine (c52v (HQ.out.below (Bl_alloc (Below.refl _ _) _)) HV.out).mono ?_; rintro e w' ⟨rfl, nq, rfl⟩)
    | (go_at_call 53; refine (c53 ((HQ.out.below (Bl_alloc (Below.refl _ _) _)).drewN nq) HP.out).mono ?_; rintro e w1 ⟨rfl, ⟨f1, R1, hQ1⟩, hK1⟩; have hn0 := hK1.heapAt (heap_drewN (heap_new w (.cells #[.int .i64 0, .int .i64 0, .int .i64 0, .int .i64 0, .string ⟨#[]⟩] 23)) nq) (by unfold InQ; omega); have z0 := cell_of_heap hn0; have zf := free_of_heap hn0; have HK1 := hidd hK1; have HQ1 := hidd hQ1; have HN0 := hidd hn0; clear hK1 hQ1 hn0; unfold Pk.val))
  refine bodyPost_ret (v := .tuple #[.agg #[.int .i64 p.s, .int .i64 p.d, .int .i64 p.t, .int .i64 p.n, .string p.x], .int .i64 0]) (by simp [results, Try.results23, go_sem, z0]) rfl ⟨rfl, ⟨f1, R1, ?_⟩, ?_⟩
  · exact HQ1.out.keeps (S := fun b => b = w.heap.size) (five_keeps _ _ _ _ _ _ _ rfl) (fun e => by omega) (fun e => by omega)
  · have hK := HK1.out.of_below ((Bl_alloc (Below.refl _ _) _).drewN nq)
    exact ((((hK.setCell (.inl (Nat.le_refl _)) _).setCell (.inl (Nat.le_refl _)) _).setCell (.inl (Nat.le_refl _)) _).setCell (.inl (Nat.le_refl _)) _).setCell (.inl (Nat.le_refl _)) _
theorem c25n (w : World) : Calls Try.prog 25 #[.pointer none] w fun e w' => e = .returned (.tuple #[Pk.zero.val, .int .i64 3]) ∧ Below w.heap.size w w' := by
  unfold Pk.val Pk.zero
  go_enter Try.func25, Try.ntmps25
  go_wp2
  refine bodyPost_ret (v := .tuple #[.agg #[.int .i64 0, .int .i64 0, .int .i64 0, .int .i64 0, .string ⟨#[]⟩], .int .i64 3]) ?_ ?_ ?_
  · simp [results, Try.results25, go_sem]
  · rfl
  · exact ⟨rfl, Bl_alloc (Below.refl _ _) _⟩
theorem c25e {w : World} {q r n f : Nat} {R : List Pk} (h : QAt w q r n f R []) :
    Calls Try.prog 25 #[.pointer (some ⟨q, 0, none⟩)] w fun e w' => e = .returned (.tuple #[Pk.zero.val, .int .i64 7]) ∧ Below w.heap.size w w' := by
  have h2 := h.q2
  obtain ⟨hlq, hlr⟩ := h.lt
  clear h
  unfold Pk.val Pk.zero
  go_enter Try.func25, Try.ntmps25
  go_wp2
  refine bodyPost_ret (v := .tuple #[.agg #[.int .i64 0, .int .i64 0, .int .i64 0, .int .i64 0, .string ⟨#[]⟩], .int .i64 7]) ?_ ?_ ?_
  · simp [results, Try.results25, go_sem]
  · rfl
  · exact ⟨rfl, Bl_alloc (Below.refl _ _) _⟩
theorem c25h {w : World} {q r n f : Nat} {R L : List Pk} {p : Pk} (h : QAt w q r n f R (p :: L)) :
    Calls Try.prog 25 #[.pointer (some ⟨q, 0, none⟩)] w fun e w' => e = .returned (.tuple #[p.val, .int .i64 0]) ∧ Below w.heap.size w w' := by
  have h2 := h.q2
  rw [List.length_cons] at h2
  obtain ⟨hlq, hlr⟩ := h.lt
  obtain ⟨v0, v1, v2, v3, v4⟩ := pk_cell (j := f % n) h.hr (h.at_ 0 (by simp))
  have HQ := hidd h
  have hnz : (((L.length + 1 : Nat) : Int) == 0) = false := by simp; omega
  clear h
  unfold Pk.val
  go_enter Try.func25, Try.ntmps25
  go_wp2_with (go_at_call 51; refine (c51q (HQ.out.below (Bl_alloc (Below.refl _ _) _)) _ (by omega) (by omega)).mono ?_; rintro e w' ⟨rfl, nq', rfl⟩)
  refine bodyPost_ret (v := .tuple #[.agg #[.int .i64 p.s, .int .i64 p.d, .int .i64 p.t, .int .i64 p.n, .string p.x], .int .i64 0]) ?_ ?_ ?_
  · simp [results, Try.results25, go_sem]
  · rfl
  · exact ⟨rfl, (((((Below.setCell ((Bl_alloc (Below.refl _ _) _).drewN _) (Nat.le_refl _) _).setCell (Nat.le_refl _) _).setCell (Nat.le_refl _) _).setCell (Nat.le_refl _) _).setCell (Nat.le_refl _) _)⟩
theorem madeCells_pk (n : Nat) : (madeCells #[.int .i64 0, .int .i64 0, .int .i64 0, .int .i64 0, .string ⟨#[]⟩] (n * 5)).toList = pkList (List.replicate n Pk.zero) := by
  apply List.ext_getElem?
  intro i
  by_cases hi : i < n * 5
  · have e : i = i / 5 * 5 + i % 5 := by omega
    have hj : (List.replicate n Pk.zero)[i / 5]? = some Pk.zero := by rw [List.getElem?_replicate, if_pos (by omega)]
    rw [e, pkList_get hj (i % 5) (by omega), ← e]
    have hm := Nat.mod_lt i (show 0 < 5 by omega)
    simp only [madeCells, Array.toList_map, List.getElem?_map, Array.toList_range, List.getElem?_range hi, Option.map_some]
    generalize i % 5 = m at *
    match m, hm with
    | 0, _ => rfl
    | 1, _ => rfl
    | 2, _ => rfl
    | 3, _ => rfl
    | 4, _ => rfl
  · rw [List.getElem?_eq_none (by simp [madeCells]; omega), List.getElem?_eq_none (by rw [pkList_length]; simp; omega)]
theorem c18b (m : Int) (w : World) (h : m < 1 ∨ 64 < m) : Calls Try.prog 18 #[.int .i64 m] w fun e w' => e = .returned (.tuple #[.pointer none, .int .i64 1]) ∧ w = w' := by
  rcases h with h | h
  · go_enter Try.func18, Try.ntmps18
    go_wp2
    go_ret2
    exact ⟨rfl, rfl⟩
  · have h' : ¬ m < 1 := by omega
    go_enter Try.func18, Try.ntmps18
    go_wp2
    go_ret2
    exact ⟨rfl, rfl⟩
theorem own_make {w : World} {base g n : Nat} {xs : List Value} (h : w.ownsRow base 23 5 (.slice (some ⟨g, 0, none⟩) n n) n xs) : w.heap[g]? = some (.cells xs.toArray 23 (0, 0)) := by
  rcases h.2 with ⟨h1, _⟩ | ⟨g', cap, cur, hv, hb, hh, hn, hm, hc, ht⟩
  · exact absurd h1 (by simp)
  · simp only [Value.slice.injEq, Option.some.injEq, Addr.mk.injEq, true_and, and_true] at hv
    obtain ⟨rfl, rfl⟩ := hv
    rw [hh]
    congr 2
    apply Array.ext'
    rw [← ht, List.take_of_length_le (by simp; omega)]
def NewQ (n : Nat) (w : World) (e : Ending) (w' : World) : Prop := ∃ q r, e = .returned (.tuple #[.pointer (some ⟨q, 0, none⟩), .int .i64 0]) ∧
    QAt w' q r n 0 (List.replicate n Pk.zero) [] ∧ w.heap.size ≤ q ∧ w.heap.size ≤ r ∧ Below w.heap.size w w'
theorem c18g (n : Nat) (w : World) (h1 : 1 ≤ n) (h64 : n ≤ 64) : Calls Try.prog 18 #[.int .i64 n] w (NewQ n w) := by
  obtain ⟨i0, hi, hz0, hz1, hz2⟩ := info_parts info23
  have hn1 : ¬ (n : Int) < 1 := by omega
  have hn2 : ¬ 64 < (n : Int) := by omega
  go_enter Try.func18, Try.ntmps18
  go_wp2_with (at_make; refine wpList_make_full _ rfl _ _ 33 rfl w.heap.size 23 i0 _ 5 Try.underlying33 hi hz0 hz1 .i64 .i64 _ _ n rfl rfl rfl rfl (by rw [hz2]; omega) (by unfold maxLen; omega) (Nat.le_refl _) ?_; intro w1 hown hg)
  have hh : w1.heap[w.heap.size]? = some (.cells (pkList (List.replicate n Pk.zero)).toArray 23 (0, 0)) := by
    have := own_make hown
    rw [← madeCells_pk]
    exact this
  have hlt := (Array.getElem?_eq_some_iff.1 hh).1
  go_ret2
  refine ⟨w1.heap.size, w.heap.size, rfl, ?_, by have := hg.size; omega, Nat.le_refl _, ?_⟩
  · exact ⟨heap_new _ _, heap_alloc hh _, by omega, h1, h64, by omega, by simp, by simp, fun k hk => absurd hk (by simp)⟩
  · exact Bl_alloc ((Below.refl _ _).grown hg (Nat.le_refl _) (fun k hk => by cases hk)) _
end Go.Proofs.Ytnlcibobhmcfpaa
