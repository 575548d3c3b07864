/- The walks of the reference's Beacon and Links. -/
import Derived.Test.YtocfnimeinongaaG
set_option linter.unusedSimpArgs false
set_option linter.unusedVariables false
namespace Go.Proofs.Ytocfnimeinongaa
open Go.RowKit
attribute [local go_sem ↓] Go.wp_at_zero Go.wp_at_succ
def rowsTo (T : Tab) (f : Int → Bool) (k : Nat) : List Ec := ((nums k).filter fun j => (T j).isSome && f j).map (ecAt T)
theorem nums_succ (k : Nat) : nums (k + 1) = nums k ++ [(k : Int)] := by unfold nums; rw [List.range_succ, List.map_append]; rfl
theorem rowsTo_succ (T : Tab) (f : Int → Bool) (k : Nat) : rowsTo T f (k + 1) = rowsTo T f k ++ (if (T k).isSome && f k then [ecAt T k] else []) := by
  unfold rowsTo
  rw [nums_succ, List.filter_append, List.map_append]
  congr 1
  cases h : (T k).isSome && f k <;> simp [List.filter_cons, h]
theorem rowsTo_len (T : Tab) (f : Int → Bool) (k : Nat) : (rowsTo T f k).length ≤ k := by
  unfold rowsTo
  rw [List.length_map]
  exact Nat.le_trans (List.length_filter_le _ _) (by simp [nums])
theorem echoL_to (T : Tab) : rowsTo T (fun _ => true) 64 = echoL T := by simp [rowsTo, echoL, keysL]
theorem linkL_to (T : Tab) : rowsTo T (fun k => (T.at k).t) 64 = linkL T := by
  unfold rowsTo linkL echoL keysL
  rw [List.filter_map, List.filter_filter]
  congr 1
  refine List.filter_congr fun x _ => ?_
  simp [ecAt, Bool.and_comm, Function.comp]
/-- The reference's cells. -/
theorem RAt.parts {w : World} {y : Nat} {st : St} (h : RAt w y st) : ∃ r, w.cell? ⟨y, 0, none⟩ = some (.int .i64 st.id) ∧ w.cell? ⟨y, 1, none⟩ = some (.int .i64 st.ep) ∧ w.cell? ⟨y, 2, none⟩ = some (.int .i64 st.hold) ∧ w.cell? ⟨y, 4, none⟩ = some (.slice (some ⟨r, 0, none⟩) 64 64) ∧ y < w.heap.size ∧ r < w.heap.size ∧ r ≠ y ∧
    ∀ k : Nat, k < 64 → w.cell? ⟨r, k * 4, none⟩ = some (.bool (st.T k).isSome) ∧ w.cell? ⟨r, k * 4 + 1, none⟩ = some (.int .i64 (st.T.at k).e) ∧ w.cell? ⟨r, k * 4 + 2, none⟩ = some (.int .i64 (st.T.at k).a) ∧ w.cell? ⟨r, k * 4 + 3, none⟩ = some (.bool (st.T.at k).t) := by
  obtain ⟨r, cs, h1, h2, h3⟩ := h
  refine ⟨r, cell_of_heap h1 0, cell_of_heap h1 1, cell_of_heap h1 2, cell_of_heap h1 4, (Array.getElem?_eq_some_iff.1 h1).1, (Array.getElem?_eq_some_iff.1 h2).1, (by rintro rfl; rw [h1] at h2; cases h2), fun k hk => ⟨?_, ?_, ?_, ?_⟩⟩
  · rw [cell_of_heap h2]; exact h3 k hk 0 _ rfl
  · rw [cell_of_heap h2]; exact h3 k hk 1 _ rfl
  · rw [cell_of_heap h2]; exact h3 k hk 2 _ rfl
  · rw [cell_of_heap h2]; exact h3 k hk 3 _ rfl
set_option maxRecDepth 100000 in
set_option maxHeartbeats 4000000 in
theorem c20 {w : World} {y : Nat} {st : St} (h : RAt w y st) :
    Calls Try.prog 20 #[.pointer (some ⟨y, 0, none⟩)] w fun e w' => ∃ v, e = .returned (.agg #[.int .i64 st.ep, v]) ∧ OwnE w' w.heap.size v (echoL st.T) ∧ Below w.heap.size w w' := by
  obtain ⟨r, -, hc1, -, hc4, ly, lr, hne, hrow⟩ := h.parts
  have HROW := hidd hrow
  clear hrow h
  go_enter Try.func20, Try.ntmps20
  go_wp2_with fail
  generalize hW : World.alloc (World.alloc w _) _ = w1
  have hB1 : Below w.heap.size w w1 := by rw [← hW]; exact Bl_alloc (Bl_alloc (Below.refl _ _) _) _
  have hh2 : w1.heap[w.heap.size]? = some (.cells #[.int .i64 0, .slice none 0 0] 34 (0, 0)) := by rw [← hW]; exact heap_alloc (heap_new w _) _
  have hh3 : w1.heap[w.heap.size + 1]? = some (.cells #[.int .i64 st.ep, .slice none 0 0] 34 (0, 0)) := by rw [← hW]; exact heap_new_at (by simp)
  have hl1 : w1.heap.size = w.heap.size + 2 := by rw [← hW]; simp
  have HB1 := hidd hB1
  have HH2 := hidd hh2
  have HH3 := hidd hh3
  clear hW hB1 hh2 hh3
  go_loopw [4] (fun i wr => ∃ (k : Nat) (v : Value), k ≤ 64 ∧ i = .int .i64 k ∧ wr.heap[w.heap.size + 1]? = some (.cells #[.int .i64 st.ep, v] 34 (0, 0)) ∧ OwnE wr w1.heap.size v (rowsTo st.T (fun _ => true) k) ∧ Keeps (fun i => i = w.heap.size + 1) w1 wr) (fun i _ => 64 - (intOf i).toNat)
  case atStart => exact ⟨0, _, Nat.zero_le _, rfl, HH3.out, OwnG.nil _ _ _ _ _, Keeps.refl _ _⟩
  case round =>
    obtain ⟨k, v, hk, rfl, hh, ho, hkp⟩ := hrel
    obtain ⟨A5, c5, rfl⟩ := (ho.rd ec_len).form
    generalize hn5 : (rowsTo st.T (fun _ => true) k).length = n5 at *
    have hn6 : n5 ≤ 64 := by rw [← hn5]; exact Nat.le_trans (rowsTo_len _ _ _) hk
    have HN5 := hidd hn5
    clear hn5
    have HK := hidd hkp
    have HHH := hidd hh
    have HOE := hidd ho
    have hkw : Keeps (fun i => i = w.heap.size + 1) w wr := hkp.of_below HB1.out
    have HKW := hidd hkw
    have hlr := hkp.size
    have hsz := hkw.size
    have g4 : wr.cell? ⟨y, 4, none⟩ = some (.slice (some ⟨r, 0, none⟩) 64 64) := (World.cell?_of_block (w := w) (a := ⟨y, 4, none⟩) (hkw.block y ly (by omega))).trans hc4
    have HG := hidd (fun (o : Nat) (u : Value) (hu : w.cell? ⟨r, o, none⟩ = some u) => (World.cell?_of_block (w := w) (a := ⟨r, o, none⟩) (hkw.block r lr (by omega))).trans hu)
    clear hkp hh ho hkw
    by_cases hlt : k < 64
    · have HKL := hidd hlt
      obtain ⟨q0, q1, -, -⟩ := HROW.out k hlt
      have d0 := HG.out _ _ q0
      have d1 := HG.out _ _ q1
      have e1 : wr.cell? ⟨w.heap.size + 1, 1, none⟩ = some (.slice A5 n5 c5) := cell_of_heap HHH.out 1
      have lx : w.heap.size + 1 < wr.heap.size := by omega
      have k0 : (0 : Int) ≤ k := by omega
      have k1 : (k : Int) < 64 := by omega
      clear q0 q1
      cases his : (st.T k).isSome with
      | false =>
        rw [his] at d0
        have HS := hidd his
        clear his
        go_wp2
        go_roundw
        case rel => exact ⟨k + 1, _, by have := HKL.out; omega, by go_num, HHH.out, by rw [rowsTo_succ, HS.out]; simpa using HN5.out ▸ HOE.out, HK.out⟩
        case measure => have := HKL.out; simp [intOf]; omega
      | true =>
        rw [his] at d0
        have HS := hidd his
        clear his
        generalize hhv : (st.T.at k) = hv at *
        have HHV := hidd hhv
        clear hhv
        go_wp2_with fail
        go_region_law (first
          | ((refine step_guard (.tmp 28) (.tmp 39) 32 (by with_reducible rfl) ?_); (refine step_app info51 Try.underlying32 rfl (by decide) (by decide) ec_len ec_one rfl (.tmp 28) (.tmp 39) rfl w1.heap.size (.slice A5 n5 c5) (rowsTo st.T (fun _ => true) k) rfl (HOE.out.below (by repeat (first | with_reducible exact Below.refl _ _ | with_reducible refine Bl_alloc ?_ _ | with_reducible refine Bl_drew ?_ | with_reducible refine Below.drewN ?_ _))) _ ⟨k, hv.e⟩ rfl (by refine ec_new ?_ ⟨k, hv.e⟩ _; first | rfl | simp) (by have := HN5.out; omega) (Nat.le_trans HK.out.size (Below.size (B := wr.heap.size) (w := wr) (by repeat (first | with_reducible exact Below.refl _ _ | with_reducible refine Bl_alloc ?_ _ | with_reducible refine Bl_drew ?_ | with_reducible refine Below.drewN ?_ _)))) ?_); intro g' cap w3 hown3 hg3; (have HGG := hidd (app_post HK.out (by repeat (first | with_reducible exact Below.refl _ _ | with_reducible refine Bl_alloc ?_ _ | with_reducible refine Bl_drew ?_ | with_reducible refine Below.drewN ?_ _)) HOE.out hg3)); (have hy3 := HGG.out.2.heapAt HHH.out (fun e => by have := HOE.out.base e; omega)); (have hc1 : w3.cell? ⟨w.heap.size + 1, 1, none⟩ = some (.slice A5 n5 c5) := cell_of_heap hy3 1); (have hc2 : w3.frozen? ⟨w.heap.size + 1, 1, none⟩ = false := free_of_heap hy3 1); (have HY3 := hidd hy3); (have HO3 := hidd hown3); clear hy3 hown3 hg3))
        all_goals
          go_wp2
          go_roundw
          case rel =>
            refine ⟨k + 1, _, by have := HKL.out; omega, by go_num, heap_set HY3.out 1 _, ?_, (HGG.out.1.setCell (.inr rfl) _)⟩
            have h3 := HO3.out.keeps ((Keeps.refl (fun i => i = w.heap.size + 1) w3).setCell (p := ⟨w.heap.size + 1, 1, none⟩) (.inr rfl) (.slice (some ⟨g', 0, none⟩) (n5 + 1) cap)) (fun j hj e => by have := HO3.out.base hj; omega)
            rw [rowsTo_succ, HS.out]
            have he : ecAt st.T k = ⟨k, hv.e⟩ := by unfold ecAt; rw [HHV.out]
            rw [HN5.out] at h3
            simp only [Bool.and_self, if_true, he, HN5.out]
            exact h3
          case measure => have := HKL.out; simp [intOf]; omega
    · obtain rfl : k = 64 := by omega
      have e0 : wr.cell? ⟨w.heap.size + 1, 0, none⟩ = some (.int .i64 st.ep) := cell_of_heap HHH.out 0
      have e1 : wr.cell? ⟨w.heap.size + 1, 1, none⟩ = some (.slice A5 n5 c5) := cell_of_heap HHH.out 1
      have hh2 : wr.heap[w.heap.size]? = some (.cells #[.int .i64 0, .slice none 0 0] 34 (0, 0)) := HK.out.heapAt HH2.out (by omega)
      have z0 : wr.cell? ⟨w.heap.size, 0, none⟩ = some (.int .i64 0) := cell_of_heap hh2 0
      have z1 : wr.cell? ⟨w.heap.size, 1, none⟩ = some (.slice none 0 0) := cell_of_heap hh2 1
      have z2 : wr.frozen? ⟨w.heap.size, 0, none⟩ = false := free_of_heap hh2 0
      have z3 : wr.frozen? ⟨w.heap.size, 1, none⟩ = false := free_of_heap hh2 1
      clear hh2
      go_wp2
      refine bodyPost_ret (v := .agg #[.int .i64 st.ep, .slice A5 n5 c5]) ?_ ?_ ?_
      · simp [results, Try.results20, go_sem, z0, z1]
      · rfl
      · refine ⟨_, rfl, ?_, ?_⟩
        · have h3 := HOE.out.keeps (((Keeps.refl (fun i => i = w.heap.size) wr).setCell (p := ⟨w.heap.size, 0, none⟩) (.inr rfl) (.int .i64 st.ep)).setCell (p := ⟨w.heap.size, 1, none⟩) (.inr rfl) (.slice A5 n5 c5)) (fun j hj e => by have := HOE.out.base hj; omega)
          rw [echoL_to] at h3
          exact h3.lower (by omega)
        · exact (((HKW.out.setCell (p := ⟨w.heap.size, 0, none⟩) (.inl (Nat.le_refl _)) (.int .i64 st.ep)).setCell (p := ⟨w.heap.size, 1, none⟩) (.inl (Nat.le_refl _)) _).toBelow (Nat.le_refl _) (fun j e => by omega))
end Go.Proofs.Ytocfnimeinongaa
