import Derived.Test.YtnlcibobhmcfpaaSa
import Derived.Test.YtnlcibobhmcfpaaQg
set_option linter.unusedSimpArgs false
namespace Go.Proofs.Ytnlcibobhmcfpaa
open Go.RowKit
/-- A row of the call's own that holds something. -/
theorem OwnPk.some {w : World} {B : Nat} {v : Value} {L : List Pk} (h : OwnPk w B v L) (hne : 0 < L.length) :
    ∃ g cap, v = .slice (some ⟨g, 0, none⟩) L.length cap ∧ B ≤ g ∧ g < w.heap.size ∧ L.length ≤ cap ∧ (∀ j u, (pkList L)[j]? = some u → w.cell? ⟨g, j, none⟩ = some u) ∧ (∀ k p, L[k]? = some p → PkHere w g (0 + k * 5) p) := by
  rcases h.2 with ⟨rfl, h0⟩ | ⟨g, cap, cur, rfl, hb, hh, hn, hm, hc, ht⟩
  · omega
  · obtain ⟨A, c, e, hr⟩ := h.rd
    injection e with e1 e2 e3
    subst e1
    rcases hr with h0 | ⟨b, o, e4, hb2, hr⟩
    · rw [h0] at hne; exact absurd hne (by simp)
    · simp at e4
      obtain ⟨rfl, rfl⟩ := e4
      refine ⟨g, cap, rfl, hb, hb2, hn, fun j u hj => ?_, hr⟩
      have hjl : j < (pkList L).length := (List.getElem?_eq_some_iff.1 hj).1
      rw [cell_of_heap hh, ← hj, ← ht, List.getElem?_take_of_lt (by rw [pkList_length] at hjl; omega)]
      simp
theorem c30e {w : World} {y B n : Nat} {v : Value} (h : RQ w y B n v []) :
    Calls Try.prog 30 #[.pointer (some ⟨y, 0, none⟩)] w fun e w' => e = .returned (.tuple #[Pk.zero.val, .int .i64 7]) ∧ Below w.heap.size w w' := by
  obtain ⟨A, c, rfl⟩ := h.form
  have h1 : w.cell? ⟨y, 1, none⟩ = some (.slice A 0 c) := cell_of_heap h.hy 1
  have hlt := h.y_lt
  clear h
  unfold Pk.val Pk.zero
  go_enter Try.func30, Try.ntmps30
  go_wp2
  refine bodyPost_ret (v := .tuple #[.agg #[.int .i64 0, .int .i64 0, .int .i64 0, .int .i64 0, .string ⟨#[]⟩], .int .i64 7]) ?_ ?_ ?_
  · simp [results, Try.results30, go_sem]
  · rfl
  · exact ⟨rfl, Bl_alloc (Below.refl _ _) _⟩
theorem c30h {w : World} {y B n : Nat} {v : Value} {p : Pk} {L : List Pk} (h : RQ w y B n v (p :: L)) :
    Calls Try.prog 30 #[.pointer (some ⟨y, 0, none⟩)] w fun e w' => e = .returned (.tuple #[p.val, .int .i64 0]) ∧ Below w.heap.size w w' := by
  obtain ⟨g, c, rfl, -, hg, hcap, -, hr⟩ := h.ho.some (by simp)
  have h1 : w.cell? ⟨y, 1, none⟩ = some (.slice (some ⟨g, 0, none⟩) (L.length + 1) c) := cell_of_heap h.hy 1
  have hlt := h.y_lt
  obtain ⟨c0, c1, c2, c3, c4⟩ := hr 0 p (by simp)
  simp only [Nat.zero_mul, Nat.zero_add, Nat.add_zero] at c0 c1 c2 c3 c4
  obtain ⟨s, d, t, nn, x⟩ := p
  clear h hr
  have hnz : ¬ ((L.length + 1 : Nat) : Int) = 0 := by omega
  unfold Pk.val
  go_enter Try.func30, Try.ntmps30
  go_wp2
  refine bodyPost_ret (v := .tuple #[.agg #[.int .i64 s, .int .i64 d, .int .i64 t, .int .i64 nn, .string x], .int .i64 0]) ?_ ?_ ?_
  · simp [results, Try.results30, go_sem]
  · rfl
  · exact ⟨rfl, Bl_alloc (Below.refl _ _) _⟩
set_option maxHeartbeats 400000 in
theorem c31 {w : World} {y B n : Nat} {v : Value} {L : List Pk} (h : RQ w y B n v L) (hL : L.length ≤ 64) (dst : Int) :
    Calls Try.prog 31 #[.pointer (some ⟨y, 0, none⟩), .int .i64 dst] w fun e w' => e = .returned (.int .i64 (cntB L dst)) ∧ w = w' := by
  obtain ⟨A, c, rfl, hrd⟩ := h.ho.rd
  have h1 : w.cell? ⟨y, 1, none⟩ = some (.slice A L.length c) := cell_of_heap h.hy 1
  have HR := hidd hrd
  clear h hrd
  go_enter Try.func31, Try.ntmps31
  go_wp2
  go_loopw [5, 6] (fun nn i wr => ∃ k : Nat, k ≤ L.length ∧ i = .int .i64 k ∧ nn = .int .i64 (cntB (L.take k) dst) ∧ w = wr) (fun _ i _ => L.length - (intOf i).toNat)
  case atStart => exact ⟨0, Nat.zero_le _, rfl, rfl, rfl⟩
  case round =>
    obtain ⟨k, hk, rfl, rfl, rfl⟩ := hrel
    by_cases hlt : k < L.length
    · obtain ⟨p, hp⟩ : ∃ p, L[k]? = some p := ⟨_, List.getElem?_eq_getElem hlt⟩
      obtain ⟨b, o, rfl, hbl, hcells⟩ : ∃ b o, A = some ⟨b, o, none⟩ ∧ b < w.heap.size ∧ ∀ k p, L[k]? = some p → PkHere w b (o + k * 5) p := by
        rcases HR.out with h0 | h0
        · rw [h0] at hlt; exact absurd hlt (by simp)
        · exact h0
      obtain ⟨-, c1, -, -, -⟩ := hcells k p hp
      have hcs := cntB_snoc (L.take k) p dst
      rw [← take_snoc' hp] at hcs
      have hle : cntB (L.take k) dst ≤ 64 := Nat.le_trans (cntB_le _ _) (by simp; omega)
      have HC := hidd hcs
      clear hcells hp hcs
      cases hd : dst == p.d with
      | true =>
        have hd2 : (p.d == dst) = true := by simpa using (by simpa using hd : dst = p.d).symm
        have HD := hidd hd2
        clear hd2
        go_wp2
        go_roundw
        case rel => exact ⟨k + 1, by omega, by go_num, by rw [HC.out, HD.out]; simp, by first | rfl | trivial⟩
        case measure => first | (simp [intOf]; done) | (simp [intOf]; omega)
      | false =>
        have hd2 : (p.d == dst) = false := by
          have := (by simpa using hd : ¬ dst = p.d)
          simpa using fun e => this e.symm
        have HD := hidd hd2
        clear hd2
        go_wp2
        go_roundw
        case rel => exact ⟨k + 1, by omega, by go_num, by rw [HC.out, HD.out]; simp, by first | rfl | trivial⟩
        case measure => first | (simp [intOf]; done) | (simp [intOf]; omega)
    · obtain rfl : k = L.length := by omega
      have ht : cntB (L.take L.length) dst = cntB L dst := by rw [List.take_length]
      rw [ht]
      clear ht
      go_wp2
      go_ret
      exact ⟨rfl, rfl⟩
end Go.Proofs.Ytnlcibobhmcfpaa
