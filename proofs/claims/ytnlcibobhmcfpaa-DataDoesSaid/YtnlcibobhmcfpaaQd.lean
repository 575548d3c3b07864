/- Rows of packets that are read; the walks of queue.Count and of the comparison of two rows. -/
import Derived.Test.YtnlcibobhmcfpaaQc
set_option linter.unusedSimpArgs false
namespace Go.Proofs.Ytnlcibobhmcfpaa
open Go.RowKit
/-- The packet p lies from block b, place o on. -/
def PkHere (w : World) (b o : Nat) (p : Pk) : Prop :=
  w.cell? ⟨b, o, none⟩ = some (.int .i64 p.s) ∧ w.cell? ⟨b, o + 1, none⟩ = some (.int .i64 p.d) ∧ w.cell? ⟨b, o + 2, none⟩ = some (.int .i64 p.t) ∧ w.cell? ⟨b, o + 3, none⟩ = some (.int .i64 p.n) ∧ w.cell? ⟨b, o + 4, none⟩ = some (.string p.x)
/-- The slice v reads as the packets L. -/
def RdPk (w : World) (v : Value) (L : List Pk) : Prop :=
  ∃ A c, v = .slice A L.length c ∧ (L = [] ∨ ∃ b o, A = some ⟨b, o, none⟩ ∧ b < w.heap.size ∧ ∀ k p, L[k]? = some p → PkHere w b (o + k * 5) p)
theorem PkHere.keeps {w w' : World} {b o : Nat} {p : Pk} (h : PkHere w b o p) {S : Nat → Prop} (k : Keeps S w w') (hb : b < w.heap.size) (hs : ¬ S b) : PkHere w' b o p := by
  have e : ∀ i, w'.cell? ⟨b, i, none⟩ = w.cell? ⟨b, i, none⟩ := fun i => World.cell?_of_block (w := w) (k.block b hb hs)
  unfold PkHere at *
  simp only [e]
  exact h
theorem RdPk.keeps {w w' : World} {v : Value} {L : List Pk} (h : RdPk w v L) {S : Nat → Prop} (k : Keeps S w w') (hs : ∀ g, v.ownBlock = some g → ¬ S g) : RdPk w' v L := by
  obtain ⟨A, c, rfl, h⟩ := h
  refine ⟨A, c, rfl, ?_⟩
  rcases h with h | ⟨b, o, rfl, hb, h⟩
  · exact .inl h
  · exact .inr ⟨b, o, rfl, Nat.lt_of_lt_of_le hb k.size, fun j p hp => (h j p hp).keeps k hb (hs b rfl)⟩
theorem RdPk.below {w w' : World} {v : Value} {L : List Pk} (h : RdPk w v L) (k : Below w.heap.size w w') : RdPk w' v L :=
  h.keeps (Keeps.below (S := fun _ => False) k) (fun _ _ x => x)
theorem OwnPk.rd {w : World} {base : Nat} {v : Value} {L : List Pk} (h : OwnPk w base v L) : RdPk w v L := by
  rcases h.2 with ⟨rfl, h0⟩ | ⟨g, cap, cur, rfl, hb, hh, hn, hm, hc, ht⟩
  · exact ⟨none, 0, by rw [h0], .inl (List.eq_nil_of_length_eq_zero h0)⟩
  · refine ⟨some ⟨g, 0, none⟩, cap, rfl, .inr ⟨g, 0, rfl, (Array.getElem?_eq_some_iff.1 hh).1, fun k p hp => ?_⟩⟩
    have hk : k < L.length := (List.getElem?_eq_some_iff.1 hp).1
    have g' : ∀ i, i < 5 → w.cell? ⟨g, 0 + k * 5 + i, none⟩ = p.cells[i]? := fun i hi => by
      rw [cell_of_heap hh, Nat.zero_add, ← pkList_get hp i hi, ← ht, List.getElem?_take_of_lt (by omega)]
      simp
    exact ⟨g' 0 (by omega), g' 1 (by omega), g' 2 (by omega), g' 3 (by omega), g' 4 (by omega)⟩
theorem Bl_then {w w1 w2 : World} (h : Below w.heap.size w w1) (k : Below w1.heap.size w1 w2) : Below w.heap.size w w2 := h.trans (k.mono h.size)
def cntB (L : List Pk) (dst : Int) : Nat := (L.filter fun p => p.d == dst).length
theorem cntB_le (L : List Pk) (dst : Int) : cntB L dst ≤ L.length := List.length_filter_le _ _
theorem cntB_snoc (L : List Pk) (p : Pk) (dst : Int) : cntB (L ++ [p]) dst = cntB L dst + (if p.d == dst then 1 else 0) := by
  unfold cntB
  rw [List.filter_append]
  cases h : p.d == dst <;> simp [List.filter_cons, h]
set_option maxRecDepth 100000 in
set_option maxHeartbeats 400000 in
theorem c21 {w : World} {q r n f : Nat} {R L : List Pk} (h : QAt w q r n f R L) (dst : Int) :
    Calls Try.prog 21 #[.pointer (some ⟨q, 0, none⟩), .int .i64 dst] w fun e w' => e = .returned (.int .i64 (cntB L dst)) ∧ Below w.heap.size w w' := by
  have hL := Nat.le_trans h.hL h.n64
  have HQ := hidd h
  clear h
  go_enter Try.func21, Try.ntmps21
  go_wp2_with fail
  refine (c22 HQ.out).mono ?_
  rintro e w1 ⟨v, rfl, hown, hb1⟩
  obtain ⟨A, c, rfl, hrd⟩ := hown.rd
  have HB1 := hidd hb1
  have HR := hidd hrd
  have hz1 := hb1.size
  clear hown hb1 hrd
  go_wp2
  go_loopw [5, 11] (fun nn i wr => ∃ k : Nat, k ≤ L.length ∧ i = .int .i64 k ∧ nn = .int .i64 (cntB (L.take k) dst) ∧ Below w1.heap.size w1 wr) (fun _ i _ => L.length - (intOf i).toNat)
  case atStart => exact ⟨0, Nat.zero_le _, rfl, rfl, Below.refl _ _⟩
  case round =>
    obtain ⟨k, hk, rfl, rfl, hb⟩ := hrel
    by_cases hlt : k < L.length
    · obtain ⟨p, hp⟩ : ∃ p, L[k]? = some p := ⟨_, List.getElem?_eq_getElem hlt⟩
      obtain ⟨b, o, rfl, hbl, hcells⟩ : ∃ b o, A = some ⟨b, o, none⟩ ∧ b < w1.heap.size ∧ ∀ k p, L[k]? = some p → PkHere w1 b (o + k * 5) p := by
        rcases HR.out with h0 | h0
        · rw [h0] at hlt; exact absurd hlt (by simp)
        · exact h0
      obtain ⟨c0, c1, c2, c3, c4⟩ := (hcells k p hp).keeps (Keeps.below (S := fun _ => False) hb) hbl (fun x => x)
      clear hcells
      have hs := cntB_snoc (L.take k) p dst
      rw [← take_snoc' hp] at hs
      have hcl := cntB_le (L.take k) dst
      have hcl2 := List.length_take_le k L
      have HS := hidd hs
      have HB := hidd hb
      clear hs hb hp
      cases hd : p.d == dst with
      | true =>
        go_wp2
        go_roundw
        case rel => exact ⟨k + 1, by omega, by go_num, by rw [HS.out, hd]; go_num, Bl_alloc HB.out _⟩
        case measure => simp [intOf]; omega
      | false =>
        go_wp2
        go_roundw
        case rel => exact ⟨k + 1, by omega, by go_num, by rw [HS.out, hd]; go_num, Bl_alloc HB.out _⟩
        case measure => simp [intOf]; omega
    · have HB := hidd hb
      clear hb
      go_wp2
      go_ret
      exact ⟨ret64 (by rw [List.take_of_length_le (by omega)]), Bl_then HB1.out HB.out⟩
/-- Two slices that read alike are told the same. -/
theorem c24 {w : World} {v1 v2 : Value} {L : List Pk} (h1 : RdPk w v1 L) (h2 : RdPk w v2 L) (hL : L.length ≤ 1000000) :
    Calls Try.prog 24 #[v1, v2] w fun e w' => e = .returned (.bool true) ∧ ∃ nq, w.drewN nq = w' := by
  obtain ⟨A1, c1, rfl, h1⟩ := h1
  obtain ⟨A2, c2, rfl, h2⟩ := h2
  have H1 := hidd h1
  have H2 := hidd h2
  clear h1 h2
  have hll : ((L.length : Int) != L.length) = false := by simp
  go_enter Try.func24, Try.ntmps24
  go_wp2
  go_loopw [5] (fun i wr => ∃ k : Nat, k ≤ L.length ∧ i = .int .i64 k ∧ ∃ nq, w.drewN nq = wr) (fun i _ => L.length - (intOf i).toNat)
  case atStart => exact ⟨0, Nat.zero_le _, rfl, 0, rfl⟩
  case round =>
    obtain ⟨k, hk, rfl, nq, rfl⟩ := hrel
    by_cases hlt : k < L.length
    · obtain ⟨p, hp⟩ : ∃ p, L[k]? = some p := ⟨_, List.getElem?_eq_getElem hlt⟩
      obtain ⟨b, o, rfl, hbl, hcells⟩ : ∃ b o, A1 = some ⟨b, o, none⟩ ∧ b < w.heap.size ∧ ∀ k p, L[k]? = some p → PkHere w b (o + k * 5) p := by
        rcases H1.out with h0 | h0
        · rw [h0] at hlt; exact absurd hlt (by simp)
        · exact h0
      obtain ⟨b', o', rfl, hbl', hcells'⟩ : ∃ b o, A2 = some ⟨b, o, none⟩ ∧ b < w.heap.size ∧ ∀ k p, L[k]? = some p → PkHere w b (o + k * 5) p := by
        rcases H2.out with h0 | h0
        · rw [h0] at hlt; exact absurd hlt (by simp)
        · exact h0
      obtain ⟨d0, d1, d2, d3, d4⟩ := hcells k p hp
      obtain ⟨e0, e1, e2, e3, e4⟩ := hcells' k p hp
      have hi : (k : Int) < L.length := by omega
      have hi0 : (0 : Int) ≤ k := by omega
      clear hcells hcells' hp hbl hbl'
      go_wp2_with fail
      go_quiet (fail)
      go_wp2
      go_roundw
      case rel => exact ⟨k + 1, by omega, by go_num, _, rfl⟩
      case measure => simp [intOf]; omega
    · go_wp2
      go_ret
      exact ⟨rfl, _, rfl⟩
end Go.Proofs.Ytnlcibobhmcfpaa
