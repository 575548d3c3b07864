/- How a slice of packets that came in is opened. -/
import Derived.Test.YtnlcibobhmcfpaaOpen
import Derived.Test.YtnlcibobhmcfpaaQd
namespace Go.Proofs.Ytnlcibobhmcfpaa
open Go.ChangeShapes Go.WideShapes Go.RowKit Go.Deep
section
variable {H : Type} {enc : TypeId × Value → H} {w : World} {base : Nat} {spare : Nat → Bool} {held : Bool}
theorem spot_none {w : World} {a : Addr} {v : Value} (h : w.cell? a = some v) : a.spot = none := by
  unfold World.cell? at h
  split at h
  · split at h
    · cases h
    · rename_i hs; simpa using hs
  · cases h
def Pk.ok (p : Pk) : Prop := PkOk p.s p.d p.t p.n p.x
theorem addr_add (b o k : Nat) : (⟨b, o, none⟩ : Addr).add k = ⟨b, o + k, none⟩ := by
  unfold Addr.add
  split
  · rename_i h; rw [h]; rfl
  · rfl
theorem list_of {α : Type} {P : Nat → α → Prop} (n : Nat) (h : ∀ i, i < n → ∃ x, P i x) : ∃ L : List α, L.length = n ∧ ∀ k x, L[k]? = some x → P k x := by
  induction n with
  | zero => exact ⟨[], rfl, fun k x hx => by simp at hx⟩
  | succ n ih =>
    obtain ⟨L, hl, hL⟩ := ih fun i hi => h i (by omega)
    obtain ⟨x, hx⟩ := h n (by omega)
    refine ⟨L ++ [x], by simp [hl], fun k y hy => ?_⟩
    by_cases hk : k < L.length
    · rw [List.getElem?_append_left hk] at hy; exact hL k y hy
    · rw [List.getElem?_append_right (by omega)] at hy
      have : k = n := by
        have := (List.getElem?_eq_some_iff.1 hy).1
        simp at this; omega
      subst this
      rw [hl] at hy
      simp at hy
      rw [← hy]; exact hx
set_option maxRecDepth 100000 in
/-- A slice of packets that came in. -/
theorem open_pks {v : Value} {d : DataW H} {p : List MemPlace} {r : Reach} {b0 : Nat} (hv : Value.okWide Try.prog w r b0 33 v) (h : DataW.Trod enc Try.prog w base spare held 33 v d p) :
    ∃ L, RdPk w v L ∧ ∀ p ∈ L, Pk.ok p := by
  obtain ⟨A, len, cap, rfl⟩ := okWide_slice Try.underlying33 hv
  obtain ⟨fuel, hf⟩ := h
  rcases open_slice Try.underlying33 hf with ⟨hcs, _⟩ | ⟨a, l, c, m, n, D, Pl, hcs, _, hlc, _, hm, _, hi⟩
  · simp [Value.cells] at hcs
    obtain ⟨rfl, rfl, rfl⟩ := hcs
    exact ⟨[], ⟨none, 0, rfl, .inl rfl⟩, by simp⟩
  · simp [Value.cells] at hcs
    obtain ⟨rfl, rfl, rfl⟩ := hcs
    have hml : len ≤ m := by rw [hm]; split <;> omega
    rcases Nat.eq_zero_or_pos len with h0 | h0
    · exact ⟨[], ⟨some a, cap, by rw [h0]; rfl, .inl rfl⟩, by simp⟩
    · have hsp : a.spot = none := by
        obtain ⟨cs', hc, ht⟩ := hi 0 (by omega)
        obtain ⟨s, d, t, n, x, rfl, hok⟩ := pk_of_trod ht
        have hc' : w.cells? base (a.add (0 * 5)) 5 = some [.int .i64 s, .int .i64 d, .int .i64 t, .int .i64 n, .string x] := by
          rw [cells23] at hc; exact hc
        obtain ⟨_, _, hat⟩ := World.cells?_some hc'
        exact spot_none (a := a) (hat 0 (by omega))
      obtain ⟨b, o, sp⟩ := a
      simp only at hsp
      subst hsp
      have hel : ∀ i, i < len → ∃ p : Pk, Pk.ok p ∧ b < w.heap.size ∧ PkHere w b (o + i * 5) p := by
        intro i hi'
        obtain ⟨cs', hc, ht⟩ := hi i (by omega)
        obtain ⟨s, d, t, n, x, rfl, hok⟩ := pk_of_trod ht
        have hc' : w.cells? base ((⟨b, o, none⟩ : Addr).add (i * 5)) 5 = some [.int .i64 s, .int .i64 d, .int .i64 t, .int .i64 n, .string x] := by
          rw [cells23] at hc; exact hc
        obtain ⟨_, _, hat⟩ := World.cells?_some hc'
        rw [addr_add] at hat
        have g : ∀ j, j < 5 → w.cell? ⟨b, o + i * 5 + j, none⟩ = [.int .i64 s, .int .i64 d, .int .i64 t, .int .i64 n, .string x][j]? := fun j hj => by
          have := hat j hj
          rwa [addr_add] at this
        exact ⟨⟨s, d, t, n, x⟩, hok, World.block_lt_of_cell? w _ (g 0 (by omega)), g 0 (by omega), g 1 (by omega), g 2 (by omega), g 3 (by omega), g 4 (by omega)⟩
      obtain ⟨L, hL, hE⟩ := list_of (P := fun i p => Pk.ok p ∧ b < w.heap.size ∧ PkHere w b (o + i * 5) p) len hel
      refine ⟨L, ⟨some ⟨b, o, none⟩, cap, by rw [hL], .inr ⟨b, o, rfl, ?_, fun k p hp => (hE k p hp).2.2⟩⟩, ?_⟩
      · obtain ⟨p, _, hb, _⟩ := hel 0 h0
        exact hb
      · intro p hp
        obtain ⟨k, hk⟩ := List.getElem?_of_mem hp
        exact (hE k p hk).1
end
end Go.Proofs.Ytnlcibobhmcfpaa
