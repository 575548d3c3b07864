/- How a slice of ints that came in is opened. -/
import Derived.Test.YtidndkddjdfccaaA
import Derived.ProofKit
import Derived.Deep.Slices
import Derived.Deep.Fields
namespace Go.Proofs.Ytidndkddjdfccaa
open Go.ChangeShapes Go.WideShapes Go.RowKit Go.Deep
def I64v (n : Int) : Prop := -9223372036854775808 ≤ n ∧ n ≤ 9223372036854775807
theorem i64_of_wf {n : Int} (h : (Lit.int .i64 n).wf = true) : I64v n := by
  simpa [Lit.wf, IntKind.min, IntKind.max, IntKind.signed, IntKind.bits, I64v] using h
theorem cells3 : Try.prog.cellsOf 3 = 1 := by kernel_rfl
theorem spot_none {w : World} {a : Addr} {v : Value} (h : w.cell? a = some v) : a.spot = none := by
  unfold World.cell? at h
  split at h
  · split at h
    · cases h
    · rename_i hs; simpa using hs
  · cases h
theorem list_of {α : Type} {P : Nat → α → Prop} (n : Nat) (h : ∀ i, i < n → ∃ x, P i x) : ∃ L : List α, L.length = n ∧ ∀ k x, L[k]? = some x → P k x := by
  induction n with
  | zero => exact ⟨[], rfl, fun k x hx => by simp at hx⟩
  | succ n ih =>
    obtain ⟨L, hl, hL⟩ := ih fun i hi => h i (by omega)
    obtain ⟨x, hx⟩ := h n (by omega)
    refine ⟨L ++ [x], by simp [hl], fun k y hy => ?_⟩
    by_cases hk : k < L.length
    · rw [List.getElem?_append_left hk] at hy; exact hL k y hy
    · rw [List.getElem?_append_right (by omega)] at hy
      have : k = n := by
        have := (List.getElem?_eq_some_iff.1 hy).1
        simp at this; omega
      subst this
      rw [hl] at hy
      simp at hy
      rw [← hy]; exact hx
section
variable {H : Type} {enc : TypeId × Value → H} {w : World} {base : Nat} {spare : Nat → Bool} {held : Bool}
set_option maxRecDepth 100000 in
theorem open_nums {v : Value} {d : DataW H} {p : List MemPlace} {r : Reach} {b0 : Nat} (hv : Value.okWide Try.prog w r b0 22 v) (h : DataW.Trod enc Try.prog w base spare held 22 v d p) :
    ∃ L, RdN .i64 w v L ∧ ∀ x ∈ L, I64v x := by
  obtain ⟨A, len, cap, rfl⟩ := okWide_slice Try.underlying22 hv
  obtain ⟨fuel, hf⟩ := h
  rcases open_slice Try.underlying22 hf with ⟨hcs, _⟩ | ⟨a, l, c, m, n, D, Pl, hcs, _, hlc, _, hm, _, hi⟩
  · simp [Value.cells] at hcs
    obtain ⟨rfl, rfl, rfl⟩ := hcs
    exact ⟨[], ⟨none, 0, rfl, .inl rfl⟩, by simp⟩
  · simp [Value.cells] at hcs
    obtain ⟨rfl, rfl, rfl⟩ := hcs
    have hml : len ≤ m := by rw [hm]; split <;> omega
    rcases Nat.eq_zero_or_pos len with h0 | h0
    · exact ⟨[], ⟨some a, cap, by rw [h0]; rfl, .inl rfl⟩, by simp⟩
    · have key : ∀ i, i < len → ∃ x : Int, I64v x ∧ w.cells? base (a.add (i * 1)) 1 = some [.int .i64 x] := by
        intro i hi'
        obtain ⟨cs', hc', ht⟩ := hi i (by omega)
        obtain ⟨x, e, _, wx⟩ := DataW.trod_int Try.underlying3 ht
        subst e
        rw [cells3] at hc'
        exact ⟨x, i64_of_wf wx, hc'⟩
      have hsp : a.spot = none := by
        obtain ⟨x, _, hc'⟩ := key 0 h0
        obtain ⟨_, _, hat⟩ := World.cells?_some hc'
        exact spot_none (a := a) (hat 0 (by omega))
      obtain ⟨b, o, sp⟩ := a
      simp only at hsp
      subst hsp
      have hel : ∀ i, i < len → ∃ x : Int, I64v x ∧ b < w.heap.size ∧ w.cell? ⟨b, o + i, none⟩ = some (.int .i64 x) := by
        intro i hi'
        obtain ⟨x, g1, hc'⟩ := key i hi'
        obtain ⟨_, _, hat⟩ := World.cells?_some hc'
        have g := hat 0 (by omega)
        rw [addr_add, addr_add] at g
        have g' : w.cell? ⟨b, o + i, none⟩ = some (.int .i64 x) := by simpa using g
        exact ⟨x, g1, World.block_lt_of_cell? w _ g', g'⟩
      obtain ⟨L, hL, hE⟩ := list_of (P := fun i x => I64v x ∧ b < w.heap.size ∧ w.cell? ⟨b, o + i, none⟩ = some (.int .i64 x)) len hel
      refine ⟨L, ⟨some ⟨b, o, none⟩, cap, by rw [hL], .inr ⟨b, o, rfl, ?_, fun k p hp => (hE k p hp).2.2⟩⟩, ?_⟩
      · obtain ⟨p, _, hb, _⟩ := hel 0 h0
        exact hb
      · intro p hp
        obtain ⟨k, hk⟩ := List.getElem?_of_mem hp
        exact (hE k p hk).1
end
end Go.Proofs.Ytidndkddjdfccaa
