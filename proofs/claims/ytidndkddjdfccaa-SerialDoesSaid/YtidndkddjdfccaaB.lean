/- The walks of the small functions. -/
import Derived.Test.YtidndkddjdfccaaA
set_option linter.unusedSimpArgs false
namespace Go.Proofs.Ytidndkddjdfccaa
open Go.RowKit
theorem _root_.Go.RowKit.Below.drewN {B : Nat} {a b : World} (h : Below B a b) (n : Nat) : Below B a (b.drewN n) := ⟨h.os, h.tape, h.output, h.size, h.block⟩
theorem c13 (a : Int) (w : World) : Calls Try.prog 13 #[.int .i64 a] w fun e w' => e = .returned (.int .i64 (nxtI a)) ∧ w = w' := by
  have h : wrap64 (IntKind.u16.wrap (IntKind.u16.wrap a + 1)) = nxtI a := by
    rw [u16w, u16w]
    unfold wrap64 nxtI
    omega
  go_enter Try.func13, Try.ntmps13
  go_wp2
  go_ret
  exact ⟨ret64 h, rfl⟩
theorem c26 (a : Int) (w : World) (ha : -9223372036854775808 ≤ a) (hb : a ≤ 9223372036854775807) : Calls Try.prog 26 #[.int .i64 a] w fun e w' => e = .returned (.int .i64 (lf a)) ∧ w = w' := by
  have h1 : wrap64 (a.tmod 65536) = a.tmod 65536 := by
    unfold wrap64
    have := Int.tmod_lt_of_pos a (show (0 : Int) < 65536 by omega)
    have := Int.lt_tmod_of_pos a (show (0 : Int) < 65536 by omega)
    omega
  have h2 : a.tmod 65536 = if 0 ≤ a then a % 65536 else -((-a) % 65536) := by
    split
    · rename_i h; exact Int.tmod_eq_emod_of_nonneg h
    · rename_i h
      obtain ⟨b, rfl⟩ : ∃ b, a = -b := ⟨-a, by omega⟩
      rw [Int.neg_tmod, Int.neg_neg, Int.tmod_eq_emod_of_nonneg (by omega)]
  by_cases hn : a.tmod 65536 < 0
  · have h3 : wrap64 (a.tmod 65536 + 65536) = lf a := by
      unfold wrap64 lf
      split at h2 <;> omega
    have H2 := hidd h2
    have H3 := hidd h3
    clear h2 h3
    go_enter Try.func26, Try.ntmps26
    go_wp2
    go_ret
    exact ⟨ret64 H3.out, rfl⟩
  · have h3 : a.tmod 65536 = lf a := by
      unfold lf
      split at h2 <;> omega
    have H2 := hidd h2
    have H3 := hidd h3
    clear h2 h3
    go_enter Try.func26, Try.ntmps26
    go_wp2
    go_ret
    exact ⟨ret64 H3.out, rfl⟩
set_option maxHeartbeats 400000 in
theorem c21 {w : World} {v : Value} {L : List Int} (h : RdN .i64 w v L) (hL : L.length ≤ 100000) :
    Calls Try.prog 21 #[v] w fun e w' => ∃ v', e = .returned v' ∧ OwnN 37 .u16 w' w.heap.size v' (L.map lf) ∧ Below w.heap.size w w' := by
  obtain ⟨A, c, rfl, hrd⟩ := h
  obtain ⟨i0, hi, hz0, hz1, hz2⟩ := info_parts info37
  have HR := hidd hrd
  clear hrd
  go_enter Try.func21, Try.ntmps21
  go_wp2_with (at_make; refine wpList_make_own _ rfl (.const (.int .i64 0)) (.tmp 7) 33 rfl w.heap.size 37 i0 _ 1 Try.underlying33 hi hz0 hz1 .i64 .i64 _ L.length rfl rfl rfl ?_ ?_ ?_ ?_; (rw [hz2]; omega); (unfold maxLen; omega); (exact Nat.le_refl _); intro w1 hown1 hg1)
  have HB1 := hidd ((Below.refl w.heap.size w).grown hg1 (Nat.le_refl _) (fun _ e => by cases e))
  have HO1 : Hid (OwnN 37 .u16 w1 w.heap.size (.slice (some ⟨w.heap.size, 0, none⟩) 0 L.length) []) := hidd hown1
  clear hown1 hg1
  go_loopw [3, 11] (fun v i wr => ∃ k : Nat, k ≤ L.length ∧ i = .int .i64 k ∧ OwnN 37 .u16 wr w.heap.size v ((L.take k).map lf) ∧ Below w.heap.size w wr) (fun _ i _ => L.length - (intOf i).toNat)
  case atStart => exact ⟨0, Nat.zero_le _, rfl, HO1.out, HB1.out⟩
  case round =>
    obtain ⟨k, hk, rfl, hown, hb⟩ := hrel
    by_cases hlt : k < L.length
    · obtain ⟨p, hp⟩ : ∃ p, L[k]? = some p := ⟨_, List.getElem?_eq_getElem hlt⟩
      obtain ⟨b, o, rfl, hbl, hcells⟩ : ∃ b o, A = some ⟨b, o, none⟩ ∧ b < w.heap.size ∧ ∀ k x, L[k]? = some x → w.cell? ⟨b, o + k, none⟩ = some (.int .i64 x) := by
        rcases HR.out with h0 | h0
        · rw [h0] at hlt; exact absurd hlt (by simp)
        · exact h0
      have c1 : wr.cell? ⟨b, o + k, none⟩ = some (.int .i64 p) := (hb.cell (p := ⟨b, o + k, none⟩) hbl).trans (hcells k p hp)
      have HT := hidd (take_snoc' hp)
      have HO := hidd hown
      have hz := hb.size
      have HB := hidd hb
      have hml : ((L.take k).map lf).length ≤ 1000000 := by simp; omega
      clear hcells hp hown hb
      go_wp2_with (at_builtin; refine wpList_append_u rfl (.tmp 15) (.tmp 18) rfl w.heap.size _ ((L.take k).map lf) rfl (HO.out.below (Bl_alloc (Below.refl _ _) _)) wr.heap.size (IntKind.u16.wrap p) rfl ?_ hml ?_ ?_; (exact cell_of_heap (heap_new wr _) 0); (exact Nat.le_trans hz (Bl_alloc (Below.refl _ _) _).size); intro v' w3 hown' hg')
      have hB3 := (Bl_alloc HB.out (.cells #[.int .u16 (IntKind.u16.wrap p)] 37)).grown hg' (Bl_alloc HB.out _).size (fun k hk' => HO.out.base hk')
      have hO3 : OwnN 37 .u16 w3 w.heap.size v' ((L.take (k + 1)).map lf) := by
        rw [HT.out, List.map_append]
        rw [u16w] at hown'
        exact hown'
      go_wp2
      go_roundw
      case rel => exact ⟨k + 1, by omega, by go_num, hO3, hB3⟩
      case measure => first | (simp [intOf]; done) | (simp [intOf]; omega)
    · have HO := hidd hown
      have HB := hidd hb
      clear hown hb
      obtain rfl : k = L.length := by omega
      go_wp2
      go_ret
      have ho := HO.out
      rw [List.take_length] at ho
      exact ⟨_, rfl, ho, HB.out⟩
theorem OwnN.two {E : TypeId} {κ : IntKind} {w : World} {base : Nat} {v : Value} {x y : Int} (h : OwnN E κ w base v [x, y]) :
    ∃ g c, v = .slice (some ⟨g, 0, none⟩) 2 c ∧ w.cell? ⟨g, 0, none⟩ = some (.int κ x) ∧ w.cell? ⟨g, 1, none⟩ = some (.int κ y) := by
  obtain ⟨A, c, rfl, hr⟩ := h.rd
  rcases h.2 with ⟨_, h0⟩ | ⟨g, cap, cur, e, _, hh, _⟩
  · simp at h0
  · rcases hr with h0 | ⟨b, o, rfl, hb, hr⟩
    · simp at h0
    · simp at e
      obtain ⟨⟨rfl, rfl⟩, rfl⟩ := e
      exact ⟨_, _, rfl, hr 0 x rfl, hr 1 y rfl⟩
set_option maxHeartbeats 400000 in
theorem c9 (a b : Int) (w : World) : Calls Try.prog 9 #[.int .i64 a, .int .i64 b] w fun e w' => e = .returned (.int .i64 (farI a b)) ∧ Below w.heap.size w w' := by
  have hf : wrap64 (IntKind.u16.wrap (lf b - lf a)) = farI a b := by
    rw [u16w]
    unfold wrap64 farI lf
    omega
  go_enter Try.func9, Try.ntmps9
  go_wp2_with fail
  refine (c21 (L := [a, b]) ⟨_, _, rfl, .inr ⟨_, _, rfl, ?_, ?_⟩⟩ (by simp)).mono ?_
  · simp
  · intro k x hk
    match k, hk with
    | 0, hk => simp at hk; subst hk; exact cell_of_heap (heap_new w _) 0
    | 1, hk => simp at hk; subst hk; exact cell_of_heap (heap_new w _) 1
  · rintro e w1 ⟨v1, rfl, ho, hb⟩
    obtain ⟨g, c, rfl, z0, z1⟩ := ho.two
    have HB := hidd hb
    clear ho hb
    go_wp2_with fail
    go_quiet (fail)
    go_wp2
    go_ret
    exact ⟨ret64 hf, (Bl_then (w := w) (Bl_alloc (Below.refl _ _) _) HB.out).drewN _⟩
end Go.Proofs.Ytidndkddjdfccaa
