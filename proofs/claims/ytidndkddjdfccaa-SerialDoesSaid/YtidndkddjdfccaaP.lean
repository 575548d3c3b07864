/- The plain law of the sort: strictly ascending, each number once. -/
import Derived.Test.YtidndkddjdfccaaF
set_option linter.unusedSimpArgs false
namespace Go.Proofs.Ytidndkddjdfccaa
open Go.RowKit Go.Sort Go.Shelf Go.Lib
/-- Strictly ascending, seen from first. -/
def Asc (first : Int) (S : List Int) : Prop := S.Pairwise fun x y => farI first x < farI first y
def Small (S : List Int) : Prop := ∀ x ∈ S, 0 ≤ x ∧ x < 65536
theorem farI_inj {first x y : Int} (hx : 0 ≤ x ∧ x < 65536) (hy : 0 ≤ y ∧ y < 65536) (h : farI first x = farI first y) : x = y := by
  unfold farI at h
  omega
theorem asc_nodup {first : Int} {S : List Int} (h : Asc first S) : S.Nodup := h.imp fun h e => by rw [e] at h; omega
theorem asc_unique {first : Int} {S T : List Int} (hS : Asc first S) (hT : Asc first T) (h : ∀ x, x ∈ S ↔ x ∈ T) : S = T := by
  refine List.Perm.eq_of_pairwise (le := fun x y => farI first x < farI first y) (fun a b _ _ h1 h2 => by omega) hS hT ?_
  exact (List.perm_ext_iff_of_nodup (asc_nodup hS) (asc_nodup hT)).2 h
theorem le16 (first : Int) (x y : N16) : (!ltOf (cf first) y x) = decide (farI first (x.val : Int) ≤ farI first (y.val : Int)) := by
  rw [lt16]
  by_cases h : farI first (y.val : Int) < farI first (x.val : Int)
  · have : ¬ farI first (x.val : Int) ≤ farI first (y.val : Int) := by omega
    simp [h, this]
  · have : farI first (x.val : Int) ≤ farI first (y.val : Int) := by omega
    simp [h, this]
theorem sorted_pairwise (first : Int) (L : List Int) : (sorted first L).Pairwise fun x y => farI first x ≤ farI first y := by
  unfold sorted sorted16
  rw [List.pairwise_map]
  have h := List.pairwise_mergeSort (le := fun x y => !ltOf (cf first) y x) (fun a b c h1 h2 => by rw [le16] at *; simp at *; omega) (fun a b => by rw [le16, le16]; simp; omega) (L.map to16)
  exact h.imp fun h => by rw [le16] at h; simpa using h
theorem sorted_mem (first : Int) (L : List Int) (x : Int) : x ∈ sorted first L ↔ ∃ a ∈ L, x = lf a := by
  unfold sorted sorted16
  rw [List.mem_map]
  constructor
  · rintro ⟨y, hy, rfl⟩
    have := (List.mergeSort_perm _ _).mem_iff.1 hy
    obtain ⟨a, ha, rfl⟩ := List.mem_map.1 this
    exact ⟨a, ha, to16_val a⟩
  · rintro ⟨a, ha, rfl⟩
    exact ⟨to16 a, (List.mergeSort_perm _ _).mem_iff.2 (List.mem_map.2 ⟨a, ha, rfl⟩), to16_val a⟩
theorem compact_law (first : Int) (D : List Int) (hs : Small D) (hp : D.Pairwise fun x y => farI first x ≤ farI first y) (m : Nat) (hm : m ≤ D.length) :
    (∀ x, x ∈ compactUpTo D.toArray m ↔ x ∈ D.take m) ∧ Asc first (compactUpTo D.toArray m) := by
  induction m with
  | zero => simp [compactUpTo, Asc]
  | succ m ih =>
    obtain ⟨h1, h2⟩ := ih (by omega)
    have hml : m < D.length := by omega
    have hget : D.toArray[m]! = D[m] := by rw [getElem!_pos _ m (by simpa using hml)]; simp
    have htake : D.take (m + 1) = D.take m ++ [D[m]] := by rw [List.take_add_one, List.getElem?_eq_getElem hml]; rfl
    rw [compactUpTo_succ]
    by_cases hk : keeps D.toArray m = true
    · rw [if_pos hk, hget, htake]
      refine ⟨fun x => by rw [List.mem_append, List.mem_append, h1], ?_⟩
      unfold Asc
      rw [List.pairwise_append]
      refine ⟨h2, by simp, fun x hx y hy => ?_⟩
      simp at hy
      subst hy
      have hx' := (h1 x).1 hx
      obtain ⟨j, hj, rfl⟩ := List.mem_take_iff_getElem.1 hx'
      have hjm : j < m := by omega
      have hle := List.pairwise_iff_getElem.1 hp j m (by omega) hml hjm
      rcases Nat.eq_zero_or_pos m with h0 | h0
      · omega
      · have hlast := List.pairwise_iff_getElem.1 hp (m - 1) m (by omega) hml (by omega)
        have hne : D[m - 1] ≠ D[m] := by
          unfold keeps at hk
          simp only [decide_eq_true_eq] at hk
          rcases hk with hk | hk
          · omega
          · rw [hget, getElem!_pos _ (m - 1) (by simp; omega)] at hk
            intro e
            apply hk
            simpa using e.symm
        have hle2 : farI first D[j] ≤ farI first D[m - 1] := by
          rcases Nat.lt_or_ge j (m - 1) with h | h
          · exact List.pairwise_iff_getElem.1 hp j (m - 1) (by omega) (by omega) h
          · have : j = m - 1 := by omega
            subst this
            exact Int.le_refl _
        have hlt : farI first D[m - 1] ≠ farI first D[m] := fun e => hne (farI_inj (hs _ (List.getElem_mem _)) (hs _ (List.getElem_mem _)) e)
        omega
    · rw [if_neg hk, List.append_nil, htake]
      refine ⟨fun x => ?_, h2⟩
      rw [List.mem_append, h1]
      constructor
      · exact .inl
      · rintro (h | h)
        · exact h
        · simp at h
          subst h
          unfold keeps at hk
          simp only [decide_eq_true_eq, not_or, Classical.not_not] at hk
          obtain ⟨h0, he⟩ := hk
          rw [hget, getElem!_pos _ (m - 1) (by simp; omega)] at he
          rw [he]
          exact List.mem_take_iff_getElem.2 ⟨m - 1, by omega, by simp⟩
theorem sortI_law (first : Int) (L : List Int) : Asc first (sortI first L) ∧ ∀ x, x ∈ sortI first L ↔ ∃ a ∈ L, x = lf a := by
  obtain ⟨h1, h2⟩ := compact_law first (sorted first L) (fun x hx => sorted_range hx) (sorted_pairwise first L) (sorted first L).length (Nat.le_refl _)
  refine ⟨h2, fun x => ?_⟩
  unfold sortI
  rw [h1, List.take_length, sorted_mem]
theorem lf_small {x : Int} (h : 0 ≤ x ∧ x < 65536) : lf x = x := by unfold lf; omega
theorem sortI_again (first : Int) (L : List Int) : sortI first (sortI first L) = sortI first L := by
  obtain ⟨h1, h2⟩ := sortI_law first (sortI first L)
  refine asc_unique h1 (sortI_law first L).1 fun x => ?_
  rw [h2]
  constructor
  · rintro ⟨a, ha, rfl⟩
    rw [lf_small (sortI_range ha)]
    exact ha
  · intro h
    exact ⟨x, h, (lf_small (sortI_range h)).symm⟩
theorem sortI_length (first : Int) (L : List Int) : (sortI first L).length ≤ L.length := by
  unfold sortI
  rw [sorted_length]
  exact compact_length _ _
end Go.Proofs.Ytidndkddjdfccaa
