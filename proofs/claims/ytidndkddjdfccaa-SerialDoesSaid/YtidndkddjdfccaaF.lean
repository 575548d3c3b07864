/- The walk of serial.Sort. -/
import Derived.Test.YtidndkddjdfccaaE
set_option linter.unusedSimpArgs false
namespace Go.Proofs.Ytidndkddjdfccaa
open Go.RowKit Go.Sort Go.Shelf Go.Lib
def to16 (a : Int) : N16 := ⟨(a % 65536).toNat, by omega⟩
theorem to16_val (a : Int) : ((to16 a).val : Int) = lf a := by unfold to16 lf; simp; omega
def sorted16 (first : Int) (L : List Int) : List N16 := (L.map to16).mergeSort fun x y => !(ltOf (cf first)) y x
def sorted (first : Int) (L : List Int) : List Int := (sorted16 first L).map fun x => (x.val : Int)
/-- What Sort answers. -/
def sortI (first : Int) (L : List Int) : List Int := compactUpTo (sorted first L).toArray (sorted first L).length
theorem sorted_length (first : Int) (L : List Int) : (sorted first L).length = L.length := by simp [sorted, sorted16]
theorem sorted_range {first : Int} {L : List Int} {x : Int} (h : x ∈ sorted first L) : 0 ≤ x ∧ x < 65536 := by
  obtain ⟨y, _, rfl⟩ := List.mem_map.1 h
  have := y.isLt
  omega
theorem compact_mem {d : Array Int} {m : Nat} {x : Int} (hm : m ≤ d.size) (h : x ∈ compactUpTo d m) : x ∈ d.toList := by
  unfold compactUpTo at h
  obtain ⟨j, hj, rfl⟩ := List.mem_map.1 h
  have hjm := List.mem_range.1 (List.mem_filter.1 hj).1
  rw [getElem!_pos d j (by omega)]
  exact Array.getElem_mem_toList (by omega)
theorem sortI_range {first : Int} {L : List Int} {x : Int} (h : x ∈ sortI first L) : 0 ≤ x ∧ x < 65536 := by
  have := compact_mem (by simp) h
  exact sorted_range (by simpa using this)
theorem compact_length (d : Array Int) (m : Nat) : (compactUpTo d m).length ≤ m := by
  unfold compactUpTo
  rw [List.length_map]
  exact Nat.le_trans (List.length_filter_le _ _) (by simp)
theorem below_put {α : Type} [Inhabited α] (enc : α → Value) {B : Nat} {w : World} {g n : Nat} {os : Array Obj} (d : Array α) (hB : B ≤ w.heap.size) (hg : B ≤ g) : Below B w (grow (putRow enc (Sort.ahead w n) g 0 d) os) := by
  refine ⟨rfl, rfl, rfl, by simp [Sort.ahead], fun k hk => ?_⟩
  rw [heap_grow_old _ _ (by simp [Sort.ahead]; omega)]
  have : g ≠ k := by omega
  simp [putRow, mapBlock, Sort.ahead, Array.getElem?_modify, this]
theorem holds_enc {w : World} {g : Nat} {D : List N16} (h : Holds enc16 w g 0 D.toArray) : Holds (Value.int .u16) w g 0 ((D.map fun x => (x.val : Int)).toArray) := by
  intro j hj
  have hj' : j < D.length := by simpa using hj
  have := h j (by simpa using hj')
  rw [getElem!_pos _ j (by simpa using hj')] at this
  rw [getElem!_pos _ j hj]
  simpa [enc16] using this
theorem OwnN.some16 {w : World} {B : Nat} {v : Value} {L : List Int} (h : OwnN 37 .u16 w B v (L.map lf)) (hne : 0 < L.length) :
    ∃ g cap, v = .slice (some ⟨g, 0, none⟩) L.length cap ∧ B ≤ g ∧ g < w.heap.size ∧ L.length ≤ cap ∧ Holds enc16 w g 0 (L.map to16).toArray := by
  rcases h.2 with ⟨rfl, h0⟩ | ⟨g, cap, cur, rfl, hb, hh, hn, hm, hc, ht⟩
  · rw [List.length_map] at h0; omega
  · refine ⟨g, cap, by simp, hb, (Array.getElem?_eq_some_iff.1 hh).1, by simpa using hn, fun j hj => ?_⟩
    have hj' : j < L.length := by simpa using hj
    refine ⟨?_, by simpa using free_of_heap hh (0 + j)⟩
    rw [cell_of_heap hh, getElem!_pos _ j hj]
    have e : ((L.map lf).map (Value.int .u16))[j]? = some (.int .u16 (lf L[j])) := by simp [hj']
    rw [← ht, List.getElem?_take_of_lt (by simp; omega)] at e
    simpa [enc16, to16_val] using e
theorem OwnN.weaken {E : TypeId} {κ : IntKind} {w : World} {B B' : Nat} {v : Value} {L : List Int} (h : OwnN E κ w B v L) (hb : B' ≤ B) : OwnN E κ w B' v L := by
  refine ⟨h.1, ?_⟩
  rcases h.2 with h2 | ⟨g, cap, cur, rfl, hb2, h3⟩
  · exact .inl h2
  · exact .inr ⟨g, cap, cur, rfl, Nat.le_trans hb hb2, h3⟩
theorem one_cell {w : World} {b : Nat} {x : Int} (h : w.cell? ⟨b, 0, none⟩ = some (.int .i64 x)) (k : Nat) (y : Int) (hk : [x][k]? = some y) : w.cell? ⟨b, 0 + k, none⟩ = some (.int .i64 y) := by
  match k, hk with
  | 0, hk => simp at hk; subst hk; exact h
set_option maxHeartbeats 1000000 in
/-- The last part of Sort: what slices.Compact left, as numbers. -/
theorem c8 {w : World} {v : Value} {L : List Int} (first : Int) (h : RdN .i64 w v L) (hL : L.length ≤ 1000) :
    Calls Try.prog 8 #[v, .int .i64 first] w fun e w' => ∃ v', e = .returned v' ∧ OwnN 3 .i64 w' w.heap.size v' (sortI first L) ∧ Below w.heap.size w w' := by
  have HR := hidd h
  obtain ⟨A, c, rfl, -⟩ := h
  rcases Nat.eq_zero_or_pos L.length with h0 | h0
  · obtain rfl := List.eq_nil_of_length_eq_zero h0
    go_enter Try.func8, Try.ntmps8
    go_wp2_with fail
    refine (c21 (HR.out.below (Bl_alloc (Below.refl _ _) _)) (by simp)).mono ?_
    rintro e w1 ⟨v1, rfl, ho, hb⟩
    obtain ⟨A1, c1, rfl, -⟩ := ho.rd
    have HB := hidd (Bl_then (w := w) (Bl_alloc (Below.refl _ _) _) hb)
    clear ho hb
    go_wp2_with (first
      | (go_at_call 22; refine (sort16_none _ _ _ _).mono ?_; rintro e w2 ⟨rfl, hw⟩; subst hw)
      | (go_at_call 25; refine (compact16_none _ _ _).mono ?_; rintro e w2 ⟨rfl, hw⟩; subst hw))
    refine wp_loop_rounds 1 ?_; rw [rounds_succ]
    go_wp2
    go_ret
    have e : sortI first [] = [] := by simp [sortI, sorted, sorted16, compactUpTo]
    rw [e]
    exact ⟨_, rfl, OwnN.nil _ _ _ _, HB.out⟩
  · go_enter Try.func8, Try.ntmps8
    go_wp2_with fail
    refine (c21 (HR.out.below (Bl_alloc (Below.refl _ _) _)) (by omega)).mono ?_
    rintro e w1 ⟨v1, rfl, ho, hb⟩
    have hT : w1.cell? ⟨w.heap.size, 0, none⟩ = some (.int .i64 first) := (hb.cell (p := ⟨w.heap.size, 0, none⟩) (by simp)).trans (cell_of_heap (heap_new w _) 0)
    have hTl : w.heap.size < w1.heap.size := by have := hb.size; simp at this; omega
    obtain ⟨g, cap, rfl, hBg, hg, hcap, hH⟩ := ho.some16 h0
    have hgT : w.heap.size + 1 ≤ g := by simpa using hBg
    have HB := hidd (Bl_then (w := w) (Bl_alloc (Below.refl _ _) _) hb)
    have HH := hidd hH
    clear ho hb hH hBg
    go_wp2_with fail
    have hs := sort16 w.heap.size first g cap (L.map to16).toArray w1 HH.out hg hTl (by omega) hT (by simp; omega)
    rw [show (L.map to16).toArray.size = L.length by simp] at hs
    refine hs.mono ?_
    rintro e w2 ⟨rfl, n2, os2, hw2⟩
    have hw2' : w2 = sortWorld enc16 w1 g 0 n2 (sorted16 first L).toArray os2 := hw2
    clear hw2 hs
    have hH2 : Holds (Value.int .u16) w2 g 0 (sorted first L).toArray := by
      rw [hw2']
      refine holds_enc ?_
      unfold sortWorld
      refine holds_grow _ _ _ _ _ _ (by simpa [Sort.ahead] using hg) (holds_putRow _ _ _ _ (L.map to16).toArray _ HH.out (by simp [sorted16]))
    have hB2 : Below w.heap.size w w2 := HB.out.trans (by rw [hw2']; exact below_put _ _ HB.out.size (by omega))
    have hg2 : g < w2.heap.size := by rw [hw2']; unfold sortWorld; simp [grow, Sort.ahead]; omega
    clear hw2' HH hT
    have HB2 := hidd hB2
    have HH2 := hidd hH2
    have hz2 := hB2.size
    clear hB2 hH2
    go_wp2_with fail
    have hc := compact16 g cap (sorted first L).toArray w2 HH2.out (by simp [sorted_length]; omega) (by simp [sorted_length]; omega)
    rw [show (sorted first L).toArray.size = L.length by simp [sorted_length]] at hc
    refine hc.mono ?_
    clear hc
    rintro e w3 ⟨rfl, q3, hw3⟩
    have hB3 : Below w.heap.size w w3 := HB2.out.trans (by
      rw [hw3, ← grow_empty (putRow _ _ _ _ _)]
      exact below_put _ _ HB2.out.size (by omega))
    have hse : compactUpTo (sorted first L).toArray L.length = sortI first L := by unfold sortI; rw [sorted_length]
    rw [hse] at hw3 ⊢
    have hR3 : RdN .u16 w3 (.slice (some ⟨g, 0, none⟩) (sortI first L).length cap) (sortI first L) := by
      refine ⟨_, _, rfl, .inr ⟨g, 0, rfl, ?_, fun k x hk => ?_⟩⟩
      · rw [hw3]; simpa [Sort.ahead] using hg2
      · have hkl : k < (sortI first L).length := (List.getElem?_eq_some_iff.1 hk).1
        have hle : (sortI first L).length ≤ L.length := by rw [← hse]; exact compact_length _ _
        have hp := holds_putRow (Value.int .u16) (Sort.ahead w2 q3) g 0 (sorted first L).toArray (sortI first L ++ List.replicate (L.length - (sortI first L).length) 0).toArray HH2.out (by simp [sorted_length]; omega)
        have := (hp k (by simp; omega)).1
        rw [hw3, this, getElem!_pos _ k (by simp; omega)]
        simp [List.getElem_append_left hkl, (List.getElem?_eq_some_iff.1 hk).2]
    have HB3 := hidd hB3
    have HR3 := hidd hR3
    have hl3 : (sortI first L).length ≤ 1000 := by rw [← hse]; exact Nat.le_trans (compact_length _ _) hL
    have HRG : Hid (∀ x ∈ sortI first L, 0 ≤ x ∧ x < 65536) := hidd (fun x hx => sortI_range hx)
    clear hw3 hse hB3 hR3 HB2 HH2 HR
    obtain ⟨S, hS⟩ : ∃ S, sortI first L = S := ⟨_, rfl⟩
    rw [hS] at HR3 hl3 HRG ⊢
    have HS := hidd hS
    clear hS
    go_wp2_with fail
    have hz3 := HB3.out.size
    go_loopw [6, 17] (fun v i wr => ∃ k : Nat, k ≤ S.length ∧ i = .int .i64 k ∧ OwnN 3 .i64 wr w3.heap.size v (S.take k) ∧ Below w3.heap.size w3 wr) (fun _ i _ => S.length - (intOf i).toNat)
    case atStart => exact ⟨0, Nat.zero_le _, rfl, OwnN.nil _ _ _ _, Below.refl _ _⟩
    case round =>
      obtain ⟨k, hk, rfl, hown, hb3⟩ := hrel
      by_cases hlt : k < S.length
      · obtain ⟨p, hp⟩ : ∃ p, S[k]? = some p := ⟨_, List.getElem?_eq_getElem hlt⟩
        obtain ⟨A4, k4, e4, hr4⟩ := HR3.out
        have c1 : wr.cell? ⟨g, k, none⟩ = some (.int .u16 p) := by
          simp at e4
          obtain ⟨rfl, -⟩ := e4
          rcases hr4 with h0 | ⟨b, o, e5, hb5, hr4⟩
          · rw [h0] at hlt; exact absurd hlt (by simp)
          · simp at e5
            obtain ⟨rfl, rfl⟩ := e5
            have := (hb3.cell (p := ⟨g, 0 + k, none⟩) hb5).trans (hr4 k p hp)
            simpa using this
        obtain ⟨p0, p1⟩ := HRG.out p (List.mem_of_getElem? hp)
        have w1x : wrap64 p = p := by unfold wrap64; omega
        have w2x : IntKind.i64.wrap p = p := IntWalk.i64_in _ (by omega)
        have HT := hidd (take_snoc' hp)
        have HO := hidd hown
        have hz := hb3.size
        have HB4 := hidd hb3
        have hml : (S.take k).length + ([p] : List Int).length ≤ 1000000 := by simp; omega
        clear hp hown hb3 e4 hr4 p0 p1
        go_wp2_with (at_builtin; refine wpList_append_i rfl (.tmp 21) (.tmp 24) rfl w3.heap.size _ (S.take k) rfl (HO.out.below (Bl_alloc (Below.refl _ _) _)) wr.heap.size 0 1 1 [p] rfl rfl ?_ hml ?_ ?_; (exact one_cell (cell_of_heap (heap_new wr _) 0)); (exact Nat.le_trans hz (Bl_alloc (Below.refl _ _) _).size); intro v' w5 hown' hg')
        have hB6 := (Bl_alloc HB4.out (.cells #[.int .i64 p] 3)).grown hg' (Bl_alloc HB4.out _).size (fun k hk' => HO.out.base hk')
        go_wp2
        go_roundw
        case rel => exact ⟨k + 1, by omega, by go_num, by rw [HT.out]; exact hown', hB6⟩
        case measure => first | (simp [intOf]; done) | (simp [intOf]; omega)
      · have HO := hidd hown
        have HB := hidd hb3
        clear hown hb3
        obtain rfl : k = S.length := by omega
        go_wp2
        go_ret
        have ho := HO.out
        rw [List.take_length] at ho
        exact ⟨_, rfl, by rw [HS.out]; exact ho.weaken hz3, HB3.out.trans (HB.out.mono hz3)⟩
end Go.Proofs.Ytidndkddjdfccaa
