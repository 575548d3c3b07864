/- The walk of the reference's Sort: it answers what serial.Sort answers. -/
import Derived.Test.YtidndkddjdfccaaG
import Derived.Test.YtidndkddjdfccaaP
import Derived.Test.YtidndkddjdfccaaO
set_option linter.unusedSimpArgs false
set_option linter.unusedVariables false
namespace Go.Proofs.Ytidndkddjdfccaa
open Go.RowKit Go.Sort Go.Shelf Go.Lib
/-- What lies in the new row when k of the old one are done. -/
structure InsAt (first : Int) (X : List Int) (n : Int) (k : Nat) (Y : List Int) (d : Bool) : Prop where
  no : d = false → Y = X.take k ∧ ∀ x ∈ X.take k, farI first x < farI first n
  yes : d = true → Asc first Y ∧ (∀ x, x ∈ Y ↔ x = n ∨ x ∈ X.take k) ∧ ∃ x ∈ X.take k, farI first n ≤ farI first x
theorem InsAt.start (first : Int) (X : List Int) (n : Int) : InsAt first X n 0 [] false := ⟨fun _ => ⟨rfl, by simp⟩, (fun h => by cases h)⟩
theorem asc_snoc {first : Int} {Y : List Int} {y : Int} (h : Asc first Y) (hy : ∀ x ∈ Y, farI first x < farI first y) : Asc first (Y ++ [y]) := by
  unfold Asc
  rw [List.pairwise_append]
  exact ⟨h, by simp, fun a ha b hb => by simp at hb; rw [hb]; exact hy a ha⟩
theorem asc_take {first : Int} {X : List Int} (h : Asc first X) (k : Nat) : Asc first (X.take k) := List.Pairwise.sublist (List.take_sublist k X) h
theorem asc_before {first : Int} {X : List Int} (h : Asc first X) {k : Nat} {y : Int} (hy : X[k]? = some y) {x : Int} (hx : x ∈ X.take k) : farI first x < farI first y := by
  obtain ⟨j, hj, rfl⟩ := List.mem_take_iff_getElem.1 hx
  obtain ⟨hk, rfl⟩ := List.getElem?_eq_some_iff.1 hy
  exact List.pairwise_iff_getElem.1 h j k (by omega) hk (by omega)
theorem InsAt.less {first n y : Int} {X Y : List Int} {k : Nat} (h : InsAt first X n k Y false) (hy : X[k]? = some y) (hl : farI first y < farI first n) : InsAt first X n (k + 1) (Y ++ [y]) false := by
  obtain ⟨h1, h2⟩ := h.no rfl
  refine ⟨fun _ => ?_, (fun h => by cases h)⟩
  rw [take_snoc' hy, h1]
  refine ⟨rfl, fun x hx => ?_⟩
  rcases List.mem_append.1 hx with hx | hx
  · exact h2 x hx
  · simp at hx; rw [hx]; exact hl
theorem InsAt.here {first n : Int} {X Y : List Int} {k : Nat} (hX : Asc first X) (h : InsAt first X n k Y false) (hy : X[k]? = some n) : InsAt first X n (k + 1) (Y ++ [n]) true := by
  obtain ⟨h1, h2⟩ := h.no rfl
  refine ⟨(fun h => by cases h), fun _ => ?_⟩
  rw [take_snoc' hy, h1]
  refine ⟨asc_snoc (asc_take hX k) h2, fun x => ?_, n, by simp, Int.le_refl _⟩
  simp only [List.mem_append, List.mem_singleton]
  constructor
  · rintro (h | h)
    · exact .inr (.inl h)
    · exact .inl h
  · rintro (h | h | h)
    · exact .inr h
    · exact .inl h
    · exact .inr h
theorem InsAt.both {first n y : Int} {X Y : List Int} {k : Nat} (hX : Asc first X) (h : InsAt first X n k Y false) (hy : X[k]? = some y) (hl : farI first n < farI first y) : InsAt first X n (k + 1) ((Y ++ [n]) ++ [y]) true := by
  obtain ⟨h1, h2⟩ := h.no rfl
  refine ⟨(fun h => by cases h), fun _ => ?_⟩
  rw [take_snoc' hy, h1]
  refine ⟨asc_snoc (asc_snoc (asc_take hX k) h2) (fun x hx => ?_), fun x => ?_, y, by simp, Int.le_of_lt hl⟩
  · rcases List.mem_append.1 hx with hx | hx
    · exact asc_before hX hy hx
    · simp at hx; rw [hx]; exact hl
  · simp only [List.mem_append, List.mem_singleton]
    constructor
    · rintro ((h | h) | h)
      · exact .inr (.inl h)
      · exact .inl h
      · exact .inr (.inr h)
    · rintro (h | h | h)
      · exact .inl (.inr h)
      · exact .inl (.inl h)
      · exact .inr h
theorem InsAt.more {first n y : Int} {X Y : List Int} {k : Nat} (hX : Asc first X) (h : InsAt first X n k Y true) (hy : X[k]? = some y) : farI first n < farI first y ∧ InsAt first X n (k + 1) (Y ++ [y]) true := by
  obtain ⟨h1, h2, x0, hx0, hn⟩ := h.yes rfl
  have hny : farI first n < farI first y := Int.lt_of_le_of_lt hn (asc_before hX hy hx0)
  refine ⟨hny, (fun h => by cases h), fun _ => ?_⟩
  rw [take_snoc' hy]
  refine ⟨asc_snoc h1 (fun x hx => ?_), fun x => ?_, x0, List.mem_append_left _ hx0, hn⟩
  · rcases (h2 x).1 hx with hx | hx
    · rw [hx]; exact hny
    · exact asc_before hX hy hx
  · simp only [List.mem_append, List.mem_singleton, h2]
    constructor
    · rintro ((h | h) | h)
      · exact .inl h
      · exact .inr (.inl h)
      · exact .inr (.inr h)
    · rintro (h | h | h)
      · exact .inl (.inl h)
      · exact .inl (.inr h)
      · exact .inr h
theorem InsAt.end_no {first n : Int} {X Y : List Int} (hX : Asc first X) (h : InsAt first X n X.length Y false) : Asc first (Y ++ [n]) ∧ ∀ x, x ∈ Y ++ [n] ↔ x = n ∨ x ∈ X := by
  obtain ⟨h1, h2⟩ := h.no rfl
  rw [List.take_length] at h1 h2
  subst h1
  refine ⟨asc_snoc hX h2, fun x => ?_⟩
  simp only [List.mem_append, List.mem_singleton]
  exact Or.comm
theorem InsAt.end_yes {first n : Int} {X Y : List Int} (h : InsAt first X n X.length Y true) : Asc first Y ∧ ∀ x, x ∈ Y ↔ x = n ∨ x ∈ X := by
  obtain ⟨h1, h2, _⟩ := h.yes rfl
  rw [List.take_length] at h2
  exact ⟨h1, h2⟩
/-- What the reference's row is when i of the numbers are done. -/
structure RefAt (first : Int) (L : List Int) (i : Nat) (X : List Int) : Prop where
  asc : Asc first X
  mem : ∀ x, x ∈ X ↔ ∃ a ∈ L.take i, x = lf a
  len : X.length ≤ i
theorem RefAt.small {first : Int} {L X : List Int} {i : Nat} (h : RefAt first L i X) : ∀ x ∈ X, 0 ≤ x ∧ x < 65536 := by
  intro x hx
  obtain ⟨a, _, rfl⟩ := (h.mem x).1 hx
  unfold lf; omega
theorem RefAt.next {first : Int} {L X Y : List Int} {i : Nat} {l : Int} (h : RefAt first L i X) (hl : L[i]? = some l) (hY : Asc first Y ∧ ∀ x, x ∈ Y ↔ x = lf l ∨ x ∈ X) (hlen : Y.length ≤ X.length + 1) : RefAt first L (i + 1) Y := by
  refine ⟨hY.1, fun x => ?_, by have := h.len; omega⟩
  rw [hY.2, h.mem, take_snoc' hl]
  constructor
  · rintro (h | ⟨a, ha, h⟩)
    · exact ⟨l, by simp, h⟩
    · exact ⟨a, List.mem_append_left _ ha, h⟩
  · rintro ⟨a, ha, h⟩
    rcases List.mem_append.1 ha with ha | ha
    · exact .inr ⟨a, ha, h⟩
    · simp at ha; rw [ha] at h; exact .inl h
theorem RefAt.done {first : Int} {L X : List Int} (h : RefAt first L L.length X) : X = sortI first L := by
  obtain ⟨h1, h2⟩ := sortI_law first L
  refine asc_unique h.asc h1 fun x => ?_
  rw [h.mem, h2, List.take_length]
theorem ext2 {B : Nat} {wo wr : World} (h : Below wo.heap.size wo wr) {g o : Nat} {v : Value} (hg : g < wo.heap.size) (hc : wo.cell? ⟨g, o, none⟩ = some v) : wr.cell? ⟨g, o, none⟩ = some v := (h.cell (p := ⟨g, o, none⟩) hg).trans hc
set_option maxHeartbeats 4000000 in
theorem c20 {w : World} {v : Value} {L : List Int} (first : Int) (h : RdN .i64 w v L) (hL : L.length ≤ 1000) (hI : ∀ x ∈ L, I64 x) (hf : I64 first) :
    Calls Try.prog 20 #[v, .int .i64 first] w fun e w' => ∃ v', e = .returned v' ∧ OwnN 3 .i64 w' w.heap.size v' (sortI first L) ∧ Below w.heap.size w w' := by
  obtain ⟨A, c, rfl, hrd⟩ := h
  have HR := hidd hrd
  have HI := hidd hI
  have HF := hidd hf
  clear hrd hI hf
  go_enter Try.func20, Try.ntmps20
  go_wp2
  go_loopw [5, 6] (fun v i wr => ∃ (k : Nat) (X : List Int), k ≤ L.length ∧ i = .int .i64 k ∧ OwnN 3 .i64 wr w.heap.size v X ∧ RefAt first L k X ∧ Below w.heap.size w wr) (fun _ i _ => L.length - (intOf i).toNat)
  case atStart => exact ⟨0, [], Nat.zero_le _, rfl, OwnN.nil _ _ _ _, ⟨List.Pairwise.nil, by simp, Nat.le_refl _⟩, Below.refl _ _⟩
  case round =>
    obtain ⟨i, X, hi, rfl, hown, hX, hb⟩ := hrel
    obtain ⟨wo, rfl⟩ : ∃ wo : World, wo = wr := ⟨_, rfl⟩
    by_cases hlt : i < L.length
    · obtain ⟨l, hl⟩ : ∃ l, L[i]? = some l := ⟨_, List.getElem?_eq_getElem hlt⟩
      obtain ⟨gl, ol, rfl, hbl, hcl⟩ : ∃ b o, A = some ⟨b, o, none⟩ ∧ b < w.heap.size ∧ ∀ k x, L[k]? = some x → w.cell? ⟨b, o + k, none⟩ = some (.int .i64 x) := by
        rcases HR.out with h0 | h0
        · rw [h0] at hlt; exact absurd hlt (by simp)
        · exact h0
      have e1 : wo.cell? ⟨gl, ol + i, none⟩ = some (.int .i64 l) := (hb.cell (p := ⟨gl, ol + i, none⟩) hbl).trans (hcl i l hl)
      have hI := HI.out l (List.mem_of_getElem? hl)
      have h26 := c26 l wo hI.1 hI.2
      have hsm : 0 ≤ lf l ∧ lf l < 65536 := by unfold lf; omega
      have HN : Hid (∀ Y, (Asc first Y ∧ ∀ x, x ∈ Y ↔ x = lf l ∨ x ∈ X) → Y.length ≤ X.length + 1 → RefAt first L (i + 1) Y) := hidd (fun Y hY hlen => hX.next hl hY hlen)
      have hXl := hX.len
      have HAX := hidd hX.asc
      have HSX := hidd hX.small
      obtain ⟨AX, cX, rfl, hrX⟩ := hown.rd
      have HRX := hidd hrX
      have HB := hidd hb
      have hzo := hb.size
      generalize lf l = n at h26 hsm HN
      have H26 := hidd h26
      clear h26 hb hcl hI hl hX hrX hown
      go_wp2_with fail
      refine H26.out.mono ?_
      rintro e w1 ⟨rfl, rfl⟩
      go_wp2
      go_loopw [8, 9, 10] (fun m d j wr => ∃ (k : Nat) (Y : List Int) (bb : Bool), k ≤ X.length ∧ j = .int .i64 k ∧ d = .bool bb ∧ OwnN 3 .i64 wr wo.heap.size m Y ∧ InsAt first X n k Y bb ∧ Y.length ≤ k + (bif bb then 1 else 0) ∧ Below wo.heap.size wo wr) (fun _ _ j _ => X.length - (intOf j).toNat)
      case atStart => exact ⟨0, [], false, Nat.zero_le _, rfl, rfl, OwnN.nil _ _ _ _, InsAt.start _ _ _, Nat.le_refl _, Below.refl _ _⟩
      case round =>
        obtain ⟨k, Y, bb, hk, rfl, rfl, hom, hin, hyl, hb2⟩ := hrel
        by_cases hkl : k < X.length
        · obtain ⟨y, hy⟩ : ∃ y, X[k]? = some y := ⟨_, List.getElem?_eq_getElem hkl⟩
          obtain ⟨g, o, rfl, hgl, hcx⟩ : ∃ b o, AX = some ⟨b, o, none⟩ ∧ b < wo.heap.size ∧ ∀ k x, X[k]? = some x → wo.cell? ⟨b, o + k, none⟩ = some (.int .i64 x) := by
            rcases HRX.out with h0 | h0
            · rw [h0] at hkl; exact absurd hkl (by simp)
            · exact h0
          have hsy := HSX.out y (List.mem_of_getElem? hy)
          have d0 : wo.cell? ⟨g, o + k, none⟩ = some (.int .i64 y) := hcx k y hy
          have d1 : wr.cell? ⟨g, o + k, none⟩ = some (.int .i64 y) := (hb2.cell (p := ⟨g, o + k, none⟩) hgl).trans d0
          have hz := hb2.size
          have glr : g < wr.heap.size := by omega
          have hcy := c15 first y wr HF.out (by unfold I64; omega)
          have hcn := c15 first n wr HF.out (by unfold I64; omega)
          have hinj : farI first y = farI first n → y = n := fun e => farI_inj hsy hsm e
          have HO := hidd hom
          have HB2 := hidd hb2
          have HIN := hidd hin
          have HY := hidd hy
          have HINJ := hidd hinj
          have HCX := hidd hcx
          clear hom hb2 hin hy hinj hcx
          cases bb with
          | true =>
            have hyl' : Y.length ≤ k + 1 := hyl
            obtain ⟨hlt9, hin9⟩ := HIN.out.more HAX.out HY.out
            have hne : (y != n) = true := by
              have : y ≠ n := fun e => by rw [e] at hlt9; omega
              simpa using this
            have HIN9 := hidd hin9
            clear hlt9 hin9 hyl hcy hcn
            go_wp2_with (at_builtin; refine wpList_append_i rfl (.tmp 52) (.tmp 57) rfl wo.heap.size _ Y rfl (HO.out.below (Bl_alloc (Below.refl _ _) _)) wr.heap.size 0 1 1 [y] rfl rfl ?_ (by simp; omega) ?_ ?_; (exact one_cell (cell_of_heap (heap_new wr _) 0)); (exact Nat.le_trans hz (Bl_alloc (Below.refl _ _) _).size); intro v3 w3 hown3 hg3; (have HB3 := hidd ((Bl_alloc HB2.out (.cells #[.int .i64 y] 3)).grown hg3 (Bl_alloc HB2.out _).size (fun k hk' => HO.out.base hk'))); (have HO3 := hidd hown3); (have hz3 := HB3.out.size); clear hown3 hg3)
            go_roundw
            case rel => exact ⟨k + 1, Y ++ [y], true, by omega, by go_num, rfl, HO3.out, HIN9.out, by simp; omega, HB3.out⟩
            case measure => first | (simp [intOf]; done) | (simp [intOf]; omega)
          | false =>
            have hyl' : Y.length ≤ k := hyl
            clear hyl
            by_cases hle : farI first n ≤ farI first y
            · by_cases heq : y = n
              · subst heq
                have HIN9 := hidd (HIN.out.here HAX.out HY.out)
                have hne : (y != y) = false := by simp
                generalize farI first y = fy at hcy hcn hle
                have HCY := hidd hcy
                clear hcy hcn
                go_wp2_with fail
                refine HCY.out.mono ?_
                rintro e w1 ⟨rfl, rfl⟩
                go_wp2_with fail
                refine HCY.out.mono ?_
                rintro e w1 ⟨rfl, rfl⟩
                go_wp2_with (at_builtin; refine wpList_append_i rfl (.tmp 42) (.tmp 44) rfl wo.heap.size _ Y rfl (HO.out.below (Bl_alloc (Below.refl _ _) _)) wr.heap.size 0 1 1 [y] rfl rfl ?_ (by simp; omega) ?_ ?_; (exact one_cell (cell_of_heap (heap_new wr _) 0)); (exact Nat.le_trans hz (Bl_alloc (Below.refl _ _) _).size); intro v3 w3 hown3 hg3; (have HB3 := hidd ((Bl_alloc HB2.out (.cells #[.int .i64 y] 3)).grown hg3 (Bl_alloc HB2.out _).size (fun k hk' => HO.out.base hk'))); (have HO3 := hidd hown3); (have hz3 := HB3.out.size); clear hown3 hg3; (have d3 : w3.cell? ⟨g, o + k, none⟩ = some (.int .i64 y) := ext2 (B := 0) HB3.out hgl d0); (have gl3 : g < w3.heap.size := by omega))
                go_roundw
                case rel => exact ⟨k + 1, Y ++ [y], true, by omega, by go_num, rfl, HO3.out, HIN9.out, by simp; omega, HB3.out⟩
                case measure => first | (simp [intOf]; done) | (simp [intOf]; omega)
              · have hlt9 : farI first n < farI first y := by
                  rcases Int.lt_or_eq_of_le hle with h | h
                  · exact h
                  · exact absurd (HINJ.out h.symm) heq
                have HIN9 := hidd (HIN.out.both HAX.out HY.out hlt9)
                have hne : (y != n) = true := by simpa using heq
                clear hlt9 heq
                generalize farI first y = fy at hcy hle
                generalize farI first n = fn at hcn hle
                have HCY := hidd hcy
                have HCN := hidd hcn
                clear hcy hcn
                go_wp2_with fail
                refine HCY.out.mono ?_
                rintro e w1 ⟨rfl, rfl⟩
                go_wp2_with fail
                refine HCN.out.mono ?_
                rintro e w1 ⟨rfl, rfl⟩
                go_wp2_with (first | (at_builtin; refine wpList_append_i rfl (.tmp 42) (.tmp 44) rfl wo.heap.size _ Y rfl (HO.out.below (Bl_alloc (Below.refl _ _) _)) wr.heap.size 0 1 1 [n] rfl rfl ?_ (by simp; omega) ?_ ?_; (exact one_cell (cell_of_heap (heap_new wr _) 0)); (exact Nat.le_trans hz (Bl_alloc (Below.refl _ _) _).size); intro v3 w3 hown3 hg3; (have HB3 := hidd ((Bl_alloc HB2.out (.cells #[.int .i64 n] 3)).grown hg3 (Bl_alloc HB2.out _).size (fun k hk' => HO.out.base hk'))); (have HO3 := hidd hown3); (have hz3 := HB3.out.size); clear hown3 hg3; (have d3 : w3.cell? ⟨g, o + k, none⟩ = some (.int .i64 y) := ext2 (B := 0) HB3.out hgl d0); (have gl3 : g < w3.heap.size := by omega)) | (at_builtin; refine wpList_append_i rfl (.tmp 52) (.tmp 57) rfl wo.heap.size _ (Y ++ [n]) rfl (HO3.out.below (Bl_alloc (Below.refl _ _) _)) w3.heap.size 0 1 1 [y] rfl rfl ?_ (by simp; omega) ?_ ?_; (exact one_cell (cell_of_heap (heap_new w3 _) 0)); (exact Nat.le_trans hz3 (Bl_alloc (Below.refl _ _) _).size); intro v4 w4 hown4 hg4; (have HB4 := hidd ((Bl_alloc HB3.out (.cells #[.int .i64 y] 3)).grown hg4 (Bl_alloc HB3.out _).size (fun k hk' => HO3.out.base hk'))); (have HO4 := hidd hown4); (have hz4 := HB4.out.size); clear hown4 hg4))
                go_roundw
                case rel => exact ⟨k + 1, (Y ++ [n]) ++ [y], true, by omega, by go_num, rfl, HO4.out, HIN9.out, by simp; omega, HB4.out⟩
                case measure => first | (simp [intOf]; done) | (simp [intOf]; omega)
            · have hlt9 : farI first y < farI first n := by omega
              have HIN9 := hidd (HIN.out.less HY.out hlt9)
              have hne : (y != n) = true := by
                have : y ≠ n := fun e => by rw [e] at hlt9; omega
                simpa using this
              clear hlt9
              generalize farI first y = fy at hcy hle
              generalize farI first n = fn at hcn hle
              have HCY := hidd hcy
              have HCN := hidd hcn
              clear hcy hcn
              go_wp2_with fail
              refine HCY.out.mono ?_
              rintro e w1 ⟨rfl, rfl⟩
              go_wp2_with fail
              refine HCN.out.mono ?_
              rintro e w1 ⟨rfl, rfl⟩
              go_wp2_with (at_builtin; refine wpList_append_i rfl (.tmp 52) (.tmp 57) rfl wo.heap.size _ Y rfl (HO.out.below (Bl_alloc (Below.refl _ _) _)) wr.heap.size 0 1 1 [y] rfl rfl ?_ (by simp; omega) ?_ ?_; (exact one_cell (cell_of_heap (heap_new wr _) 0)); (exact Nat.le_trans hz (Bl_alloc (Below.refl _ _) _).size); intro v3 w3 hown3 hg3; (have HB3 := hidd ((Bl_alloc HB2.out (.cells #[.int .i64 y] 3)).grown hg3 (Bl_alloc HB2.out _).size (fun k hk' => HO.out.base hk'))); (have HO3 := hidd hown3); (have hz3 := HB3.out.size); clear hown3 hg3)
              go_roundw
              case rel => exact ⟨k + 1, Y ++ [y], false, by omega, by go_num, rfl, HO3.out, HIN9.out, by simp; omega, HB3.out⟩
              case measure => first | (simp [intOf]; done) | (simp [intOf]; omega)
        · obtain rfl : k = X.length := by omega
          have HO := hidd hom
          have HB2 := hidd hb2
          have hz := hb2.size
          cases bb with
          | true =>
            have hyl' : Y.length ≤ X.length + 1 := hyl
            have HE := hidd (HN.out Y hin.end_yes hyl')
            clear hom hb2 hin hyl
            go_wp2
            go_roundw
            case rel => exact ⟨i + 1, Y, by omega, by go_num, HO.out.weaken hzo, HE.out, HB.out.trans (HB2.out.mono hzo)⟩
            case measure => first | (simp [intOf]; done) | (simp [intOf]; omega)
          | false =>
            have hyl' : Y.length ≤ X.length := hyl
            have HE := hidd (HN.out (Y ++ [n]) (hin.end_no HAX.out) (by simp; omega))
            clear hom hb2 hin hyl
            go_wp2_with (at_builtin; refine wpList_append_i rfl (.tmp 61) (.tmp 63) rfl wo.heap.size _ Y rfl (HO.out.below (Bl_alloc (Below.refl _ _) _)) wr.heap.size 0 1 1 [n] rfl rfl ?_ (by simp; omega) ?_ ?_; (exact one_cell (cell_of_heap (heap_new wr _) 0)); (exact Nat.le_trans hz (Bl_alloc (Below.refl _ _) _).size); intro v3 w3 hown3 hg3; (have HB3 := hidd ((Bl_alloc HB2.out (.cells #[.int .i64 n] 3)).grown hg3 (Bl_alloc HB2.out _).size (fun k hk' => HO.out.base hk'))); (have HO3 := hidd hown3); (have hz3 := HB3.out.size); clear hown3 hg3)
            go_roundw
            case rel => exact ⟨i + 1, Y ++ [n], by omega, by go_num, HO3.out.weaken hzo, HE.out, HB.out.trans (HB3.out.mono hzo)⟩
            case measure => first | (simp [intOf]; done) | (simp [intOf]; omega)
    · obtain rfl : i = L.length := by omega
      have HD := hidd hX.done
      have HO := hidd hown
      have HB := hidd hb
      clear hX hown hb
      go_wp2
      go_ret
      exact ⟨_, rfl, by rw [← HD.out]; exact HO.out, HB.out⟩
set_option maxHeartbeats 4000000 in
/-- The walk of the statement SerialDoes. -/
theorem law5 (a b size : Int) (v : Value) (L : List Int) (w : World) (h : RdN .i64 w v L) (ha : I64 a) (hb : I64 b) (hI : ∀ x ∈ L, I64 x) :
    Calls Try.prog 5 #[.int .i64 a, .int .i64 b, .int .i64 size, v] w fun e w' => e = .returned (.bool true) ∧ Below w.heap.size w w' := by
  have HV := hidd h
  obtain ⟨A, c, rfl, -⟩ := h
  have HI := hidd hI
  clear hI
  by_cases hlen : 100 < L.length
  · clear ha hb
    go_enter Try.func5, Try.ntmps5
    go_wp2
    go_ret
    exact ⟨rfl, Below.refl _ _⟩
  · have hL : ¬ (100 : Int) < L.length := by omega
    have h13 := fun w => c13 a w
    have h14 := fun w => c14 a w ha
    have h9 := fun w => c9 a b w
    have h15 := fun w => c15 a b w ha hb
    have h16 := fun w => c16 a b w
    have h17 := fun w => c17 a b w ha hb
    have h18 := fun w => c18 a b size w
    have h19 := fun w => c19 a b size w ha hb
    have HA := hidd ha
    generalize nxtI a = n at h13 h14
    generalize farI a b = f at h9 h15
    generalize lessI a b = ls at h16 h17
    generalize decide (farI b a < size) = wi at h18 h19
    have e1 : (n == n) = true := by simp
    have e2 : (f == f) = true := by simp
    have e3 : (ls == ls) = true := by simp
    have e4 : (wi == wi) = true := by simp
    have H13 := hidd h13
    have H14 := hidd h14
    have H9 := hidd h9
    have H15 := hidd h15
    have H16 := hidd h16
    have H17 := hidd h17
    have H18 := hidd h18
    have H19 := hidd h19
    clear h13 h14 h9 h15 h16 h17 h18 h19 ha hb
    go_enter Try.func5, Try.ntmps5
    go_wp2_with fail
    refine (c12 HV.out (by omega)).mono ?_
    rintro e w1 ⟨v9, rfl, ho1, hb1⟩
    have HO1 := hidd ho1
    have HB1 := hidd hb1
    clear ho1 hb1
    go_wp2_with fail
    refine (c8 a HO1.out.rd (by omega)).mono ?_
    rintro e w2 ⟨v10, rfl, ho2, hb2⟩
    have HO2 := hidd ho2
    have HB2 := hidd (Bl_then HB1.out hb2)
    have HO12 := hidd (HO1.out.below hb2)
    clear ho2 hb2
    go_wp2_with fail
    refine (c10 _).mono ?_
    rintro e w3 ⟨rfl, hb3⟩
    go_wp2_with fail
    refine (H13.out _).mono ?_
    rintro e w' ⟨rfl, rfl⟩
    go_wp2_with fail
    refine (H14.out _).mono ?_
    rintro e w' ⟨rfl, rfl⟩
    go_wp2_with fail
    refine (H9.out _).mono ?_
    rintro e w4 ⟨rfl, hb4⟩
    go_wp2_with fail
    refine (H15.out _).mono ?_
    rintro e w' ⟨rfl, rfl⟩
    go_wp2_with fail
    refine (H16.out _).mono ?_
    rintro e w5 ⟨rfl, hb5⟩
    go_wp2_with fail
    refine (H17.out _).mono ?_
    rintro e w' ⟨rfl, rfl⟩
    go_wp2_with fail
    refine (H18.out _).mono ?_
    rintro e w6 ⟨rfl, hb6⟩
    go_wp2_with fail
    refine (H19.out _).mono ?_
    rintro e w' ⟨rfl, rfl⟩
    have HB26 := hidd (Bl_then (Bl_then (Bl_then hb3 hb4) hb5) hb6)
    have HB6 := hidd (Bl_then HB2.out HB26.out)
    clear hb3 hb4 hb5 hb6
    go_wp2_with fail
    refine (c20 a (HV.out.below HB6.out) (by omega) HI.out HA.out).mono ?_
    rintro e w7 ⟨v7, rfl, ho7, hb7⟩
    have HO7 := hidd ho7
    have HB27 := hidd (Bl_then HB26.out hb7)
    have HB7 := hidd (Bl_then HB6.out hb7)
    clear ho7 hb7
    have hsl := sortI_length a L
    go_wp2_with fail
    refine (c11 (HO2.out.below HB27.out).rd HO7.out.rd (by omega) rfl).mono ?_
    rintro e w8 ⟨rfl, nq, rfl⟩
    go_wp2_with fail
    refine (c11 ((HO12.out.below HB27.out).below ((Below.refl _ _).drewN nq)).rd ((HV.out.below HB7.out).below ((Below.refl _ _).drewN nq)) (by omega) rfl).mono ?_
    rintro e w9 ⟨rfl, nq2, rfl⟩
    go_wp2
    go_ret
    exact ⟨rfl, HB7.out.drewN _⟩
end Go.Proofs.Ytidndkddjdfccaa
