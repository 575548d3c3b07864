/- Rows of numbers; the walks of the planes' Dsts and of the comparisons of rows. -/
import Derived.Test.YtnlcibobhmcfpaaUb
import Derived.Test.YtnlcibobhmcfpaaTf
import Derived.Test.YtnlcibobhmcfpaaShelf
import Derived.Sort.Grow
import Derived.Maps.AppendAt
set_option linter.unusedSimpArgs false
set_option linter.unusedVariables false
namespace Go.Proofs.Ytnlcibobhmcfpaa
open Go.RowKit
/-- The slice v reads as the numbers L, of kind κ. -/
def RdN (κ : IntKind) (w : World) (v : Value) (L : List Int) : Prop :=
  ∃ A c, v = .slice A L.length c ∧ (L = [] ∨ ∃ b o, A = some ⟨b, o, none⟩ ∧ b < w.heap.size ∧ ∀ k x, L[k]? = some x → w.cell? ⟨b, o + k, none⟩ = some (.int κ x))
/-- A row of the call's own. -/
def OwnN (E : TypeId) (κ : IntKind) (w : World) (base : Nat) (v : Value) (L : List Int) : Prop := w.ownsRow base E 1 v L.length (L.map (Value.int κ))
theorem RdN.below {κ : IntKind} {w w' : World} {v : Value} {L : List Int} (h : RdN κ w v L) (k : Below w.heap.size w w') : RdN κ w' v L := by
  obtain ⟨A, c, rfl, h⟩ := h
  refine ⟨A, c, rfl, ?_⟩
  rcases h with h | ⟨b, o, rfl, hb, h⟩
  · exact .inl h
  · exact .inr ⟨b, o, rfl, Nat.lt_of_lt_of_le hb k.size, fun j x hj => (k.cell (p := ⟨b, o + j, none⟩) hb).trans (h j x hj)⟩
theorem OwnN.nil (E : TypeId) (κ : IntKind) (w : World) (base : Nat) : OwnN E κ w base (.slice none 0 0) [] := World.ownsRow_nil _ _ _ _
theorem OwnN.base {E : TypeId} {κ : IntKind} {w : World} {base : Nat} {v : Value} {L : List Int} (h : OwnN E κ w base v L) {g : Nat} (hg : v.ownBlock = some g) : base ≤ g := by
  rcases h.2 with ⟨rfl, _⟩ | ⟨g', cap, cur, rfl, hb, _⟩
  · simp [Value.ownBlock] at hg
  · simp [Value.ownBlock] at hg; omega
theorem OwnN.below {E : TypeId} {κ : IntKind} {w w' : World} {base : Nat} {v : Value} {L : List Int} (h : OwnN E κ w base v L) (k : Below w.heap.size w w') : OwnN E κ w' base v L := by
  obtain ⟨h1, h2⟩ := h
  refine ⟨h1, ?_⟩
  rcases h2 with h2 | ⟨g, cap, cur, rfl, hb, hh, h3⟩
  · exact .inl h2
  · exact .inr ⟨g, cap, cur, rfl, hb, (k.block g (Array.getElem?_eq_some_iff.1 hh).1).trans hh, h3⟩
theorem OwnN.rd {E : TypeId} {κ : IntKind} {w : World} {base : Nat} {v : Value} {L : List Int} (h : OwnN E κ w base v L) : RdN κ w v L := by
  rcases h.2 with ⟨rfl, h0⟩ | ⟨g, cap, cur, rfl, hb, hh, hn, hm, hc, ht⟩
  · exact ⟨none, 0, by rw [h0], .inl (List.eq_nil_of_length_eq_zero h0)⟩
  · refine ⟨some ⟨g, 0, none⟩, cap, rfl, .inr ⟨g, 0, rfl, (Array.getElem?_eq_some_iff.1 hh).1, fun k x hk => ?_⟩⟩
    have hkl : k < L.length := (List.getElem?_eq_some_iff.1 hk).1
    have e : (L.map (Value.int κ))[k]? = some (.int κ x) := by rw [List.getElem?_map, hk]; rfl
    rw [cell_of_heap hh, ← e, ← ht, List.getElem?_take_of_lt (by omega)]
    simp
theorem info3 : (Try.prog.info? 3).map (fun i => (i.zero, i.size, i.bytes)) = some (some (.int .i64 0), 1, 8) := by kernel_rfl
set_option maxRecDepth 100000 in
/-- Numbers appended to a row of the call's own (plain []int). -/
theorem wpList_append_i {w : World} {ops : Array Oper} {rest : List Oper} {o : Oper} {a : Act} {Q : Exit → Act → World → Prop} (hgd : o.guard = none) (s x : Operand)
    (ho : o.op = .call { callee := .builtin .append, args := #[s, x], argTypes := #[70, 70] }) (base : Nat) (v : Value) (L : List Int) (hs : a.eval s = v) (hown : OwnN 3 .i64 w base v L)
    (g : Nat) (oo m c : Nat) (M : List Int) (hx : a.eval x = .slice (some ⟨g, oo, none⟩) m c) (hm : M.length = m) (hc : ∀ k x, M[k]? = some x → w.cell? ⟨g, oo + k, none⟩ = some (.int .i64 x))
    (hL : L.length + M.length ≤ 1000000) (hbase : base ≤ w.heap.size)
    (h : ∀ v' w', OwnN 3 .i64 w' base v' (L ++ M) → w.grownBy w' v.ownBlock → wpList Try.prog ops Q rest (a.put o.dst v') w') : wpList Try.prog ops Q (o :: rest) a w := by
  obtain ⟨i0, hi, hz0, hz1, hz2⟩ := info_parts info3
  subst hm
  refine wpList_append_own _ hgd s x 70 ho base 3 i0 _ 1 8 Try.underlying70 hi hz0 hz1 hz2 rfl (by decide) v L.length (L.map (Value.int .i64)) hs hown ⟨g, oo, none⟩ M.length c (M.map (Value.int .i64)) hx (by simp) ?_ ?_ (by unfold maxLen; omega) (by omega) hbase ?_
  · intro j u hj
    rw [List.getElem?_map] at hj
    obtain ⟨y, hy, rfl⟩ := Option.map_eq_some_iff.1 hj
    rw [addr_add]
    exact hc j y hy
  · intro u hu
    obtain ⟨y, _, rfl⟩ := List.mem_map.1 hu
    rfl
  · intro v' w' hr hg _
    exact h v' w' (by unfold OwnN; rw [List.map_append, List.length_append]; exact hr) hg
set_option maxHeartbeats 400000 in
/-- Two rows of numbers, told apart. -/
theorem c44 {w : World} {v1 v2 : Value} {L1 L2 : List Int} (h1 : RdN .i64 w v1 L1) (h2 : RdN .i64 w v2 L2) (hL : L1.length ≤ 1000000) (he : L1 = L2) :
    Calls Try.prog 44 #[v1, v2] w fun e w' => e = .returned (.bool true) ∧ ∃ nq, w.drewN nq = w' := by
  subst he
  obtain ⟨A1, k1, rfl, h1⟩ := h1
  obtain ⟨A2, k2, rfl, h2⟩ := h2
  have H1 := hidd h1
  have H2 := hidd h2
  clear h1 h2
  go_enter Try.func44, Try.ntmps44
  go_wp2
  go_loopw [5] (fun i wr => ∃ k : Nat, k ≤ L1.length ∧ i = .int .i64 k ∧ ∃ nq, w.drewN nq = wr) (fun i _ => L1.length - (intOf i).toNat)
  case atStart => exact ⟨0, Nat.zero_le _, rfl, 0, rfl⟩
  case round =>
    obtain ⟨k, hk, rfl, nq, rfl⟩ := hrel
    by_cases hlt : k < L1.length
    · obtain ⟨p, hp⟩ : ∃ p, L1[k]? = some p := ⟨_, List.getElem?_eq_getElem hlt⟩
      obtain ⟨b1, o1, rfl, hb1, hc1⟩ : ∃ b o, A1 = some ⟨b, o, none⟩ ∧ b < w.heap.size ∧ ∀ k x, L1[k]? = some x → w.cell? ⟨b, o + k, none⟩ = some (.int .i64 x) := by
        rcases H1.out with h0 | h0
        · rw [h0] at hlt; exact absurd hlt (by simp)
        · exact h0
      obtain ⟨b2, o2, rfl, hb2, hc2⟩ : ∃ b o, A2 = some ⟨b, o, none⟩ ∧ b < w.heap.size ∧ ∀ k x, L1[k]? = some x → w.cell? ⟨b, o + k, none⟩ = some (.int .i64 x) := by
        rcases H2.out with h0 | h0
        · rw [h0] at hlt; exact absurd hlt (by simp)
        · exact h0
      have c1 : w.cell? ⟨b1, o1 + k, none⟩ = some (.int .i64 p) := hc1 k p hp
      have c2 : w.cell? ⟨b2, o2 + k, none⟩ = some (.int .i64 p) := hc2 k p hp
      have i0 : (0 : Int) ≤ k := by omega
      have i1 : (k : Int) < L1.length := by omega
      clear hc1 hc2 hp
      go_wp2_with fail
      go_quiet (fail)
      go_wp2
      go_roundw
      case rel => exact ⟨k + 1, by omega, by go_num, _, rfl⟩
      case measure => first | (simp [intOf]; done) | (simp [intOf]; omega)
    · obtain rfl : k = L1.length := by omega
      go_wp2
      go_ret
      exact ⟨rfl, _, rfl⟩
/-- Two slices of verdicts that read alike are told the same. -/
theorem c42 {w : World} {v1 v2 : Value} {L : List Ver} (h1 : RdVd w v1 L) (h2 : RdVd w v2 L) (hL : L.length ≤ 1000000) :
    Calls Try.prog 42 #[v1, v2] w fun e w' => e = .returned (.bool true) ∧ ∃ nq, w.drewN nq = w' := by
  obtain ⟨A1, c1, rfl, h1⟩ := h1
  obtain ⟨A2, c2, rfl, h2⟩ := h2
  have H1 := hidd h1
  have H2 := hidd h2
  clear h1 h2
  have hll : ((L.length : Int) != L.length) = false := by simp
  go_enter Try.func42, Try.ntmps42
  go_wp2
  go_loopw [5] (fun i wr => ∃ k : Nat, k ≤ L.length ∧ i = .int .i64 k ∧ ∃ nq, w.drewN nq = wr) (fun i _ => L.length - (intOf i).toNat)
  case atStart => exact ⟨0, Nat.zero_le _, rfl, 0, rfl⟩
  case round =>
    obtain ⟨k, hk, rfl, nq, rfl⟩ := hrel
    by_cases hlt : k < L.length
    · obtain ⟨p, hp⟩ : ∃ p, L[k]? = some p := ⟨_, List.getElem?_eq_getElem hlt⟩
      obtain ⟨b, o, rfl, hbl, hcells⟩ : ∃ b o, A1 = some ⟨b, o, none⟩ ∧ b < w.heap.size ∧ ∀ k p, L[k]? = some p → VdHere w b (o + k * 7) p := by
        rcases H1.out with h0 | h0
        · rw [h0] at hlt; exact absurd hlt (by simp)
        · exact h0
      obtain ⟨b', o', rfl, hbl', hcells'⟩ : ∃ b o, A2 = some ⟨b, o, none⟩ ∧ b < w.heap.size ∧ ∀ k p, L[k]? = some p → VdHere w b (o + k * 7) p := by
        rcases H2.out with h0 | h0
        · rw [h0] at hlt; exact absurd hlt (by simp)
        · exact h0
      obtain ⟨kd, tt, s, d, t, n, x, er⟩ := p
      obtain ⟨d0, d1, d2, d3, d4, d5, d6⟩ := hcells k _ hp
      obtain ⟨e0, e1, e2, e3, e4, e5, e6⟩ := hcells' k _ hp
      dsimp only at d0 d1 d2 d3 d4 d5 d6 e0 e1 e2 e3 e4 e5 e6
      have hi : (k : Int) < L.length := by omega
      have hi0 : (0 : Int) ≤ k := by omega
      clear hcells hcells' hp hbl hbl'
      go_wp2_with fail
      go_quiet (fail)
      go_wp2
      go_roundw
      case rel => exact ⟨k + 1, by omega, by go_num, _, rfl⟩
      case measure => simp [intOf]; omega
    · go_wp2
      go_ret
      exact ⟨rfl, _, rfl⟩
/-- For whom packets wait. -/
def nums (n : Nat) : List Int := (List.range n).map fun (k : Nat) => (k : Int)
def dstB (L : List Pk) (n : Nat) : List Int := (nums n).filter fun d => decide (0 < cntB L d)
theorem dstB_succ (L : List Pk) (n : Nat) : dstB L (n + 1) = dstB L n ++ (if 0 < cntB L n then [(n : Int)] else []) := by
  unfold dstB nums
  rw [List.range_succ, List.map_append, List.filter_append]
  congr 1
  by_cases h : 0 < cntB L n <;> simp [h]
theorem dstB_len (L : List Pk) (n : Nat) : (dstB L n).length ≤ n := by
  unfold dstB nums
  exact Nat.le_trans (List.length_filter_le _ _) (by simp)
theorem nums_mem {n : Nat} {x : Int} : x ∈ nums n ↔ 0 ≤ x ∧ x < n := by
  unfold nums
  rw [List.mem_map]
  constructor
  · rintro ⟨k, hk, rfl⟩
    have := List.mem_range.1 hk
    omega
  · rintro ⟨h0, h1⟩
    exact ⟨x.toNat, List.mem_range.2 (by omega), by omega⟩
theorem nums_up (n : Nat) : (nums n).Pairwise (· < ·) := by
  unfold nums
  rw [List.pairwise_map]
  exact List.pairwise_lt_range.imp fun h => by omega
theorem cntB_pos {L : List Pk} {x : Int} : 0 < cntB L x ↔ ∃ p ∈ L, p.d = x := by
  unfold cntB
  rw [List.length_pos_iff_exists_mem]
  constructor
  · rintro ⟨p, hp⟩
    have := List.mem_filter.1 hp
    exact ⟨p, this.1, by simpa using this.2⟩
  · rintro ⟨p, hp, rfl⟩
    exact ⟨p, List.mem_filter.2 ⟨hp, by simp⟩⟩
theorem up_unique {S T : List Int} (hS : S.Pairwise (· < ·)) (hT : T.Pairwise (· < ·)) (h : ∀ x, x ∈ S ↔ x ∈ T) : S = T := by
  refine List.Perm.eq_of_pairwise (le := (· < ·)) (fun a b _ _ h1 h2 => by omega) hS hT ?_
  exact (List.perm_ext_iff_of_nodup (hS.imp fun h => by omega) (hT.imp fun h => by omega)).2 h
open Go.Lib in
theorem compact_up (D : List Int) (hp : D.Pairwise (· ≤ ·)) (m : Nat) (hm : m ≤ D.length) :
    (∀ x, x ∈ compactUpTo D.toArray m ↔ x ∈ D.take m) ∧ (compactUpTo D.toArray m).Pairwise (· < ·) := by
  induction m with
  | zero => simp [compactUpTo]
  | succ m ih =>
    obtain ⟨h1, h2⟩ := ih (by omega)
    have hml : m < D.length := by omega
    have hget : D.toArray[m]! = D[m] := by rw [getElem!_pos _ m (by simpa using hml)]; simp
    have htake : D.take (m + 1) = D.take m ++ [D[m]] := by rw [List.take_add_one, List.getElem?_eq_getElem hml]; rfl
    rw [compactUpTo_succ]
    by_cases hk : keeps D.toArray m = true
    · rw [if_pos hk, hget, htake]
      refine ⟨fun x => by rw [List.mem_append, List.mem_append, h1], ?_⟩
      rw [List.pairwise_append]
      refine ⟨h2, by simp, fun x hx y hy => ?_⟩
      simp at hy
      subst hy
      have hx' := (h1 x).1 hx
      obtain ⟨j, hj, rfl⟩ := List.mem_take_iff_getElem.1 hx'
      have hjm : j < m := by omega
      have hle := List.pairwise_iff_getElem.1 hp j m (by omega) hml hjm
      rcases Nat.eq_zero_or_pos m with h0 | h0
      · omega
      · have hlast := List.pairwise_iff_getElem.1 hp (m - 1) m (by omega) hml (by omega)
        have hne : D[m - 1] ≠ D[m] := by
          unfold keeps at hk
          simp only [decide_eq_true_eq] at hk
          rcases hk with hk | hk
          · omega
          · rw [hget, getElem!_pos _ (m - 1) (by simp; omega)] at hk
            intro e
            apply hk
            simpa using e.symm
        have hle2 : D[j] ≤ D[m - 1] := by
          rcases Nat.lt_or_ge j (m - 1) with h | h
          · exact List.pairwise_iff_getElem.1 hp j (m - 1) (by omega) (by omega) h
          · have : j = m - 1 := by omega
            subst this
            exact Int.le_refl _
        omega
    · rw [if_neg hk, List.append_nil, htake]
      refine ⟨fun x => ?_, h2⟩
      rw [List.mem_append, h1]
      constructor
      · exact .inl
      · rintro (h | h)
        · exact h
        · simp at h
          subst h
          unfold keeps at hk
          simp only [decide_eq_true_eq, not_or, Classical.not_not] at hk
          obtain ⟨h0, he⟩ := hk
          rw [hget, getElem!_pos _ (m - 1) (by simp; omega)] at he
          rw [he]
          exact List.mem_take_iff_getElem.2 ⟨m - 1, by omega, by simp⟩
theorem dsts_law (L : List Pk) (h : ∀ p ∈ L, nodeB p.d = true) : Lib.compact ((L.map Pk.d).mergeSort fun x y => decide (x ≤ y)) = dstB L 64 := by
  have hp : ((L.map Pk.d).mergeSort fun x y => decide (x ≤ y)).Pairwise (· ≤ ·) :=
    (List.pairwise_mergeSort (le := fun x y => decide (x ≤ y)) (fun a b c h1 h2 => by simp at *; omega) (fun a b => by simp; omega) (L.map Pk.d)).imp fun h => by simpa using h
  obtain ⟨h1, h2⟩ := compact_up _ hp _ (Nat.le_refl _)
  refine up_unique h2 ((nums_up 64).filter _) fun x => ?_
  show x ∈ Lib.compactUpTo _ _ ↔ _
  rw [h1, List.take_length, (List.mergeSort_perm _ _).mem_iff]
  unfold dstB
  rw [List.mem_filter, nums_mem, List.mem_map]
  simp only [decide_eq_true_eq, cntB_pos]
  constructor
  · rintro ⟨p, hp, rfl⟩
    have := h p hp
    simp [nodeB] at this
    exact ⟨⟨this.1, this.2⟩, p, hp, rfl⟩
  · rintro ⟨_, p, hp, e⟩
    exact ⟨p, hp, e⟩
theorem one_cell {w : World} {b : Nat} {x : Int} (h : w.cell? ⟨b, 0, none⟩ = some (.int .i64 x)) (k : Nat) (y : Int) (hk : [x][k]? = some y) : w.cell? ⟨b, 0 + k, none⟩ = some (.int .i64 y) := by
  match k, hk with
  | 0, hk => simp at hk; subst hk; exact h
set_option maxHeartbeats 400000 in
/-- The reference's Dsts. -/
theorem c45 {w : World} {y z B n : Nat} {me : Int} {c : Cn} {v : Value} {L : List Pk} (h : RP w y z B n me c v L) (hL : L.length ≤ 64) :
    Calls Try.prog 45 #[.pointer (some ⟨y, 0, none⟩)] w fun e w' => ∃ v', e = .returned v' ∧ OwnN 3 .i64 w' w.heap.size v' (dstB L 64) ∧ Below w.heap.size w w' := by
  have HA := hidd h
  clear h
  go_enter Try.func45, Try.ntmps45
  go_wp2
  go_loopw [3, 4] (fun v i wr => ∃ k : Nat, k ≤ 64 ∧ i = .int .i64 k ∧ OwnN 3 .i64 wr w.heap.size v (dstB L k) ∧ Below w.heap.size w wr) (fun _ i _ => 64 - (intOf i).toNat)
  case atStart => exact ⟨0, Nat.zero_le _, rfl, OwnN.nil _ _ _ _, Below.refl _ _⟩
  case round =>
    obtain ⟨k, hk, rfl, hown, hb⟩ := hrel
    by_cases hlt : k < 64
    · have HAr := hidd (HA.out.below hb)
      have y1 := HAr.out.y1
      have hz := hb.size
      have hdl := dstB_len L k
      have HO := hidd hown
      have HB := hidd hb
      have HS := hidd (dstB_succ L k)
      have hlt' : (k : Int) < 64 := by omega
      clear hown hb
      obtain ⟨n0, hn0⟩ : ∃ n0, cntB L k = n0 := ⟨_, rfl⟩
      have HN := hidd hn0
      clear hn0
      by_cases hpos : 0 < n0
      · go_wp2_with (first
          | (go_at_call 31; refine (c31 HAr.out.hR hL _).mono ?_; rintro e w' ⟨rfl, rfl⟩; rw [HN.out])
          | (at_builtin; refine wpList_append_i rfl (.tmp 16) (.tmp 18) rfl w.heap.size _ (dstB L k) rfl (HO.out.below (Bl_alloc (Below.refl _ _) _)) wr.heap.size 0 1 1 [(k : Int)] rfl rfl ?_ (by simp; omega) ?_ ?_; (exact one_cell (cell_of_heap (heap_new wr _) 0)); (exact Nat.le_trans hz (Bl_alloc (Below.refl _ _) _).size); intro v' w3 hown' hg'; (have HB3 := hidd ((Bl_alloc HB.out (.cells #[.int .i64 k] 3)).grown hg' (Bl_alloc HB.out _).size (fun k hk' => HO.out.base hk'))); (have HO3 := hidd hown'); clear hown' hg'))
        go_roundw
        case rel => exact ⟨k + 1, by omega, by go_num, by rw [HS.out, HN.out, if_pos hpos]; exact HO3.out, HB3.out⟩
        case measure => first | (simp [intOf]; done) | (simp [intOf]; omega)
      · go_wp2_with (go_at_call 31; refine (c31 HAr.out.hR hL _).mono ?_; rintro e w' ⟨rfl, rfl⟩; rw [HN.out])
        go_roundw
        case rel => exact ⟨k + 1, by omega, by go_num, by rw [HS.out, HN.out, if_neg hpos, List.append_nil]; exact HO.out, HB.out⟩
        case measure => first | (simp [intOf]; done) | (simp [intOf]; omega)
    · obtain rfl : k = 64 := by omega
      have HO := hidd hown
      have HB := hidd hb
      clear hown hb
      go_wp2
      go_ret
      exact ⟨_, rfl, HO.out, HB.out⟩
theorem heap_new_at (w : World) (o : Obj) {b : Nat} (hb : b = w.heap.size) : (w.alloc o).heap[b]? = some o := hb ▸ heap_new w o
theorem compact_le (D : List Int) : (Lib.compact D).length ≤ D.length := by
  unfold Lib.compact Lib.compactUpTo
  rw [List.length_map]
  exact Nat.le_trans (List.length_filter_le _ _) (by simp)
theorem own_some {w : World} {B : Nat} {v : Value} {L : List Int} (h : OwnN 3 .i64 w B v L) (hne : 0 < L.length) :
    ∃ g cap, v = .slice (some ⟨g, 0, none⟩) L.length cap ∧ B ≤ g ∧ g < w.heap.size ∧ L.length ≤ cap ∧ Sort.Holds (Value.int .i64) w g 0 L.toArray := by
  rcases h.2 with ⟨rfl, h0⟩ | ⟨g, cap, cur, rfl, hb, hh, hn, hm, hc, ht⟩
  · omega
  · refine ⟨g, cap, rfl, hb, (Array.getElem?_eq_some_iff.1 hh).1, hn, fun j hj => ?_⟩
    have hj' : j < L.length := by simpa using hj
    refine ⟨?_, by simpa using free_of_heap hh (0 + j)⟩
    rw [cell_of_heap hh, getElem!_pos _ j hj]
    have e : (L.map (Value.int .i64))[j]? = some (.int .i64 L[j]) := by simp [hj']
    rw [← ht, List.getElem?_take_of_lt (by omega)] at e
    simpa using e
open Go.Sort in
theorem below_put {α : Type} [Inhabited α] (enc : α → Value) {B : Nat} {w : World} {g n : Nat} {os : Array Obj} (d : Array α) (hB : B ≤ w.heap.size) (hg : B ≤ g) : Below B w (grow (putRow enc (Sort.ahead w n) g 0 d) os) := by
  refine ⟨rfl, rfl, rfl, by simp [Sort.ahead], fun k hk => ?_⟩
  rw [heap_grow_old _ _ (by simp [Sort.ahead]; omega)]
  have : g ≠ k := by omega
  simp [putRow, mapBlock, Sort.ahead, Array.getElem?_modify, this]
open Go.Sort Go.Lib in
set_option maxHeartbeats 1000000 in
/-- Dsts. -/
theorem c39 {w : World} {x q r n f : Nat} {R L : List Pk} {me : Int} {c : Cn} (h : PAt w x q r n f R L me c) (hN : ∀ p ∈ L, nodeB p.d = true) :
    Calls Try.prog 39 #[.pointer (some ⟨x, 0, none⟩)] w fun e w' => ∃ v', e = .returned v' ∧ RdN .i64 w' v' (dstB L 64) ∧ Below w.heap.size w w' := by
  have hL : L.length ≤ 64 := Nat.le_trans h.hQ.hL h.hQ.n64
  have HA := hidd h
  have HLAW := hidd (dsts_law L hN)
  clear h hN
  go_enter Try.func39, Try.ntmps39
  go_wp2_with fail
  refine (c36 HA.out).mono ?_
  rintro e w1 ⟨v1, rfl, ho1, hb1⟩
  obtain ⟨A1, k1, rfl, hr1⟩ := ho1.rd
  have HR1 := hidd hr1
  have HB1 := hidd hb1
  have hz1 := hb1.size
  clear ho1 hb1 hr1
  go_wp2
  go_loopw [3, 9] (fun v i wr => ∃ k : Nat, k ≤ L.length ∧ i = .int .i64 k ∧ OwnN 3 .i64 wr w1.heap.size v ((L.take k).map Pk.d) ∧ Below w1.heap.size w1 wr) (fun _ i _ => L.length - (intOf i).toNat)
  case atStart => exact ⟨0, Nat.zero_le _, rfl, OwnN.nil _ _ _ _, Below.refl _ _⟩
  case round =>
    obtain ⟨k, hk, rfl, hown, hb⟩ := hrel
    by_cases hlt : k < L.length
    · obtain ⟨p, hp⟩ : ∃ p, L[k]? = some p := ⟨_, List.getElem?_eq_getElem hlt⟩
      obtain ⟨b, o, rfl, hbl, hcells⟩ : ∃ b o, A1 = some ⟨b, o, none⟩ ∧ b < w1.heap.size ∧ ∀ k p, L[k]? = some p → PkHere w1 b (o + k * 5) p := by
        rcases HR1.out with h0 | h0
        · rw [h0] at hlt; exact absurd hlt (by simp)
        · exact h0
      obtain ⟨d0, d1, d2, d3, d4⟩ := (hcells k p hp).keeps (Keeps.below (S := fun _ => False) hb) hbl (fun x => x)
      have HT : Hid ((L.take (k + 1)).map Pk.d = (L.take k).map Pk.d ++ [p.d]) := hidd (by rw [take_snoc' hp]; simp)
      have hz := hb.size
      have HO := hidd hown
      have HB := hidd hb
      have hml : ((L.take k).map Pk.d).length + ([p.d] : List Int).length ≤ 1000000 := by simp; omega
      clear hcells hp hown hb
      go_wp2_with (at_builtin; refine wpList_append_i rfl (.tmp 13) (.tmp 16) rfl w1.heap.size _ ((L.take k).map Pk.d) rfl ((HO.out.below (Bl_alloc (Below.refl _ _) _)).below (Bl_alloc (Below.refl _ _) _)) _ 0 1 1 [p.d] rfl rfl ?_ hml ?_ ?_; (exact one_cell (by exact cell_of_heap (heap_new_at _ _ (by simp)) 0)); (exact Nat.le_trans hz (Bl_alloc (Bl_alloc (Below.refl _ _) _) _).size); intro v' w3 hown' hg'; (have HB3 := hidd ((Bl_alloc (Bl_alloc HB.out (.cells #[.int .i64 p.s, .int .i64 p.d, .int .i64 p.t, .int .i64 p.n, .string p.x] 23)) (.cells #[.int .i64 p.d] 3)).grown hg' (Bl_alloc (Bl_alloc HB.out _) _).size (fun k hk' => HO.out.base hk'))); (have HO3 := hidd hown'); clear hown' hg')
      go_roundw
      case rel => exact ⟨k + 1, by omega, by go_num, by rw [HT.out]; exact HO3.out, HB3.out⟩
      case measure => first | (simp [intOf]; done) | (simp [intOf]; omega)
    · obtain rfl : k = L.length := by omega
      rw [List.take_length] at hown
      have HB := hidd hb
      have hz := hb.size
      have hdl : (L.map Pk.d).length = L.length := by simp
      generalize L.map Pk.d = D at hown hdl HLAW
      have hd64 : D.length ≤ 64 := by omega
      clear hdl
      rcases Nat.eq_zero_or_pos D.length with h0 | h0
      · obtain rfl := List.eq_nil_of_length_eq_zero h0
        obtain ⟨A2, k2, e2, -⟩ := hown.rd
        have e3 : u3 = .slice A2 0 k2 := e2
        subst e3
        have e : dstB L 64 = [] := by rw [← HLAW.out]; simp [Lib.compact, compactUpTo]
        have HE := hidd e
        clear hown hb e e2 HLAW
        go_wp2_with fail
        refine (Try.slices_Sort_int_none A2 k2 _).mono ?_
        rintro e w' ⟨rfl, hw⟩
        subst hw
        go_wp2_with fail
        refine (Try.slices_Compact_int_empty A2 k2 _).mono ?_
        rintro e w' ⟨rfl, hw⟩
        subst hw
        go_wp2
        go_ret
        exact ⟨_, rfl, by rw [HE.out]; exact ⟨_, _, rfl, .inl rfl⟩, Bl_then HB1.out HB.out⟩
      · obtain ⟨g, cap, rfl, hBg, hg, hcap, hH⟩ := own_some hown h0
        have HH := hidd hH
        clear hown hb hH
        go_wp2_with fail
        refine (Try.slices_Sort_int g 0 cap D _ HH.out hg (by omega)).mono ?_
        rintro e w3 ⟨rfl, n3, os3, hw3⟩
        have hB3 : Below w1.heap.size w1 w3 := HB.out.trans (by rw [hw3]; exact below_put _ _ hz hBg)
        have hH3 : Holds (Value.int .i64) w3 g 0 (D.mergeSort fun x y => decide (x ≤ y)).toArray := by
          rw [hw3]
          exact holds_grow _ _ _ _ _ _ (by simpa [Sort.ahead] using hg) (holds_putRow _ _ _ _ D.toArray _ HH.out (by simp))
        have hg3 : g < w3.heap.size := by rw [hw3]; simp [grow, Sort.ahead]; omega
        have hsl : (D.mergeSort fun x y => decide (x ≤ y)).length = D.length := by simp
        generalize (D.mergeSort fun x y => decide (x ≤ y)) = E at hH3 hsl HLAW
        have HH3 := hidd hH3
        have HSL := hidd hsl
        have hsl64 : E.length ≤ 64 := by omega
        have hslc : E.length ≤ cap := by omega
        have HB3 := hidd hB3
        have hz3 := hB3.size
        clear hw3 hB3 hH3 HH hsl
        have hc := Try.slices_Compact_int g 0 cap E w3 HH3.out (by omega) (by omega)
        rw [HLAW.out, HSL.out] at hc
        have HCC := hidd hc
        clear hc
        have hdl2 := dstB_len L 64
        go_wp2_with fail
        refine HCC.out.mono ?_
        clear HCC
        rintro e w4 ⟨rfl, q4, hw4⟩
        have hB4 : Below w1.heap.size w1 w4 := HB3.out.trans (by
          rw [hw4, ← grow_empty (putRow _ _ _ _ _)]
          exact below_put _ _ hz3 hBg)
        have hR4 : RdN .i64 w4 (.slice (some ⟨g, 0, none⟩) (dstB L 64).length cap) (dstB L 64) := by
          refine ⟨_, _, rfl, .inr ⟨g, 0, rfl, ?_, fun k x hk => ?_⟩⟩
          · rw [hw4]; simpa [Sort.ahead] using hg3
          · have hkl : k < (dstB L 64).length := (List.getElem?_eq_some_iff.1 hk).1
            have hle : (dstB L 64).length ≤ D.length := by rw [← HLAW.out, ← HSL.out]; exact compact_le E
            have hp := holds_putRow (Value.int .i64) (Sort.ahead w3 q4) g 0 E.toArray (dstB L 64 ++ List.replicate (D.length - (dstB L 64).length) 0).toArray HH3.out (by have := HSL.out; simp; omega)
            have := (hp k (by simp; omega)).1
            rw [hw4, this, getElem!_pos _ k (by simp; omega)]
            simp [List.getElem_append_left hkl, (List.getElem?_eq_some_iff.1 hk).2]
        have HB4 := hidd hB4
        have HR4 := hidd hR4
        clear hw4 hB4 hR4
        go_wp2
        go_ret
        exact ⟨_, rfl, HR4.out, Bl_then HB1.out HB4.out⟩
end Go.Proofs.Ytnlcibobhmcfpaa
