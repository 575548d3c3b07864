/- The walks of Less, Within and the reference's. -/
import Derived.Test.YtidndkddjdfccaaB
set_option linter.unusedSimpArgs false
namespace Go.Proofs.Ytidndkddjdfccaa
open Go.RowKit
def I64 (n : Int) : Prop := -9223372036854775808 ≤ n ∧ n ≤ 9223372036854775807
def lessI (a b : Int) : Bool := decide (0 < farI a b) && decide (farI a b < 32768)
theorem far_lt (a b : Int) : 0 ≤ farI a b ∧ farI a b < 65536 := by unfold farI; omega
theorem c16 (a b : Int) (w : World) : Calls Try.prog 16 #[.int .i64 a, .int .i64 b] w fun e w' => e = .returned (.bool (lessI a b)) ∧ Below w.heap.size w w' := by
  unfold lessI
  have hc := c9 a b w
  obtain ⟨f, hf⟩ : ∃ f, farI a b = f := ⟨_, rfl⟩
  rw [hf] at hc ⊢
  clear hf
  by_cases h0 : 0 < f
  · by_cases h1 : f < 32768
    · go_enter Try.func16, Try.ntmps16
      go_wp2_with (go_at_call 9; refine hc.mono ?_; rintro e w1 ⟨rfl, hb⟩)
      go_ret
      exact ⟨by simp [h0, h1], hb⟩
    · go_enter Try.func16, Try.ntmps16
      go_wp2_with (go_at_call 9; refine hc.mono ?_; rintro e w1 ⟨rfl, hb⟩)
      go_ret
      exact ⟨by simp [h0, h1], hb⟩
  · go_enter Try.func16, Try.ntmps16
    go_wp2_with (go_at_call 9; refine hc.mono ?_; rintro e w1 ⟨rfl, hb⟩)
    go_ret
    exact ⟨by simp [h0]; try omega, hb⟩
theorem c18 (a first size : Int) (w : World) : Calls Try.prog 18 #[.int .i64 a, .int .i64 first, .int .i64 size] w fun e w' => e = .returned (.bool (decide (farI first a < size))) ∧ Below w.heap.size w w' := by
  have hc := c9 first a w
  generalize farI first a = f at hc ⊢
  go_enter Try.func18, Try.ntmps18
  go_wp2_with (go_at_call 9; refine hc.mono ?_; rintro e w1 ⟨rfl, hb⟩)
  go_ret
  exact ⟨rfl, hb⟩
theorem c14 (a : Int) (w : World) (ha : I64 a) : Calls Try.prog 14 #[.int .i64 a] w fun e w' => e = .returned (.int .i64 (nxtI a)) ∧ w = w' := by
  have hc := c26 a w ha.1 ha.2
  have h1 : wrap64 ((lf a + 1).tmod 65536) = nxtI a := by
    rw [Int.tmod_eq_emod_of_nonneg (by unfold lf; omega)]
    unfold wrap64 nxtI lf
    omega
  have h0 : wrap64 (lf a + 1) = lf a + 1 := by unfold wrap64 lf; omega
  have h1' : (lf a + 1).tmod 65536 = nxtI a := by
    rw [Int.tmod_eq_emod_of_nonneg (by unfold lf; omega)]
    unfold nxtI lf
    omega
  generalize lf a = f at hc h0 h1 h1'
  have H1 := hidd h1
  have H2 := hidd h1'
  clear h1 h1'
  go_enter Try.func14, Try.ntmps14
  go_wp2_with (go_at_call 26; refine hc.mono ?_; rintro e w1 ⟨rfl, rfl⟩)
  go_ret
  exact ⟨ret64 (by first | exact H1.out | exact H2.out), rfl⟩
theorem c15 (a b : Int) (w : World) (ha : I64 a) (hb : I64 b) : Calls Try.prog 15 #[.int .i64 a, .int .i64 b] w fun e w' => e = .returned (.int .i64 (farI a b)) ∧ w = w' := by
  have hca := c26 a w ha.1 ha.2
  have hcb := c26 b w hb.1 hb.2
  have h0 : wrap64 (lf b - lf a) = lf b - lf a := by unfold wrap64 lf; omega
  have hcf := c26 (lf b - lf a) w (by unfold lf; omega) (by unfold lf; omega)
  have h1 : lf (lf b - lf a) = farI a b := by unfold lf farI; omega
  rw [h1] at hcf
  clear h1
  generalize farI a b = f at hcf ⊢
  obtain ⟨p, hp⟩ : ∃ p, lf a = p := ⟨_, rfl⟩
  obtain ⟨q, hq⟩ : ∃ q, lf b = q := ⟨_, rfl⟩
  rw [hp] at hca h0 hcf
  rw [hq] at hcb h0 hcf
  clear hp hq
  go_enter Try.func15, Try.ntmps15
  go_wp2_with fail
  refine hcb.mono ?_
  rintro e w1 ⟨rfl, rfl⟩
  go_wp2_with fail
  refine hca.mono ?_
  rintro e w1 ⟨rfl, rfl⟩
  go_wp2_with fail
  refine hcf.mono ?_
  rintro e w1 ⟨rfl, rfl⟩
  go_wp2
  go_ret
  exact ⟨rfl, rfl⟩
theorem c17 (a b : Int) (w : World) (ha : I64 a) (hb : I64 b) : Calls Try.prog 17 #[.int .i64 a, .int .i64 b] w fun e w' => e = .returned (.bool (lessI a b)) ∧ w = w' := by
  have hc := c15 a b w ha hb
  unfold lessI
  generalize farI a b = f at hc ⊢
  by_cases h0 : 1 ≤ f
  · by_cases h1 : f ≤ 32767
    · go_enter Try.func17, Try.ntmps17
      go_wp2_with (go_at_call 15; refine hc.mono ?_; rintro e w1 ⟨rfl, rfl⟩)
      go_ret
      have h2 : 0 < f := by omega
      have h3 : f < 32768 := by omega
      exact ⟨by simp [h2, h3], rfl⟩
    · go_enter Try.func17, Try.ntmps17
      go_wp2_with (go_at_call 15; refine hc.mono ?_; rintro e w1 ⟨rfl, rfl⟩)
      go_ret
      have h2 : 0 < f := by omega
      have h3 : ¬ f < 32768 := by omega
      exact ⟨by simp [h2, h3]; try omega, rfl⟩
  · go_enter Try.func17, Try.ntmps17
    go_wp2_with (go_at_call 15; refine hc.mono ?_; rintro e w1 ⟨rfl, rfl⟩)
    go_ret
    have h2 : ¬ 0 < f := by omega
    exact ⟨by simp [h2]; try omega, rfl⟩
theorem c19 (a first size : Int) (w : World) (ha : I64 a) (hb : I64 first) : Calls Try.prog 19 #[.int .i64 a, .int .i64 first, .int .i64 size] w fun e w' => e = .returned (.bool (decide (farI first a < size))) ∧ w = w' := by
  have hc := c15 first a w hb ha
  generalize farI first a = f at hc ⊢
  go_enter Try.func19, Try.ntmps19
  go_wp2_with (go_at_call 15; refine hc.mono ?_; rintro e w1 ⟨rfl, rfl⟩)
  go_ret
  exact ⟨rfl, rfl⟩
set_option maxHeartbeats 400000 in
/-- Two rows of numbers, told apart. -/
theorem c11 {w : World} {v1 v2 : Value} {L1 L2 : List Int} (h1 : RdN .i64 w v1 L1) (h2 : RdN .i64 w v2 L2) (hL : L1.length ≤ 1000000) (he : L1 = L2) :
    Calls Try.prog 11 #[v1, v2] w fun e w' => e = .returned (.bool true) ∧ ∃ nq, w.drewN nq = w' := by
  subst he
  obtain ⟨A1, k1, rfl, h1⟩ := h1
  obtain ⟨A2, k2, rfl, h2⟩ := h2
  have H1 := hidd h1
  have H2 := hidd h2
  clear h1 h2
  go_enter Try.func11, Try.ntmps11
  go_wp2
  go_loopw [5] (fun i wr => ∃ k : Nat, k ≤ L1.length ∧ i = .int .i64 k ∧ ∃ nq, w.drewN nq = wr) (fun i _ => L1.length - (intOf i).toNat)
  case atStart => exact ⟨0, Nat.zero_le _, rfl, 0, rfl⟩
  case round =>
    obtain ⟨k, hk, rfl, nq, rfl⟩ := hrel
    by_cases hlt : k < L1.length
    · obtain ⟨p, hp⟩ : ∃ p, L1[k]? = some p := ⟨_, List.getElem?_eq_getElem hlt⟩
      obtain ⟨b1, o1, rfl, hb1, hc1⟩ : ∃ b o, A1 = some ⟨b, o, none⟩ ∧ b < w.heap.size ∧ ∀ k x, L1[k]? = some x → w.cell? ⟨b, o + k, none⟩ = some (.int .i64 x) := by
        rcases H1.out with h0 | h0
        · rw [h0] at hlt; exact absurd hlt (by simp)
        · exact h0
      obtain ⟨b2, o2, rfl, hb2, hc2⟩ : ∃ b o, A2 = some ⟨b, o, none⟩ ∧ b < w.heap.size ∧ ∀ k x, L1[k]? = some x → w.cell? ⟨b, o + k, none⟩ = some (.int .i64 x) := by
        rcases H2.out with h0 | h0
        · rw [h0] at hlt; exact absurd hlt (by simp)
        · exact h0
      have c1 : w.cell? ⟨b1, o1 + k, none⟩ = some (.int .i64 p) := hc1 k p hp
      have c2 : w.cell? ⟨b2, o2 + k, none⟩ = some (.int .i64 p) := hc2 k p hp
      have i0 : (0 : Int) ≤ k := by omega
      have i1 : (k : Int) < L1.length := by omega
      clear hc1 hc2 hp
      go_wp2_with fail
      go_quiet (fail)
      go_wp2
      go_roundw
      case rel => exact ⟨k + 1, by omega, by go_num, _, rfl⟩
      case measure => first | (simp [intOf]; done) | (simp [intOf]; omega)
    · obtain rfl : k = L1.length := by omega
      go_wp2
      go_ret
      exact ⟨rfl, _, rfl⟩
set_option maxHeartbeats 400000 in
/-- A row's copy. -/
theorem c12 {w : World} {v : Value} {L : List Int} (h : RdN .i64 w v L) (hL : L.length ≤ 1000000) :
    Calls Try.prog 12 #[v] w fun e w' => ∃ v', e = .returned v' ∧ OwnN 3 .i64 w' w.heap.size v' L ∧ Below w.heap.size w w' := by
  obtain ⟨A, c, rfl, hrd⟩ := h
  rcases hrd with rfl | ⟨b, o, rfl, hb, hc⟩
  · cases A with
    | none =>
      go_enter Try.func12, Try.ntmps12
      go_wp2
      go_ret
      exact ⟨_, rfl, OwnN.nil _ _ _ _, Below.refl _ _⟩
    | some a =>
      go_enter Try.func12, Try.ntmps12
      go_wp2
      go_ret
      exact ⟨_, rfl, OwnN.nil _ _ _ _, Below.refl _ _⟩
  · have HC := hidd hc
    clear hc
    go_enter Try.func12, Try.ntmps12
    go_wp2_with (at_builtin; refine wpList_append_i rfl (.tmp 4) (.tmp 5) rfl w.heap.size _ [] rfl (OwnN.nil _ _ _ _) b o L.length c L rfl rfl HC.out (by simpa using hL) (Nat.le_refl _) ?_; intro v' w1 hown hg)
    go_ret
    exact ⟨_, rfl, by simpa using hown, (Below.refl _ _).grown hg (Nat.le_refl _) (fun _ e => by cases e)⟩
end Go.Proofs.Ytidndkddjdfccaa
