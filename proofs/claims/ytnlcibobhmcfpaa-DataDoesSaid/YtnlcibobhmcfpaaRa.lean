/- The walk of the statement QueueFirst. -/
import Derived.Test.YtnlcibobhmcfpaaQi
import Derived.Test.YtnlcibobhmcfpaaOpens
set_option linter.unusedSimpArgs false
namespace Go.Proofs.Ytnlcibobhmcfpaa
open Go.RowKit
/-- What Put tells, and what waits then. -/
def putE (n : Nat) (L : List Pk) (p : Pk) : Int := bif p.right then (bif L.length == n then 8 else 0) else 1
def putL (n : Nat) (L : List Pk) (p : Pk) : List Pk := bif p.right then (bif L.length == n then L else L ++ [p]) else L
theorem c20a {w : World} {q r n f : Nat} {R L : List Pk} (h : QAt w q r n f R L) (p : Pk) :
    Calls Try.prog 20 #[.pointer (some ⟨q, 0, none⟩), p.val] w fun e w' => e = .returned (.int .i64 (putE n L p)) ∧ (∃ R', QAt w' q r n f R' (putL n L p)) ∧ Keeps (InQ q r) w w' := by
  unfold putE putL
  cases hr : p.right with
  | false => exact (c20b q p w hr).mono fun e w' ⟨he, hb⟩ => ⟨he, ⟨R, h.below hb⟩, Keeps.below hb⟩
  | true =>
    cases hl : L.length == n with
    | true => exact (c20f h p hr (by simpa using hl)).mono fun e w' ⟨he, hb⟩ => ⟨he, ⟨R, h.below hb⟩, Keeps.below hb⟩
    | false => exact (c20g h p hr (by have := h.hL; simp at hl; omega)).mono fun e w' ⟨he, hq, hk⟩ => ⟨he, ⟨_, hq⟩, hk⟩
theorem Bl_thenM {B : Nat} {w w1 w2 : World} (h : Below B w w1) (k : Below w1.heap.size w1 w2) (hB : B ≤ w.heap.size := by first | exact Nat.le_refl _ | assumption) : Below B w w2 := h.trans (k.mono (Nat.le_trans hB h.size))
theorem findB_head (p : Pk) (L : List Pk) : findB (p :: L) p.d = 0 := by simp [findB, List.findIdx?_cons]
theorem drop_eq {L : List Pk} {k : Nat} {p : Pk} (h : L[k]? = some p) : L.drop k = p :: L.drop (k + 1) := by
  obtain ⟨hk, e⟩ := List.getElem?_eq_some_iff.1 h
  rw [List.drop_eq_getElem_cons hk, e]
theorem pk_big {x : ByteArray} (h : x.size ≤ maxLen) : (x.size : Int) ≤ 9223372036854775807 := by unfold maxLen at h; omega
set_option maxRecDepth 100000 in
set_option maxHeartbeats 2000000 in
theorem c6 (m : Int) (v : Value) (L : List Pk) (w : World) (hv : RdPk w v L) :
    Calls Try.prog 6 #[.int .i64 m, v] w fun e w' => e = .returned (.bool true) ∧ Below w.heap.size w w' := by
  obtain ⟨A, c, rfl, hrd⟩ := hv
  have HR := hidd hrd
  clear hrd
  by_cases hm1 : m < 1 ∨ 64 < m
  · go_enter Try.func6, Try.ntmps6
    go_wp2_with (first
      | (go_at_call 18; refine (c18b m _ hm1).mono ?_; rintro e w' ⟨rfl, rfl⟩)
      | (go_at_call 19; refine (c19 _).mono ?_; rintro e w' ⟨rfl, hb⟩))
    go_ret
    exact ⟨rfl, hb⟩
  · obtain ⟨n, rfl⟩ : ∃ n : Nat, m = n := ⟨m.toNat, by omega⟩
    by_cases hl : L.length ≤ 100
    · go_enter Try.func6, Try.ntmps6
      go_wp2_with fail
      refine (c18g n _ (by omega) (by omega)).mono ?_
      rintro e w1 ⟨q, r, rfl, hQ1, hq, hr, hB1⟩
      have HQ1 := hidd hQ1
      have HB1 := hidd hB1
      obtain ⟨l1, l2⟩ := hQ1.lt
      clear hQ1 hB1
      go_wp2
      go_loopw [7] (fun i wr => ∃ k : Nat, k ≤ L.length ∧ i = .int .i64 k ∧ (∃ R M, QAt wr q r n 0 R M) ∧ Below w.heap.size w wr) (fun i _ => L.length - (intOf i).toNat)
      case atStart => exact ⟨0, Nat.zero_le _, rfl, ⟨_, _, HQ1.out⟩, HB1.out⟩
      case round =>
        obtain ⟨k, hk, rfl, ⟨R, M, hQ⟩, hb⟩ := hrel
        by_cases hlt : k < L.length
        · obtain ⟨p, hp⟩ : ∃ p, L[k]? = some p := ⟨_, List.getElem?_eq_getElem hlt⟩
          obtain ⟨b, o, rfl, hbl, hcells⟩ : ∃ b o, A = some ⟨b, o, none⟩ ∧ b < w.heap.size ∧ ∀ k p, L[k]? = some p → PkHere w b (o + k * 5) p := by
            rcases HR.out with h0 | h0
            · rw [h0] at hlt; exact absurd hlt (by simp)
            · exact h0
          obtain ⟨c0, c1, c2, c3, c4⟩ := (hcells k p hp).keeps (Keeps.below (S := fun _ => False) hb) hbl (fun x => x)
          have HQ := hidd hQ
          have HB := hidd hb
          clear hcells hp hQ hb
          by_cases hx : (p.x.size : Int) ≤ 600
          · go_wp2_with (go_at_call 20; refine (c20a HQ.out p).mono ?_; rintro e w2 ⟨rfl, ⟨R2, hQ2⟩, hK2⟩; have HQ2 := hidd hQ2; have HK2 := hidd hK2; clear hQ2 hK2)
            go_roundw
            case rel => exact ⟨k + 1, by omega, by go_num, ⟨_, _, HQ2.out⟩, Bl_keeps HB.out HK2.out hq hr⟩
            case measure => simp [intOf]; omega
          · go_wp2
            go_ret
            exact ⟨rfl, HB.out⟩
        · have HQ := hidd hQ
          have HB := hidd hb
          clear hQ hb
          go_wp2_with fail
          refine (c22 HQ.out).mono ?_
          rintro e w2 ⟨v2, rfl, hown, hb2⟩
          have hg2 : ∀ g, v2.ownBlock = some g → ¬ InQ q r g := by
            intro g hg hq'
            have h1 := hown.base hg
            have h2 := HQ.out.lt
            rcases hq' with rfl | rfl <;> omega
          obtain ⟨A2, c2, rfl, hrd2⟩ := hown.rd
          have HQ2 := hidd (HQ.out.below hb2)
          have HB2 := hidd (Bl_thenM HB.out hb2)
          have HR2 := hidd hrd2
          have HG2 := hidd hg2
          clear hown hb2 hrd2 hg2 HQ HB
          have hML := HQ2.out.hL
          have hn64 := HQ2.out.n64
          go_wp2
          go_loopw [9] (fun i wx => ∃ j : Nat, j ≤ M.length ∧ i = .int .i64 j ∧ (∃ f R, QAt wx q r n f R (M.drop j)) ∧ Keeps (InQ q r) w2 wx) (fun i _ => M.length - (intOf i).toNat)
          case atStart => exact ⟨0, Nat.zero_le _, rfl, ⟨_, _, HQ2.out⟩, Keeps.refl _ _⟩
          case round =>
            obtain ⟨j, hj, rfl, ⟨f', R', hQ⟩, hK⟩ := hrel
            by_cases hjl : j < M.length
            · obtain ⟨p, hp⟩ : ∃ p, M[j]? = some p := ⟨_, List.getElem?_eq_getElem hjl⟩
              obtain ⟨b2, o2, rfl, hbl2, hcells2⟩ : ∃ b o, A2 = some ⟨b, o, none⟩ ∧ b < w2.heap.size ∧ ∀ k p, M[k]? = some p → PkHere w2 b (o + k * 5) p := by
                rcases HR2.out with h0 | h0
                · rw [h0] at hjl; exact absurd hjl (by simp)
                · exact h0
              rw [drop_eq hp] at hQ
              have hnb := HG2.out b2 rfl
              have HC2 := hidd (hcells2 j p hp)
              have HQ := hidd hQ
              have HK := hidd hK
              clear hcells2 hp hQ hK
              go_wp2_with fail
              refine (c25h HQ.out).mono ?_
              rintro e w3 ⟨rfl, hb3⟩
              have HQ3 := hidd ((HQ.out.below hb3).below (Bl_alloc (Below.refl _ _) (.cells #[.int .i64 p.s, .int .i64 p.d, .int .i64 p.t, .int .i64 p.n, .string p.x] 23)))
              have HK3 := hidd ((HK.out.trans (Keeps.below hb3)).alloc (.cells #[.int .i64 p.s, .int .i64 p.d, .int .i64 p.t, .int .i64 p.n, .string p.x] 23))
              have hl3 := (HQ.out.below hb3).lt
              clear hb3 HQ HK
              unfold Pk.val
              go_wp2_with fail
              refine (c23h HQ3.out (k := 0) (findB_head p _) rfl).mono ?_
              rintro e w4 ⟨rfl, ⟨f4, R4, hQ4⟩, hK4⟩
              have hn := hK4.heapAt (heap_new w3 (.cells #[.int .i64 p.s, .int .i64 p.d, .int .i64 p.t, .int .i64 p.n, .string p.x] 23)) (by unfold InQ; omega)
              have hn' := cell_of_heap (heap_alloc hn (.cells #[.int .i64 p.s, .int .i64 p.d, .int .i64 p.t, .int .i64 p.n, .string p.x] 23))
              have HK4 := hidd ((HK3.out.trans hK4).alloc (.cells #[.int .i64 p.s, .int .i64 p.d, .int .i64 p.t, .int .i64 p.n, .string p.x] 23))
              have HQ4 := hidd (hQ4.below (Bl_alloc (Below.refl _ _) (.cells #[.int .i64 p.s, .int .i64 p.d, .int .i64 p.t, .int .i64 p.n, .string p.x] 23)))
              obtain ⟨e0, e1, e2, e3, e4⟩ := HC2.out.keeps HK4.out hbl2 hnb
              have n0 := hn' 0
              have n1 := hn' 1
              have n2 := hn' 2
              have n3 := hn' 3
              have n4 := hn' 4
              have hj0 : (0 : Int) ≤ j := by omega
              have hj1 : (j : Int) < M.length := by omega
              clear hn hn' hQ4 hK4 HQ3 HK3
              unfold Pk.val
              go_wp2_with fail
              go_quiet (fail)
              go_wp2
              go_roundw
              case rel => exact ⟨j + 1, by omega, by go_num, ⟨_, _, HQ4.out.drewN _⟩, HK4.out.drewN _⟩
              case measure => simp [intOf]; omega
            · have hjM : j = M.length := by omega
              rw [hjM, List.drop_length] at hQ
              have HQ := hidd hQ
              have HB := hidd (Bl_keeps HB2.out hK hq hr)
              clear hQ hK hjM
              go_wp2_with fail
              refine (c25e HQ.out).mono ?_
              rintro e w3 ⟨rfl, hb3⟩
              have HB3 := hidd (Bl_then HB.out hb3)
              clear hb3
              unfold Pk.val Pk.zero
              go_wp2_with (go_at_call 19; refine (c19 _).mono ?_; rintro e w4 ⟨rfl, hb4⟩)
              go_ret
              exact ⟨rfl, Bl_then (Bl_alloc HB3.out _) hb4⟩
    · go_enter Try.func6, Try.ntmps6
      go_wp2_with fail
      refine (c18g n _ (by omega) (by omega)).mono ?_
      rintro e w1 ⟨q, r, rfl, hQ1, hq, hr, hB1⟩
      have HB1 := hidd hB1
      clear hQ1 hB1
      go_wp2_with (go_at_call 19; refine (c19 _).mono ?_; rintro e w4 ⟨rfl, hb4⟩)
      go_ret
      exact ⟨rfl, Bl_then HB1.out hb4⟩
end Go.Proofs.Ytnlcibobhmcfpaa
