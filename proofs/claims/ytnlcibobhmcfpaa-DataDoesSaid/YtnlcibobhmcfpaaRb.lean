/- The walk of the statement QueueClears. -/
import Derived.Test.YtnlcibobhmcfpaaRa
set_option linter.unusedSimpArgs false
namespace Go.Proofs.Ytnlcibobhmcfpaa
open Go.RowKit
theorem num_right (i : Nat) (h : i ≤ 64) : Pk.right ⟨0, 0, 0, i, ⟨#[]⟩⟩ = true := by
  have e : (ByteArray.size ⟨#[]⟩) = 0 := rfl
  simp only [Pk.right, rightB, nodeB, e, Bool.and_eq_true, decide_eq_true_eq]
  omega
set_option maxRecDepth 100000 in
set_option maxHeartbeats 2000000 in
theorem c7 (m : Int) (v : Value) (L : List Pk) (dst : Int) (w : World) (hv : RdPk w v L) :
    Calls Try.prog 7 #[.int .i64 m, v, .int .i64 dst] w fun e w' => e = .returned (.bool true) ∧ Below w.heap.size w w' := by
  obtain ⟨A, c, rfl, hrd⟩ := hv
  have HR := hidd hrd
  clear hrd
  by_cases hm1 : m < 1 ∨ 64 < m
  · go_enter Try.func7, Try.ntmps7
    go_wp2_with (first
      | (go_at_call 18; refine (c18b m _ hm1).mono ?_; rintro e w' ⟨rfl, rfl⟩)
      | (go_at_call 19; refine (c19 _).mono ?_; rintro e w' ⟨rfl, hb⟩))
    go_ret
    exact ⟨rfl, hb⟩
  · obtain ⟨n, rfl⟩ : ∃ n : Nat, m = n := ⟨m.toNat, by omega⟩
    by_cases hl : L.length ≤ 100
    · go_enter Try.func7, Try.ntmps7
      go_wp2_with fail
      refine (c18g n _ (by omega) (by omega)).mono ?_
      rintro e w1 ⟨q, r, rfl, hQ1, hq, hr, hB1⟩
      have HQ1 := hidd hQ1
      have HB1 := hidd hB1
      obtain ⟨l1, l2⟩ := hQ1.lt
      clear hQ1 hB1
      go_wp2
      go_loopw [9] (fun i wr => ∃ k : Nat, k ≤ L.length ∧ i = .int .i64 k ∧ (∃ R M, QAt wr q r n 0 R M) ∧ Below w.heap.size w wr) (fun i _ => L.length - (intOf i).toNat)
      case atStart => exact ⟨0, Nat.zero_le _, rfl, ⟨_, _, HQ1.out⟩, HB1.out⟩
      case round =>
        obtain ⟨k, hk, rfl, ⟨R, M, hQ⟩, hb⟩ := hrel
        by_cases hlt : k < L.length
        · obtain ⟨p, hp⟩ : ∃ p, L[k]? = some p := ⟨_, List.getElem?_eq_getElem hlt⟩
          obtain ⟨b, o, rfl, hbl, hcells⟩ : ∃ b o, A = some ⟨b, o, none⟩ ∧ b < w.heap.size ∧ ∀ k p, L[k]? = some p → PkHere w b (o + k * 5) p := by
            rcases HR.out with h0 | h0
            · rw [h0] at hlt; exact absurd hlt (by simp)
            · exact h0
          obtain ⟨c0, c1, c2, c3, c4⟩ := (hcells k p hp).keeps (Keeps.below (S := fun _ => False) hb) hbl (fun x => x)
          have HQ := hidd hQ
          have HB := hidd hb
          clear hcells hp hQ hb
          by_cases hx : (p.x.size : Int) ≤ 600
          · go_wp2_with (go_at_call 20; refine (c20a HQ.out p).mono ?_; rintro e w2 ⟨rfl, ⟨R2, hQ2⟩, hK2⟩; have HQ2 := hidd hQ2; have HK2 := hidd hK2; clear hQ2 hK2)
            go_roundw
            case rel => exact ⟨k + 1, by omega, by go_num, ⟨_, _, HQ2.out⟩, Bl_keeps HB.out HK2.out hq hr⟩
            case measure => simp [intOf]; omega
          · go_wp2
            go_ret
            exact ⟨rfl, HB.out⟩
        · have hML := hQ.hL
          have hn64 := hQ.n64
          have hcs := cnt_split M dst
          have hc0 := cntB_others M dst
          have hoo : others (others M dst) dst = others M dst := by unfold others; rw [List.filter_filter]; simp
          have HOO := hidd hoo
          have HC0 := hidd hc0
          have HCS := hidd hcs
          have hcle := cntB_le M dst
          have HQ := hidd hQ
          have HB := hidd hb
          clear hQ hb hcs hc0 hoo
          have hd0 : (((M.length : Int) - (cntB M dst : Nat))) = ((others M dst).length : Int) := by have := HCS.out; omega
          have HD := hidd hd0
          clear hd0
          go_wp2_with fail
          refine (c22 HQ.out).mono ?_
          rintro e w2 ⟨v2, rfl, hown, hb2⟩
          obtain ⟨A2, c2, rfl, _⟩ := hown.rd
          have HQ2 := hidd (HQ.out.below hb2)
          have HB2 := hidd (Bl_thenM HB.out hb2)
          clear hown hb2 HQ HB
          go_wp2_with fail
          refine (c21 HQ2.out dst).mono ?_
          rintro e w3 ⟨rfl, hb3⟩
          have HQ3 := hidd (HQ2.out.below hb3)
          have HB3 := hidd (Bl_thenM HB2.out hb3)
          clear hb3 HQ2 HB2
          go_wp2_with fail
          refine (c26 HQ3.out dst).mono ?_
          rintro e w4 ⟨rfl, ⟨f4, R4, hQ4⟩, hK4⟩
          have HQ4 := hidd hQ4
          have HB4 := hidd (Bl_keeps HB3.out hK4 hq hr)
          clear hQ4 hK4 HQ3 HB3
          go_wp2_with fail
          refine (c21 HQ4.out dst).mono ?_
          rw [HC0.out]
          rintro e w5 ⟨rfl, hb5⟩
          have HQ5 := hidd (HQ4.out.below hb5)
          have HB5 := hidd (Bl_thenM HB4.out hb5)
          clear hb5 HQ4 HB4
          go_wp2_with fail
          refine (c26 HQ5.out dst).mono ?_
          rw [HC0.out, HOO.out]
          rintro e w6 ⟨rfl, ⟨f6, R6, hQ6⟩, hK6⟩
          have HQ6 := hidd hQ6
          have HB6 := hidd (Bl_keeps HB5.out hK6 hq hr)
          clear hQ6 hK6 HQ5 HB5
          go_wp2_with fail
          refine (c22 HQ6.out).mono ?_
          rintro e w7 ⟨v7, rfl, hown, hb7⟩
          obtain ⟨A7, c7, rfl, _⟩ := hown.rd
          have HQ7 := hidd (HQ6.out.below hb7)
          have HB7 := hidd (Bl_thenM HB6.out hb7)
          clear hown hb7 HQ6 HB6
          have hdd : (((others M dst).length : Int) != (M.length : Int) - (cntB M dst : Nat)) = false := by rw [HD.out]; simp
          go_wp2_with fail
          go_loopw [12] (fun i wx => ∃ (cc f : Nat) (R K : List Pk), i = .int .i64 cc ∧ K.length = cc ∧ cc ≤ n ∧ QAt wx q r n f R K ∧ Below w.heap.size w wx) (fun i _ => n - (intOf i).toNat)
          case atStart => exact ⟨_, f6, R6, others M dst, by rw [HD.out], rfl, by have := HCS.out; omega, HQ7.out, HB7.out⟩
          case round =>
            obtain ⟨cc, f, R', K, rfl, hcc, hcn, hQ, hb⟩ := hrel
            have HQ := hidd hQ
            have HB := hidd hb
            have HCC := hidd hcc
            clear hQ hb hcc
            by_cases hlt : cc < n
            · have HP : Hid (putE n K ⟨0, 0, 0, cc, ⟨#[]⟩⟩ = 0 ∧ putL n K ⟨0, 0, 0, cc, ⟨#[]⟩⟩ = K ++ [⟨0, 0, 0, cc, ⟨#[]⟩⟩]) := hidd (by
                have h1 := num_right cc (by omega)
                have h2 : (K.length == n) = false := by rw [HCC.out]; simp; omega
                unfold putE putL
                rw [h1, h2]
                exact ⟨rfl, rfl⟩)
              go_wp2_with (go_at_call 20; refine (c20a HQ.out ⟨0, 0, 0, cc, ⟨#[]⟩⟩).mono ?_; rw [HP.out.1, HP.out.2]; rintro e w8 ⟨rfl, ⟨R8, hQ8⟩, hK8⟩; have HQ8 := hidd hQ8; have HK8 := hidd hK8; clear hQ8 hK8)
              go_roundw
              case rel => exact ⟨cc + 1, f, R8, _, by go_num, by rw [List.length_append, HCC.out]; rfl, by omega, HQ8.out, Bl_keeps HB.out HK8.out hq hr⟩
              case measure => simp [intOf]; omega
            · have HN : Hid (K.length = n) := hidd (by have := HCC.out; omega)
              have hne : cc = n := by omega
              have HNE := hidd hne
              clear hne
              go_wp2_with fail
              refine (c19 _).mono ?_
              rintro e w8 ⟨rfl, hb8⟩
              have HQ8 := hidd (HQ.out.below hb8)
              have HB8 := hidd (Bl_thenM HB.out hb8)
              clear hb8 HQ HB
              go_wp2_with fail
              refine (c20f HQ8.out ⟨0, 0, 0, 0, ⟨#[]⟩⟩ (num_right 0 (by omega)) HN.out).mono ?_
              rintro e w9 ⟨rfl, hb9⟩
              have HQ9 := hidd (HQ8.out.below hb9)
              have HB9 := hidd (Bl_thenM HB8.out hb9)
              clear hb9 HQ8 HB8
              go_wp2_with fail
              refine (c22 HQ9.out).mono ?_
              rintro e w10 ⟨v10, rfl, hown, hb10⟩
              obtain ⟨A10, c10, rfl, _⟩ := hown.rd
              have HB10 := hidd (Bl_thenM HB9.out hb10)
              rw [HN.out]
              clear hown hb10 HQ9 HB9
              go_wp2
              go_ret
              exact ⟨by simp, HB10.out⟩
    · go_enter Try.func7, Try.ntmps7
      go_wp2_with fail
      refine (c18g n _ (by omega) (by omega)).mono ?_
      rintro e w1 ⟨q, r, rfl, hQ1, hq, hr, hB1⟩
      have HB1 := hidd hB1
      clear hQ1 hB1
      go_wp2_with (go_at_call 19; refine (c19 _).mono ?_; rintro e w4 ⟨rfl, hb4⟩)
      go_ret
      exact ⟨rfl, Bl_then HB1.out hb4⟩
end Go.Proofs.Ytnlcibobhmcfpaa
