/- The walk of the statement SerialSorts. -/
import Derived.Test.YtidndkddjdfccaaG
import Derived.Test.YtidndkddjdfccaaP
import Derived.Test.YtidndkddjdfccaaO
import Derived.Deep.RegionHeld3
import Derived.Deep.DrawnRows
set_option linter.unusedSimpArgs false
set_option linter.unusedVariables false
namespace Go.Proofs.Ytidndkddjdfccaa
open Go.RowKit Go.Sort Go.Shelf Go.Lib
attribute [local go_sem ↓] Go.wp_at_zero Go.wp_at_succ
theorem drew_cell {w : World} {p : Addr} {v : Value} (h : w.cell? p = some v) : w.drew.cell? p = some v := h
theorem Bl_drew {B : Nat} {W w2 : World} (h : Below B W.drew w2) : Below B W w2 := ⟨h.os, h.tape, h.output, h.size, h.block⟩
def hitB (S : List Int) (l : Int) (j : Nat) : Bool := (S.take j).any fun s => decide (farI s l = 0)
theorem hit_succ {S : List Int} {l p : Int} {j : Nat} (h : S[j]? = some p) : hitB S l (j + 1) = (hitB S l j || decide (farI p l = 0)) := by
  unfold hitB
  rw [take_snoc' h, List.any_append]
  simp
theorem hit_all {S : List Int} {l : Int} (h : lf l ∈ S) : hitB S l S.length = true := by
  unfold hitB
  rw [List.take_length, List.any_eq_true]
  refine ⟨lf l, h, ?_⟩
  have : farI (lf l) l = 0 := by unfold farI lf; omega
  simp [this]
set_option maxRecDepth 100000 in
set_option maxHeartbeats 4000000 in
theorem c3 {w : World} {v : Value} {L : List Int} (first : Int) (h : RdN .i64 w v L) :
    Calls Try.prog 3 #[v, .int .i64 first] w fun e w' => e = .returned (.bool true) ∧ Below w.heap.size w w' := by
  have HV := hidd h
  obtain ⟨A, c, rfl, hrd⟩ := h
  have HR := hidd hrd
  clear hrd
  by_cases hlen : 100 < L.length
  · go_enter Try.func3, Try.ntmps3
    go_wp2
    go_ret
    exact ⟨rfl, Below.refl _ _⟩
  · have hL : ¬ (100 : Int) < L.length := by omega
    go_enter Try.func3, Try.ntmps3
    go_wp2_with fail
    refine (c8 first HV.out (by omega)).mono ?_
    rintro e w1 ⟨v5, rfl, ho, hb⟩
    obtain ⟨S, hS⟩ : ∃ S, sortI first L = S := ⟨_, rfl⟩
    have hasc := (sortI_law first L).1
    have hmem := (sortI_law first L).2
    have hsm : ∀ x ∈ S, 0 ≤ x ∧ x < 65536 := fun x hx => sortI_range (by rw [hS]; exact hx)
    have hag := sortI_again first L
    have hsl := sortI_length first L
    rw [hS] at ho hasc hmem hag hsl
    clear hS
    have HO := hidd ho
    obtain ⟨A5, c5, rfl, hr5⟩ := ho.rd
    have HR5 := hidd hr5
    have HB1 := hidd hb
    have HA := hidd hasc
    have HM := hidd hmem
    have HS := hidd hsm
    have HG := hidd hag
    have hz1 := hb.size
    clear ho hr5 hb hasc hmem hsm hag
    go_wp2
    go_loopw [6] (fun i wr => ∃ k : Nat, k ≤ S.length ∧ i = .int .i64 k ∧ Below w1.heap.size w1 wr) (fun i _ => S.length - (intOf i).toNat)
    case atStart => exact ⟨0, Nat.zero_le _, rfl, Below.refl _ _⟩
    case round =>
      obtain ⟨k, hk, rfl, hb⟩ := hrel
      by_cases hlt : k < S.length
      · obtain ⟨p, hp⟩ : ∃ p, S[k]? = some p := ⟨_, List.getElem?_eq_getElem hlt⟩
        obtain ⟨g, o, rfl, hgl, hcells⟩ : ∃ b o, A5 = some ⟨b, o, none⟩ ∧ b < w1.heap.size ∧ ∀ k x, S[k]? = some x → w1.cell? ⟨b, o + k, none⟩ = some (.int .i64 x) := by
          rcases HR5.out with h0 | h0
          · rw [h0] at hlt; exact absurd hlt (by simp)
          · exact h0
        have hzr := hb.size
        have gl : g < wr.heap.size := by omega
        have d1 : wr.cell? ⟨g, o + k, none⟩ = some (.int .i64 p) := (hb.cell (p := ⟨g, o + k, none⟩) hgl).trans (hcells k p hp)
        obtain ⟨q0, q1⟩ := HS.out p (List.mem_of_getElem? hp)
        have r0 : decide (p < 0) = false := by simp; omega
        have r1 : decide (65535 < p) = false := by simp; omega
        have i0 : (0 : Int) ≤ k := by omega
        have i1 : (k : Int) < S.length := by omega
        have HB := hidd hb
        clear hb
        by_cases hk0 : k = 0
        · have hkz : decide (0 < k) = false := by simp; omega
          have HK := hidd hk0
          clear hcells hp hk0
          go_wp2_with fail
          go_quiet (fail)
          go_wp2
          go_roundw
          case rel => exact ⟨k + 1, by omega, by go_num, HB.out.drewN _⟩
          case measure => first | (simp [intOf]; done) | (simp [intOf]; omega)
        · obtain ⟨q, hq⟩ : ∃ q : Nat, k = q + 1 := ⟨k - 1, by omega⟩
          obtain ⟨p', hp'⟩ : ∃ p', S[q]? = some p' := ⟨_, List.getElem?_eq_getElem (by omega)⟩
          have d2 : wr.cell? ⟨g, o + q, none⟩ = some (.int .i64 p') := (HB.out.cell (p := ⟨g, o + q, none⟩) hgl).trans (hcells q p' hp')
          have hfar : farI first p' < farI first p := by
            have := List.pairwise_iff_getElem.1 HA.out q k (by omega) hlt (by omega)
            rwa [(List.getElem?_eq_some_iff.1 hp).2, (List.getElem?_eq_some_iff.1 hp').2] at this
          have h9 := fun w => c9 first p w
          have h9' := fun w => c9 first p' w
          generalize farI first p = fp at h9 hfar
          generalize farI first p' = fp' at h9' hfar
          have hnf : decide (fp ≤ fp') = false := by simp; omega
          have H9 := hidd h9
          have H9' := hidd h9'
          have j0 : decide (0 < k) = true := by simp; omega
          have j1 : (0 : Int) ≤ (q : Int) := by omega
          have j2 : (q : Int) < S.length := by omega
          have j3 : IntKind.i64.wrap ((k : Int) - 1) = q := by rw [show ((k : Int) - 1) = q by omega]; exact IntWalk.i64_in _ (by omega)
          have HKQ := hidd hq
          clear hcells hp hp' h9 h9' hfar hq
          go_wp2_with fail
          go_region_held3 (fun w' => w'.cell? ⟨g, o + k, none⟩ = some (.int .i64 p) ∧ w'.cell? ⟨g, o + q, none⟩ = some (.int .i64 p')) (refine ⟨?_, ?_⟩ <;> (repeat (first | with_reducible assumption | (with_reducible refine drew_cell ?_))))
            (first
              | (go_at_call_of 9 (Value.int .i64 p'); refine (H9'.out _).mono ?_; rintro e w2 ⟨rfl, hb2⟩; (have t1 : w2.cell? ⟨g, o + k, none⟩ = some (.int .i64 p) := (hb2.cell (p := ⟨g, o + k, none⟩) (by first | exact gl | (simp; omega))).trans d1); (have t2 : w2.cell? ⟨g, o + q, none⟩ = some (.int .i64 p') := (hb2.cell (p := ⟨g, o + q, none⟩) (by first | exact gl | (simp; omega))).trans d2); (have HB2 := hidd (Bl_then (w := wr) (Bl_drew (Below.refl _ _)) hb2)); (have gl2 : g < w2.heap.size := by have := HB2.out.size; omega); clear hb2)
              | (go_at_call_of 9 (Value.int .i64 p); refine (H9.out _).mono ?_; rintro e w3 ⟨rfl, hb3⟩; (have t3 : w3.cell? ⟨g, o + k, none⟩ = some (.int .i64 p) := (hb3.cell (p := ⟨g, o + k, none⟩) gl2).trans t1); (have t4 : w3.cell? ⟨g, o + q, none⟩ = some (.int .i64 p') := (hb3.cell (p := ⟨g, o + q, none⟩) gl2).trans t2); (have HB3 := hidd hb3); clear hb3))
          go_wp2
          go_roundw
          case rel => exact ⟨k + 1, by omega, by go_num, (HB.out.trans (HB2.out.mono HB.out.size)).trans (HB3.out.mono (HB.out.trans (HB2.out.mono HB.out.size)).size)⟩
          case measure => first | (simp [intOf]; done) | (simp [intOf]; omega)
      · have HB := hidd hb
        clear hb
        obtain ⟨wm, rfl⟩ : ∃ wm : World, wm = wr := ⟨_, rfl⟩
        go_wp2
        go_loopw [7, 8, 9] (fun i _ _ wr => ∃ k : Nat, k ≤ L.length ∧ i = .int .i64 k ∧ Below w1.heap.size w1 wr) (fun i _ _ _ => L.length - (intOf i).toNat)
        case atStart => exact ⟨0, Nat.zero_le _, rfl, HB.out⟩
        case round =>
          obtain ⟨i, hi, rfl, hb⟩ := hrel
          obtain ⟨wo, rfl⟩ : ∃ wo : World, wo = wr := ⟨_, rfl⟩
          by_cases hlt2 : i < L.length
          · obtain ⟨l, hl⟩ : ∃ l, L[i]? = some l := ⟨_, List.getElem?_eq_getElem hlt2⟩
            obtain ⟨gl, ol, rfl, hbl, hcl⟩ : ∃ b o, A = some ⟨b, o, none⟩ ∧ b < w.heap.size ∧ ∀ k x, L[k]? = some x → w.cell? ⟨b, o + k, none⟩ = some (.int .i64 x) := by
              rcases HR.out with h0 | h0
              · rw [h0] at hlt2; exact absurd hlt2 (by simp)
              · exact h0
            have hll : gl < w1.heap.size := by omega
            have e1 : w1.cell? ⟨gl, ol + i, none⟩ = some (.int .i64 l) := (HB1.out.cell (p := ⟨gl, ol + i, none⟩) hbl).trans (hcl i l hl)
            have HIN := hidd (hit_all (S := S) (l := l) ((HM.out (lf l)).2 ⟨l, List.mem_of_getElem? hl, rfl⟩))
            have HBo := hidd hb
            have i0 : (0 : Int) ≤ i := by omega
            have i1 : (i : Int) < L.length := by omega
            clear hb hl hcl
            go_wp2
            go_loopw [8, 9] (fun b j wr => ∃ (jj : Nat) (bb : Bool), jj ≤ S.length ∧ j = .int .i64 jj ∧ b = .bool bb ∧ bb = hitB S l jj ∧ Below w1.heap.size w1 wr) (fun _ j _ => S.length - (intOf j).toNat)
            case atStart => exact ⟨0, false, Nat.zero_le _, rfl, rfl, rfl, HBo.out⟩
            case round =>
              obtain ⟨j, bb, hj, rfl, rfl, hbb, hb⟩ := hrel
              by_cases hlt3 : j < S.length
              · obtain ⟨p, hp⟩ : ∃ p, S[j]? = some p := ⟨_, List.getElem?_eq_getElem hlt3⟩
                obtain ⟨g, o, rfl, hgl, hcells⟩ : ∃ b o, A5 = some ⟨b, o, none⟩ ∧ b < w1.heap.size ∧ ∀ k x, S[k]? = some x → w1.cell? ⟨b, o + k, none⟩ = some (.int .i64 x) := by
                  rcases HR5.out with h0 | h0
                  · rw [h0] at hlt3; exact absurd hlt3 (by simp)
                  · exact h0
                have hzr := hb.size
                have d1 : wr.cell? ⟨g, o + j, none⟩ = some (.int .i64 p) := (hb.cell (p := ⟨g, o + j, none⟩) hgl).trans (hcells j p hp)
                have d2 : wr.cell? ⟨gl, ol + i, none⟩ = some (.int .i64 l) := (hb.cell (p := ⟨gl, ol + i, none⟩) hll).trans e1
                have j0 : (0 : Int) ≤ j := by omega
                have j1 : (j : Int) < S.length := by omega
                have hst := hit_succ (l := l) hp
                rw [← hbb] at hst
                have HST := hidd hst
                have HBr := hidd hb
                clear hb hbb hst hp hcells
                cases bb with
                | true =>
                  go_wp2_with fail
                  go_quiet (fail)
                  go_wp2
                  go_roundw
                  case rel => exact ⟨j + 1, true, by omega, by go_num, rfl, by rw [HST.out]; rfl, HBr.out.drewN _⟩
                  case measure => first | (simp [intOf]; done) | (simp [intOf]; omega)
                | false =>
                  have h9 := fun w => c9 p l w
                  have he : decide (farI p l = 0) = (farI p l == 0) := by rw [Bool.eq_iff_iff]; simp
                  rw [Bool.false_or, he] at HST
                  clear he
                  generalize farI p l = f at h9 HST
                  have H9 := hidd h9
                  clear h9
                  have gl1 : g < wr.heap.size := by omega
                  have gl2 : gl < wr.heap.size := by omega
                  go_wp2_with fail
                  go_region_held3 (fun w' => w'.cell? ⟨g, o + j, none⟩ = some (.int .i64 p) ∧ w'.cell? ⟨gl, ol + i, none⟩ = some (.int .i64 l)) (refine ⟨?_, ?_⟩ <;> (repeat (first | with_reducible assumption | (with_reducible refine drew_cell ?_))))
                    (first | (go_at_call 9; refine (H9.out _).mono ?_; rintro e w2 ⟨rfl, hb2⟩; (have t1 : w2.cell? ⟨g, o + j, none⟩ = some (.int .i64 p) := (hb2.cell (p := ⟨g, o + j, none⟩) (by first | exact gl1 | (simp; omega))).trans d1); (have t2 : w2.cell? ⟨gl, ol + i, none⟩ = some (.int .i64 l) := (hb2.cell (p := ⟨gl, ol + i, none⟩) (by first | exact gl2 | (simp; omega))).trans d2); (have HB2 := hidd (Bl_then (w := wr) (Bl_drew (Below.refl _ _)) hb2)); clear hb2))
                  go_wp2
                  go_roundw
                  case rel => exact ⟨j + 1, _, by omega, by go_num, rfl, HST.out.symm, HBr.out.trans (HB2.out.mono HBr.out.size)⟩
                  case measure => first | (simp [intOf]; done) | (simp [intOf]; omega)
              · obtain rfl : j = S.length := by omega
                rw [HIN.out] at hbb
                subst hbb
                have HBr := hidd hb
                clear hb
                go_wp2
                go_roundw
                case rel => exact ⟨i + 1, by omega, by go_num, HBr.out⟩
                case measure => first | (simp [intOf]; done) | (simp [intOf]; omega)
          · have HBo := hidd hb
            clear hb
            have hle2 : ¬ L.length < S.length := by omega
            go_wp2_with fail
            refine (c10 _).mono ?_
            rintro e w3 ⟨rfl, hb3⟩
            have HB3 := hidd (Bl_then (w := w1) HBo.out hb3)
            clear hb3
            go_wp2_with fail
            refine (c8 first (L := S) (HO.out.below HB3.out).rd (by omega)).mono ?_
            rintro e w4 ⟨v4, rfl, ho4, hb4⟩
            rw [HG.out] at ho4
            have HO4 := hidd ho4
            have HB4 := hidd (Bl_then HB3.out hb4)
            clear ho4 hb4
            go_wp2_with fail
            refine (c11 HO4.out.rd (HO.out.below HB4.out).rd (by omega) rfl).mono ?_
            rintro e w5 ⟨rfl, nq, rfl⟩
            go_wp2
            go_ret
            exact ⟨rfl, (Bl_then HB1.out HB4.out).drewN _⟩
theorem law3 (v : Value) (L : List Int) (first : Int) (w : World) (h : RdN .i64 w v L) :
    Calls Try.prog 3 #[v, .int .i64 first] w fun e w' => e = .returned (.bool true) ∧ Below w.heap.size w w' := c3 first h
end Go.Proofs.Ytidndkddjdfccaa
