import Derived.Test.YtnlcibobhmcfpaaSe
import Derived.Test.YtnlcibobhmcfpaaRc
import Derived.Deep.RegionHeld3
set_option linter.unusedSimpArgs false
namespace Go.Proofs.Ytnlcibobhmcfpaa
open Go.RowKit
/-- The two queues side by side. -/
def Both (w0 w : World) (q r n y : Nat) (M N : List Pk) : Prop := (∃ f R, QAt w q r n f R M) ∧ (∃ v, RQ w y (y + 1) n v N) ∧ Below w0.heap.size w0 w
theorem Both.below {w0 w w' : World} {q r n y : Nat} {M N : List Pk} (h : Both w0 w q r n y M N) (hb : Below w.heap.size w w') (h0 : w0.heap.size ≤ w.heap.size) : Both w0 w' q r n y M N := by
  obtain ⟨⟨f, R, hQ⟩, ⟨v, hR⟩, hB⟩ := h
  exact ⟨⟨f, R, hQ.below hb⟩, ⟨v, hR.below hb⟩, hB.trans (hb.mono h0)⟩
theorem Bl_keepsR {y B n : Nat} {v : Value} {L : List Pk} {w w0 w1 w2 : World} (h : Below w.heap.size w w1) (k : Keeps (InR y v) w1 w2) (hr : RQ w0 y B n v L) (hy : w.heap.size ≤ y) : Below w.heap.size w w2 :=
  h.trans (k.toBelow h.size (fun g hg => by
    rcases hg with hg | hg
    · omega
    · have := hr.ho.base hg
      have := hr.lt
      omega))
set_option maxRecDepth 100000 in
set_option maxHeartbeats 4000000 in
theorem c8 (m : Int) (v : Value) (L : List (List Value)) (w : World) (hv : RdEl w 7 v L) (hg : ∀ p ∈ L, GoodOp p) :
    Calls Try.prog 8 #[.int .i64 m, v] w fun e w' => e = .returned (.bool true) ∧ Below w.heap.size w w' := by
  have HV := hidd hv
  obtain ⟨A, c, rfl, hrd⟩ := hv
  have HR := hidd hrd
  have HG := hidd hg
  clear hrd hg
  go_enter Try.func8, Try.ntmps8
  go_wp2_with fail
  refine (c27 HV.out HG.out).mono ?_
  rintro e w' ⟨b, rfl, rfl, hb⟩
  cases b with
  | false =>
    go_wp2
    go_ret
    exact ⟨rfl, Below.refl _ _⟩
  | true =>
    have hl : L.length ≤ 150 := hb rfl
    clear hb HV
    by_cases hm1 : m < 1 ∨ 64 < m
    · go_wp2_with (first
        | (go_at_call 18; refine (c18b m _ hm1).mono ?_; rintro e w' ⟨rfl, rfl⟩)
        | (go_at_call 19; refine (c19 _).mono ?_; rintro e w' ⟨rfl, hb⟩))
      all_goals (go_wp2; go_ret; exact ⟨rfl, hb⟩)
    · obtain ⟨n, rfl⟩ : ∃ n : Nat, m = n := ⟨m.toNat, by omega⟩
      go_wp2_with fail
      refine (c18g n _ (by omega) (by omega)).mono ?_
      rintro e w1 ⟨q, r, rfl, hQ1, hq, hr, hB1⟩
      have HQ1 := hidd hQ1
      have HB1 := hidd hB1
      obtain ⟨l1, l2⟩ := hQ1.lt
      have hn64 := hQ1.n64
      have hz1 := hB1.size
      clear hQ1 hB1
      go_wp2
      obtain ⟨y, hy⟩ : ∃ y, w1.heap.size = y := ⟨_, rfl⟩
      rw [hy]
      go_loopw [8] (fun i wr => ∃ k : Nat, k ≤ L.length ∧ i = .int .i64 k ∧ ∃ M, Both w wr q r n y M M) (fun i _ => L.length - (intOf i).toNat)
      case atStart =>
        refine ⟨0, Nat.zero_le _, rfl, [], ⟨_, _, HQ1.out.below (Bl_alloc (Below.refl _ _) _)⟩, ⟨_, ⟨?_, OwnPk.nil _ _, Nat.lt_succ_self _, ?_⟩⟩, Bl_alloc HB1.out _⟩
        · subst hy; exact heap_new _ _
        · simp [← hy]
      case round =>
        obtain ⟨k, hk, rfl, M, hBo⟩ := hrel
        by_cases hlt : k < L.length
        · obtain ⟨cs, hp⟩ : ∃ cs, L[k]? = some cs := ⟨_, List.getElem?_eq_getElem hlt⟩
          obtain ⟨cc, p, d, rfl⟩ := HG.out cs (List.mem_of_getElem? hp)
          obtain ⟨b, o, rfl, hbl, hcells⟩ : ∃ b o, A = some ⟨b, o, none⟩ ∧ b < w.heap.size ∧ ∀ k cs, L[k]? = some cs → ∀ j u, cs[j]? = some u → w.cell? ⟨b, o + k * 7 + j, none⟩ = some u := by
            rcases HR.out with h0 | h0
            · rw [h0] at hlt; exact absurd hlt (by simp)
            · exact h0
          obtain ⟨⟨f, R, hQ⟩, ⟨v2, hRQ⟩, hB⟩ := hBo
          have e0 : wr.cell? ⟨b, o + k * 7, none⟩ = some (.int .i64 cc) := (hB.cell (p := ⟨b, o + k * 7, none⟩) hbl).trans (hcells k _ hp 0 _ rfl)
          have e1 : wr.cell? ⟨b, o + k * 7 + 1, none⟩ = some (.int .i64 p.s) := (hB.cell (p := ⟨b, o + k * 7 + 1, none⟩) hbl).trans (hcells k _ hp 1 _ rfl)
          have e2 : wr.cell? ⟨b, o + k * 7 + 2, none⟩ = some (.int .i64 p.d) := (hB.cell (p := ⟨b, o + k * 7 + 2, none⟩) hbl).trans (hcells k _ hp 2 _ rfl)
          have e3 : wr.cell? ⟨b, o + k * 7 + 3, none⟩ = some (.int .i64 p.t) := (hB.cell (p := ⟨b, o + k * 7 + 3, none⟩) hbl).trans (hcells k _ hp 3 _ rfl)
          have e4 : wr.cell? ⟨b, o + k * 7 + 4, none⟩ = some (.int .i64 p.n) := (hB.cell (p := ⟨b, o + k * 7 + 4, none⟩) hbl).trans (hcells k _ hp 4 _ rfl)
          have e5 : wr.cell? ⟨b, o + k * 7 + 5, none⟩ = some (.string p.x) := (hB.cell (p := ⟨b, o + k * 7 + 5, none⟩) hbl).trans (hcells k _ hp 5 _ rfl)
          have e6 : wr.cell? ⟨b, o + k * 7 + 6, none⟩ = some (.int .i64 d) := (hB.cell (p := ⟨b, o + k * 7 + 6, none⟩) hbl).trans (hcells k _ hp 6 _ rfl)
          have HQ := hidd hQ
          have HRQ := hidd hRQ
          have HB := hidd hB
          obtain ⟨p0, p1⟩ := hQ.lt
          have p2 := hRQ.y_lt
          have HML : Hid (M.length ≤ 64) := hidd (by have := hQ.hL; omega)
          clear hcells hp hQ hRQ hB
          by_cases hc0 : cc = 0
          · subst hc0
            go_wp2_with fail
            go_region_held3 (fun w' => w'.cell? ⟨wr.heap.size, 1, none⟩ = some (.int .i64 p.s) ∧ w'.cell? ⟨wr.heap.size, 2, none⟩ = some (.int .i64 p.d) ∧ w'.cell? ⟨wr.heap.size, 3, none⟩ = some (.int .i64 p.t) ∧ w'.cell? ⟨wr.heap.size, 4, none⟩ = some (.int .i64 p.n) ∧ w'.cell? ⟨wr.heap.size, 5, none⟩ = some (.string p.x)) (first | go_keep | (refine ⟨?_, ?_, ?_, ?_, ?_⟩ <;> assumption))
              (first
                | (go_at_call 20; refine (c20a (HQ.out.below (by repeat (first | exact Below.refl _ _ | refine Bl_alloc ?_ _ | refine Below.drewN ?_ _ | refine Below.drew ?_))) p).mono ?_; rintro e w2 ⟨rfl, hQ2, hK2⟩; (have HQ2 := hidd hQ2); (have HK2 := hidd (hK2.of_below (a := wr) (by repeat (first | exact Below.refl _ _ | refine Bl_alloc ?_ _ | refine Below.drewN ?_ _ | refine Below.drew ?_)))); (have HT := hidd (hK2.heapAt (heap_new wr _) (by rintro (h | h) <;> omega))); (have t1 : w2.cell? ⟨wr.heap.size, 1, none⟩ = some (.int .i64 p.s) := cell_of_heap HT.out 1); (have t2 : w2.cell? ⟨wr.heap.size, 2, none⟩ = some (.int .i64 p.d) := cell_of_heap HT.out 2); (have t3 : w2.cell? ⟨wr.heap.size, 3, none⟩ = some (.int .i64 p.t) := cell_of_heap HT.out 3); (have t4 : w2.cell? ⟨wr.heap.size, 4, none⟩ = some (.int .i64 p.n) := cell_of_heap HT.out 4); (have t5 : w2.cell? ⟨wr.heap.size, 5, none⟩ = some (.string p.x) := cell_of_heap HT.out 5); clear hQ2 hK2)
                | (go_at_call 28; refine (c28a (HRQ.out.keeps HK2.out (by rintro (h | h) <;> omega) (fun g hg => by have := HRQ.out.ho.base hg; rintro (h | h) <;> omega)) p HQ.out.hL hn64).mono ?_; rintro e w3 ⟨rfl, hR3, hK3⟩; (have HR3 := hidd hR3); (have HK3 := hidd hK3); (have HT3 := hidd (hK3.heapAt HT.out (by rintro (h | h); omega; have := HRQ.out.ho.lt h; omega))); (have s1 : w3.cell? ⟨wr.heap.size, 1, none⟩ = some (.int .i64 p.s) := cell_of_heap HT3.out 1); (have s2 : w3.cell? ⟨wr.heap.size, 2, none⟩ = some (.int .i64 p.d) := cell_of_heap HT3.out 2); (have s3 : w3.cell? ⟨wr.heap.size, 3, none⟩ = some (.int .i64 p.t) := cell_of_heap HT3.out 3); (have s4 : w3.cell? ⟨wr.heap.size, 4, none⟩ = some (.int .i64 p.n) := cell_of_heap HT3.out 4); (have s5 : w3.cell? ⟨wr.heap.size, 5, none⟩ = some (.string p.x) := cell_of_heap HT3.out 5); clear hR3 hK3))
            obtain ⟨R2, hq2⟩ := HQ2.out
            obtain ⟨v3, hr3⟩ := HR3.out
            have hq5 : ∃ f R, QAt w3 q r n f R (putL n M p) := ⟨f, R2, hq2.keeps HK3.out (by rintro (h | h); omega; have := HRQ.out.ho.base h; omega) (by rintro (h | h); omega; have := HRQ.out.ho.base h; omega)⟩
            have hr5 : ∃ v, RQ w3 y (y + 1) n v (putL n M p) := ⟨v3, hr3⟩
            have hb5 : Below w.heap.size w w3 := Bl_keepsR (Bl_keeps HB.out HK2.out hq hr) HK3.out HRQ.out (by omega)
            clear hq2 hr3 s1 s2 s3 s4 s5 t1 t2 t3 t4 t5
            obtain ⟨f5, R5, hq5⟩ := hq5
            obtain ⟨v5, hr5⟩ := hr5
            obtain ⟨A5, c5, rfl⟩ := hr5.form
            have y1 : w3.cell? ⟨y, 1, none⟩ = some (.slice A5 (putL n M p).length c5) := cell_of_heap hr5.hy 1
            have y2 := hr5.y_lt
            have HQ5 := hidd hq5
            have HR5 := hidd hr5
            have HB5 := hidd hb5
            have HL5 : Hid ((putL n M p).length ≤ 1000000) := hidd (by have := hq5.hL; omega)
            clear hq5 hr5 hb5
            go_wp2_with fail
            go_region_held3 (fun w' => w'.cell? ⟨y, 1, none⟩ = some (.slice A5 (putL n M p).length c5)) (first | go_keep | assumption)
              (first
                | (go_at_call 22; refine (c22 (HQ5.out.below (by repeat (first | exact Below.refl _ _ | refine Bl_alloc ?_ _ | refine Below.drewN ?_ _ | refine Below.drew ?_)))).mono ?_; rintro e w6 ⟨v6, rfl, ho6, hb6⟩; (have HO6 := hidd ho6); (have HB6 := hidd (Bl_then (w := w3) (by repeat (first | exact Below.refl _ _ | refine Bl_alloc ?_ _ | refine Below.drewN ?_ _ | refine Below.drew ?_)) hb6)); (have y3 : w6.cell? ⟨y, 1, none⟩ = some (.slice A5 (putL n M p).length c5) := cell_of_heap (HR5.out.below HB6.out).hy 1); clear ho6 hb6)
                | (go_at_call 24; refine (c24 HO6.out.rd (HR5.out.below HB6.out).ho.rd HL5.out).mono ?_; rintro e w7 ⟨rfl, nq, rfl⟩))
            go_wp2
            go_roundw
            case rel => exact ⟨k + 1, by omega, by go_num, putL n M p, ⟨_, _, (HQ5.out.below HB6.out).drewN nq⟩, ⟨_, (HR5.out.below HB6.out).drewN nq⟩, (HB5.out.trans (HB6.out.mono HB5.out.size)).drewN nq⟩
            case measure => first | (simp [intOf]; done) | (simp [intOf]; omega)
          by_cases hc1 : cc = 1
          · subst hc1
            by_cases hm : findB M d = -1
            · have HM := hidd hm
              clear hm
              go_wp2_with fail
              refine (c23m (HQ.out.below (Bl_alloc (Below.refl _ _) _)) HM.out).mono ?_
              rintro e w2 ⟨rfl, hb2⟩
              have HB2 := hidd (Bl_then (w := wr) (Bl_alloc (Below.refl _ _) _) hb2)
              have z2 : wr.heap.size + 1 ≤ w2.heap.size := by have := hb2.size; simpa using this
              have tt : w2.cell? ⟨wr.heap.size, 6, none⟩ = some (.int .i64 d) := (hb2.cell (p := ⟨wr.heap.size, 6, none⟩) (by simp)).trans (cell_of_heap (heap_new wr _) 6)
              have zz : wr.heap.size < w2.heap.size := by omega
              clear hb2
              unfold Pk.val Pk.zero
              go_wp2_with fail
              refine (c29m ((HRQ.out.below HB2.out).below (Bl_alloc (Below.refl _ _) _)) HML.out d HM.out).mono ?_
              rintro e w3 ⟨rfl, hb3⟩
              have HB3 := hidd (Bl_then (w := w2) (Bl_alloc (Below.refl _ _) _) hb3)
              have zz3 : w2.heap.size + 1 ≤ w3.heap.size := by have := hb3.size; simpa using this
              have zz4 : w2.heap.size < w3.heap.size := by omega
              have n0 : w3.cell? ⟨w2.heap.size, 0, none⟩ = some (.int .i64 0) := (hb3.cell (p := ⟨w2.heap.size, 0, none⟩) (by simp)).trans (cell_of_heap (heap_new w2 _) 0)
              have n1 : w3.cell? ⟨w2.heap.size, 1, none⟩ = some (.int .i64 0) := (hb3.cell (p := ⟨w2.heap.size, 1, none⟩) (by simp)).trans (cell_of_heap (heap_new w2 _) 1)
              have n2 : w3.cell? ⟨w2.heap.size, 2, none⟩ = some (.int .i64 0) := (hb3.cell (p := ⟨w2.heap.size, 2, none⟩) (by simp)).trans (cell_of_heap (heap_new w2 _) 2)
              have n3 : w3.cell? ⟨w2.heap.size, 3, none⟩ = some (.int .i64 0) := (hb3.cell (p := ⟨w2.heap.size, 3, none⟩) (by simp)).trans (cell_of_heap (heap_new w2 _) 3)
              have n4 : w3.cell? ⟨w2.heap.size, 4, none⟩ = some (.string ⟨#[]⟩) := (hb3.cell (p := ⟨w2.heap.size, 4, none⟩) (by simp)).trans (cell_of_heap (heap_new w2 _) 4)
              clear hb3
              unfold Pk.val Pk.zero
              go_wp2_with fail
              generalize hw5 : World.alloc w3 _ = w5
              have hq5 : ∃ f R, QAt w5 q r n f R M := ⟨f, R, hw5 ▸ ((HQ.out.below HB2.out).below HB3.out).below (Bl_alloc (Below.refl _ _) _)⟩
              have hr5 : ∃ v, RQ w5 y (y + 1) n v M := ⟨_, hw5 ▸ ((HRQ.out.below HB2.out).below HB3.out).below (Bl_alloc (Below.refl _ _) _)⟩
              have hb5 : Below w.heap.size w w5 := hw5 ▸ Bl_then (Bl_then (Bl_then HB.out HB2.out) HB3.out) (Bl_alloc (Below.refl _ _) _)
              clear hw5 n0 n1 n2 n3 n4 tt
              obtain ⟨f5, R5, hq5⟩ := hq5
              obtain ⟨v5, hr5⟩ := hr5
              obtain ⟨A5, c5, rfl⟩ := hr5.form
              have y1 : w5.cell? ⟨y, 1, none⟩ = some (.slice A5 (M).length c5) := cell_of_heap hr5.hy 1
              have y2 := hr5.y_lt
              have HQ5 := hidd hq5
              have HR5 := hidd hr5
              have HB5 := hidd hb5
              have HL5 : Hid ((M).length ≤ 1000000) := hidd (by have := hq5.hL; omega)
              clear hq5 hr5 hb5
              (try go_wp2_with fail)
              go_region_held3 (fun w' => w'.cell? ⟨y, 1, none⟩ = some (.slice A5 (M).length c5)) (first | go_keep | assumption)
                (first
                  | (go_at_call 22; refine (c22 (HQ5.out.below (by repeat (first | exact Below.refl _ _ | refine Bl_alloc ?_ _ | refine Below.drewN ?_ _ | refine Below.drew ?_)))).mono ?_; rintro e w6 ⟨v6, rfl, ho6, hb6⟩; (have HO6 := hidd ho6); (have HB6 := hidd (Bl_then (w := w5) (by repeat (first | exact Below.refl _ _ | refine Bl_alloc ?_ _ | refine Below.drewN ?_ _ | refine Below.drew ?_)) hb6)); (have y3 : w6.cell? ⟨y, 1, none⟩ = some (.slice A5 (M).length c5) := cell_of_heap (HR5.out.below HB6.out).hy 1); clear ho6 hb6)
                  | (go_at_call 24; refine (c24 HO6.out.rd (HR5.out.below HB6.out).ho.rd HL5.out).mono ?_; rintro e w7 ⟨rfl, nq, rfl⟩))
              go_wp2
              go_roundw
              case rel => exact ⟨k + 1, by omega, by go_num, M, ⟨_, _, (HQ5.out.below HB6.out).drewN nq⟩, ⟨_, (HR5.out.below HB6.out).drewN nq⟩, (HB5.out.trans (HB6.out.mono HB5.out.size)).drewN nq⟩
              case measure => first | (simp [intOf]; done) | (simp [intOf]; omega)

            · obtain ⟨kk, pp, hk', hp', hd'⟩ := findB_some hm
              have HF := hidd hk'
              have HP := hidd hp'
              clear hm hk' hp' hd'
              go_wp2_with fail
              refine (c23h (HQ.out.below (Bl_alloc (Below.refl _ _) _)) HF.out HP.out).mono ?_
              rintro e w2 ⟨rfl, hQ2, hK2⟩
              have HQ2 := hidd hQ2
              have HK2 := hidd (hK2.of_below (a := wr) (Bl_alloc (Below.refl _ _) _))
              have z2 : wr.heap.size + 1 ≤ w2.heap.size := by have := hK2.size; simpa using this
              have tt : w2.cell? ⟨wr.heap.size, 6, none⟩ = some (.int .i64 d) := cell_of_heap (hK2.heapAt (heap_new wr _) (by rintro (h | h) <;> omega)) 6
              have zz : wr.heap.size < w2.heap.size := by omega
              have HR2 := hidd (HRQ.out.keeps HK2.out (by rintro (h | h) <;> omega) (fun g hg => by have := HRQ.out.ho.base hg; rintro (h | h) <;> omega))
              clear hQ2 hK2
              unfold Pk.val
              go_wp2_with fail
              refine (c29h (HR2.out.below (Bl_alloc (Below.refl _ _) (.cells #[.int .i64 pp.s, .int .i64 pp.d, .int .i64 pp.t, .int .i64 pp.n, .string pp.x] 23))) HML.out d HF.out HP.out).mono ?_
              rintro e w3 ⟨rfl, hR3, hK3⟩
              have HR3 := hidd hR3
              have HK3 := hidd (hK3.of_below (a := w2) (Bl_alloc (Below.refl _ _) _))
              have zz3 : w2.heap.size + 1 ≤ w3.heap.size := by have := hK3.size; simpa using this
              have zz4 : w2.heap.size < w3.heap.size := by omega
              have HN := hidd (hK3.heapAt (heap_new w2 _) (by rintro (h | h); omega; have := HRQ.out.ho.lt h; omega))
              have n0 : w3.cell? ⟨w2.heap.size, 0, none⟩ = some (.int .i64 pp.s) := cell_of_heap HN.out 0
              have n1 : w3.cell? ⟨w2.heap.size, 1, none⟩ = some (.int .i64 pp.d) := cell_of_heap HN.out 1
              have n2 : w3.cell? ⟨w2.heap.size, 2, none⟩ = some (.int .i64 pp.t) := cell_of_heap HN.out 2
              have n3 : w3.cell? ⟨w2.heap.size, 3, none⟩ = some (.int .i64 pp.n) := cell_of_heap HN.out 3
              have n4 : w3.cell? ⟨w2.heap.size, 4, none⟩ = some (.string pp.x) := cell_of_heap HN.out 4
              clear hR3 hK3
              unfold Pk.val
              go_wp2_with fail
              generalize hw5 : World.alloc w3 _ = w5
              obtain ⟨f2, R2, hq2⟩ := HQ2.out
              obtain ⟨v3, hr3⟩ := HR3.out
              have hq5 : ∃ f R, QAt w5 q r n f R (M.eraseIdx kk) := ⟨f2, R2, hw5 ▸ (hq2.keeps HK3.out (by rintro (h | h); omega; have := HRQ.out.ho.base h; omega) (by rintro (h | h); omega; have := HRQ.out.ho.base h; omega)).below (Bl_alloc (Below.refl _ _) _)⟩
              have hr5 : ∃ v, RQ w5 y (y + 1) n v (M.eraseIdx kk) := ⟨v3, hw5 ▸ hr3.below (Bl_alloc (Below.refl _ _) _)⟩
              have hb5 : Below w.heap.size w w5 := hw5 ▸ Bl_then (Bl_keepsR (Bl_keeps HB.out HK2.out hq hr) HK3.out HRQ.out (by omega)) (Bl_alloc (Below.refl _ _) _)
              clear hw5 n0 n1 n2 n3 n4 tt hq2 hr3
              obtain ⟨f5, R5, hq5⟩ := hq5
              obtain ⟨v5, hr5⟩ := hr5
              obtain ⟨A5, c5, rfl⟩ := hr5.form
              have y1 : w5.cell? ⟨y, 1, none⟩ = some (.slice A5 ((M.eraseIdx kk)).length c5) := cell_of_heap hr5.hy 1
              have y2 := hr5.y_lt
              have HQ5 := hidd hq5
              have HR5 := hidd hr5
              have HB5 := hidd hb5
              have HL5 : Hid (((M.eraseIdx kk)).length ≤ 1000000) := hidd (by have := hq5.hL; omega)
              clear hq5 hr5 hb5
              (try go_wp2_with fail)
              go_region_held3 (fun w' => w'.cell? ⟨y, 1, none⟩ = some (.slice A5 ((M.eraseIdx kk)).length c5)) (first | go_keep | assumption)
                (first
                  | (go_at_call 22; refine (c22 (HQ5.out.below (by repeat (first | exact Below.refl _ _ | refine Bl_alloc ?_ _ | refine Below.drewN ?_ _ | refine Below.drew ?_)))).mono ?_; rintro e w6 ⟨v6, rfl, ho6, hb6⟩; (have HO6 := hidd ho6); (have HB6 := hidd (Bl_then (w := w5) (by repeat (first | exact Below.refl _ _ | refine Bl_alloc ?_ _ | refine Below.drewN ?_ _ | refine Below.drew ?_)) hb6)); (have y3 : w6.cell? ⟨y, 1, none⟩ = some (.slice A5 ((M.eraseIdx kk)).length c5) := cell_of_heap (HR5.out.below HB6.out).hy 1); clear ho6 hb6)
                  | (go_at_call 24; refine (c24 HO6.out.rd (HR5.out.below HB6.out).ho.rd HL5.out).mono ?_; rintro e w7 ⟨rfl, nq, rfl⟩))
              go_wp2
              go_roundw
              case rel => exact ⟨k + 1, by omega, by go_num, (M.eraseIdx kk), ⟨_, _, (HQ5.out.below HB6.out).drewN nq⟩, ⟨_, (HR5.out.below HB6.out).drewN nq⟩, (HB5.out.trans (HB6.out.mono HB5.out.size)).drewN nq⟩
              case measure => first | (simp [intOf]; done) | (simp [intOf]; omega)

          by_cases hc2 : cc = 2
          · subst hc2
            cases M with
            | nil =>
              go_wp2_with fail
              refine (c25e (HQ.out.below (Bl_alloc (Below.refl _ _) _))).mono ?_
              rintro e w2 ⟨rfl, hb2⟩
              have HB2 := hidd (Bl_then (w := wr) (Bl_alloc (Below.refl _ _) _) hb2)
              clear hb2
              unfold Pk.val Pk.zero
              go_wp2_with fail
              refine (c30e ((HRQ.out.below HB2.out).below (Bl_alloc (Below.refl _ _) _))).mono ?_
              rintro e w3 ⟨rfl, hb3⟩
              have HB3 := hidd (Bl_then (w := w2) (Bl_alloc (Below.refl _ _) _) hb3)
              have zz3 : w2.heap.size + 1 ≤ w3.heap.size := by have := hb3.size; simpa using this
              have zz4 : w2.heap.size < w3.heap.size := by omega
              have n0 : w3.cell? ⟨w2.heap.size, 0, none⟩ = some (.int .i64 0) := (hb3.cell (p := ⟨w2.heap.size, 0, none⟩) (by simp)).trans (cell_of_heap (heap_new w2 _) 0)
              have n1 : w3.cell? ⟨w2.heap.size, 1, none⟩ = some (.int .i64 0) := (hb3.cell (p := ⟨w2.heap.size, 1, none⟩) (by simp)).trans (cell_of_heap (heap_new w2 _) 1)
              have n2 : w3.cell? ⟨w2.heap.size, 2, none⟩ = some (.int .i64 0) := (hb3.cell (p := ⟨w2.heap.size, 2, none⟩) (by simp)).trans (cell_of_heap (heap_new w2 _) 2)
              have n3 : w3.cell? ⟨w2.heap.size, 3, none⟩ = some (.int .i64 0) := (hb3.cell (p := ⟨w2.heap.size, 3, none⟩) (by simp)).trans (cell_of_heap (heap_new w2 _) 3)
              have n4 : w3.cell? ⟨w2.heap.size, 4, none⟩ = some (.string ⟨#[]⟩) := (hb3.cell (p := ⟨w2.heap.size, 4, none⟩) (by simp)).trans (cell_of_heap (heap_new w2 _) 4)
              clear hb3
              unfold Pk.val Pk.zero
              go_wp2_with fail
              generalize hw5 : World.alloc w3 _ = w5
              have hq5 : ∃ f R, QAt w5 q r n f R ([] : List Pk) := ⟨f, R, hw5 ▸ ((HQ.out.below HB2.out).below HB3.out).below (Bl_alloc (Below.refl _ _) _)⟩
              have hr5 : ∃ v, RQ w5 y (y + 1) n v ([] : List Pk) := ⟨_, hw5 ▸ ((HRQ.out.below HB2.out).below HB3.out).below (Bl_alloc (Below.refl _ _) _)⟩
              have hb5 : Below w.heap.size w w5 := hw5 ▸ Bl_then (Bl_then (Bl_then HB.out HB2.out) HB3.out) (Bl_alloc (Below.refl _ _) _)
              clear hw5 n0 n1 n2 n3 n4
              obtain ⟨f5, R5, hq5⟩ := hq5
              obtain ⟨v5, hr5⟩ := hr5
              obtain ⟨A5, c5, rfl⟩ := hr5.form
              have y1 : w5.cell? ⟨y, 1, none⟩ = some (.slice A5 (([] : List Pk)).length c5) := cell_of_heap hr5.hy 1
              have y2 := hr5.y_lt
              have HQ5 := hidd hq5
              have HR5 := hidd hr5
              have HB5 := hidd hb5
              have HL5 : Hid ((([] : List Pk)).length ≤ 1000000) := hidd (by have := hq5.hL; omega)
              clear hq5 hr5 hb5
              (try go_wp2_with fail)
              go_region_held3 (fun w' => w'.cell? ⟨y, 1, none⟩ = some (.slice A5 (([] : List Pk)).length c5)) (first | go_keep | assumption)
                (first
                  | (go_at_call 22; refine (c22 (HQ5.out.below (by repeat (first | exact Below.refl _ _ | refine Bl_alloc ?_ _ | refine Below.drewN ?_ _ | refine Below.drew ?_)))).mono ?_; rintro e w6 ⟨v6, rfl, ho6, hb6⟩; (have HO6 := hidd ho6); (have HB6 := hidd (Bl_then (w := w5) (by repeat (first | exact Below.refl _ _ | refine Bl_alloc ?_ _ | refine Below.drewN ?_ _ | refine Below.drew ?_)) hb6)); (have y3 : w6.cell? ⟨y, 1, none⟩ = some (.slice A5 (([] : List Pk)).length c5) := cell_of_heap (HR5.out.below HB6.out).hy 1); clear ho6 hb6)
                  | (go_at_call 24; refine (c24 HO6.out.rd (HR5.out.below HB6.out).ho.rd HL5.out).mono ?_; rintro e w7 ⟨rfl, nq, rfl⟩))
              go_wp2
              go_roundw
              case rel => exact ⟨k + 1, by omega, by go_num, ([] : List Pk), ⟨_, _, (HQ5.out.below HB6.out).drewN nq⟩, ⟨_, (HR5.out.below HB6.out).drewN nq⟩, (HB5.out.trans (HB6.out.mono HB5.out.size)).drewN nq⟩
              case measure => first | (simp [intOf]; done) | (simp [intOf]; omega)

            | cons pp M =>
              go_wp2_with fail
              refine (c25h (HQ.out.below (Bl_alloc (Below.refl _ _) _))).mono ?_
              rintro e w2 ⟨rfl, hb2⟩
              have HB2 := hidd (Bl_then (w := wr) (Bl_alloc (Below.refl _ _) _) hb2)
              clear hb2
              unfold Pk.val
              go_wp2_with fail
              refine (c30h ((HRQ.out.below HB2.out).below (Bl_alloc (Below.refl _ _) _))).mono ?_
              rintro e w3 ⟨rfl, hb3⟩
              have HB3 := hidd (Bl_then (w := w2) (Bl_alloc (Below.refl _ _) _) hb3)
              have zz3 : w2.heap.size + 1 ≤ w3.heap.size := by have := hb3.size; simpa using this
              have zz4 : w2.heap.size < w3.heap.size := by omega
              have n0 : w3.cell? ⟨w2.heap.size, 0, none⟩ = some (.int .i64 pp.s) := (hb3.cell (p := ⟨w2.heap.size, 0, none⟩) (by simp)).trans (cell_of_heap (heap_new w2 _) 0)
              have n1 : w3.cell? ⟨w2.heap.size, 1, none⟩ = some (.int .i64 pp.d) := (hb3.cell (p := ⟨w2.heap.size, 1, none⟩) (by simp)).trans (cell_of_heap (heap_new w2 _) 1)
              have n2 : w3.cell? ⟨w2.heap.size, 2, none⟩ = some (.int .i64 pp.t) := (hb3.cell (p := ⟨w2.heap.size, 2, none⟩) (by simp)).trans (cell_of_heap (heap_new w2 _) 2)
              have n3 : w3.cell? ⟨w2.heap.size, 3, none⟩ = some (.int .i64 pp.n) := (hb3.cell (p := ⟨w2.heap.size, 3, none⟩) (by simp)).trans (cell_of_heap (heap_new w2 _) 3)
              have n4 : w3.cell? ⟨w2.heap.size, 4, none⟩ = some (.string pp.x) := (hb3.cell (p := ⟨w2.heap.size, 4, none⟩) (by simp)).trans (cell_of_heap (heap_new w2 _) 4)
              clear hb3
              unfold Pk.val
              go_wp2_with fail
              generalize hw5 : World.alloc w3 _ = w5
              have hq5 : ∃ f R, QAt w5 q r n f R (pp :: M) := ⟨f, R, hw5 ▸ ((HQ.out.below HB2.out).below HB3.out).below (Bl_alloc (Below.refl _ _) _)⟩
              have hr5 : ∃ v, RQ w5 y (y + 1) n v (pp :: M) := ⟨_, hw5 ▸ ((HRQ.out.below HB2.out).below HB3.out).below (Bl_alloc (Below.refl _ _) _)⟩
              have hb5 : Below w.heap.size w w5 := hw5 ▸ Bl_then (Bl_then (Bl_then HB.out HB2.out) HB3.out) (Bl_alloc (Below.refl _ _) _)
              clear hw5 n0 n1 n2 n3 n4
              obtain ⟨f5, R5, hq5⟩ := hq5
              obtain ⟨v5, hr5⟩ := hr5
              obtain ⟨A5, c5, rfl⟩ := hr5.form
              have y1 : w5.cell? ⟨y, 1, none⟩ = some (.slice A5 ((pp :: M)).length c5) := cell_of_heap hr5.hy 1
              have y2 := hr5.y_lt
              have HQ5 := hidd hq5
              have HR5 := hidd hr5
              have HB5 := hidd hb5
              have HL5 : Hid (((pp :: M)).length ≤ 1000000) := hidd (by have := hq5.hL; omega)
              clear hq5 hr5 hb5
              (try go_wp2_with fail)
              go_region_held3 (fun w' => w'.cell? ⟨y, 1, none⟩ = some (.slice A5 ((pp :: M)).length c5)) (first | go_keep | assumption)
                (first
                  | (go_at_call 22; refine (c22 (HQ5.out.below (by repeat (first | exact Below.refl _ _ | refine Bl_alloc ?_ _ | refine Below.drewN ?_ _ | refine Below.drew ?_)))).mono ?_; rintro e w6 ⟨v6, rfl, ho6, hb6⟩; (have HO6 := hidd ho6); (have HB6 := hidd (Bl_then (w := w5) (by repeat (first | exact Below.refl _ _ | refine Bl_alloc ?_ _ | refine Below.drewN ?_ _ | refine Below.drew ?_)) hb6)); (have y3 : w6.cell? ⟨y, 1, none⟩ = some (.slice A5 ((pp :: M)).length c5) := cell_of_heap (HR5.out.below HB6.out).hy 1); clear ho6 hb6)
                  | (go_at_call 24; refine (c24 HO6.out.rd (HR5.out.below HB6.out).ho.rd HL5.out).mono ?_; rintro e w7 ⟨rfl, nq, rfl⟩))
              go_wp2
              go_roundw
              case rel => exact ⟨k + 1, by omega, by go_num, (pp :: M), ⟨_, _, (HQ5.out.below HB6.out).drewN nq⟩, ⟨_, (HR5.out.below HB6.out).drewN nq⟩, (HB5.out.trans (HB6.out.mono HB5.out.size)).drewN nq⟩
              case measure => first | (simp [intOf]; done) | (simp [intOf]; omega)

          by_cases hc3 : cc = 3
          · subst hc3
            go_wp2_with fail
            go_region_held3 (fun w' => w'.cell? ⟨wr.heap.size, 6, none⟩ = some (.int .i64 d)) (first | go_keep | assumption)
              (first
                | (go_at_call 21; refine (c21 (HQ.out.below (by repeat (first | exact Below.refl _ _ | refine Bl_alloc ?_ _ | refine Below.drewN ?_ _ | refine Below.drew ?_))) d).mono ?_; rintro e w2 ⟨rfl, hb2⟩; (have HB2 := hidd (Bl_then (w := wr) (by repeat (first | exact Below.refl _ _ | refine Bl_alloc ?_ _ | refine Below.drewN ?_ _ | refine Below.drew ?_)) hb2)); (have tt : w2.cell? ⟨wr.heap.size, 6, none⟩ = some (.int .i64 d) := (hb2.cell (p := ⟨wr.heap.size, 6, none⟩) (by simp)).trans (cell_of_heap (heap_new wr _) 6)); clear hb2)
                | (go_at_call 31; refine (c31 (HRQ.out.below HB2.out) HML.out d).mono ?_; rintro e w3 ⟨rfl, rfl⟩))
            have hq5 : ∃ f R, QAt w2 q r n f R M := ⟨f, R, HQ.out.below HB2.out⟩
            have hr5 : ∃ v, RQ w2 y (y + 1) n v M := ⟨_, HRQ.out.below HB2.out⟩
            have hb5 : Below w.heap.size w w2 := Bl_then HB.out HB2.out
            clear tt
            obtain ⟨f5, R5, hq5⟩ := hq5
            obtain ⟨v5, hr5⟩ := hr5
            obtain ⟨A5, c5, rfl⟩ := hr5.form
            have y1 : w2.cell? ⟨y, 1, none⟩ = some (.slice A5 (M).length c5) := cell_of_heap hr5.hy 1
            have y2 := hr5.y_lt
            have HQ5 := hidd hq5
            have HR5 := hidd hr5
            have HB5 := hidd hb5
            have HL5 : Hid ((M).length ≤ 1000000) := hidd (by have := hq5.hL; omega)
            clear hq5 hr5 hb5
            (try go_wp2_with fail)
            go_region_held3 (fun w' => w'.cell? ⟨y, 1, none⟩ = some (.slice A5 (M).length c5)) (first | go_keep | assumption)
              (first
                | (go_at_call 22; refine (c22 (HQ5.out.below (by repeat (first | exact Below.refl _ _ | refine Bl_alloc ?_ _ | refine Below.drewN ?_ _ | refine Below.drew ?_)))).mono ?_; rintro e w6 ⟨v6, rfl, ho6, hb6⟩; (have HO6 := hidd ho6); (have HB6 := hidd (Bl_then (w := w2) (by repeat (first | exact Below.refl _ _ | refine Bl_alloc ?_ _ | refine Below.drewN ?_ _ | refine Below.drew ?_)) hb6)); (have y3 : w6.cell? ⟨y, 1, none⟩ = some (.slice A5 (M).length c5) := cell_of_heap (HR5.out.below HB6.out).hy 1); clear ho6 hb6)
                | (go_at_call 24; refine (c24 HO6.out.rd (HR5.out.below HB6.out).ho.rd HL5.out).mono ?_; rintro e w7 ⟨rfl, nq, rfl⟩))
            go_wp2
            go_roundw
            case rel => exact ⟨k + 1, by omega, by go_num, M, ⟨_, _, (HQ5.out.below HB6.out).drewN nq⟩, ⟨_, (HR5.out.below HB6.out).drewN nq⟩, (HB5.out.trans (HB6.out.mono HB5.out.size)).drewN nq⟩
            case measure => first | (simp [intOf]; done) | (simp [intOf]; omega)

          go_wp2_with fail
          go_region_held3 (fun w' => w'.cell? ⟨wr.heap.size, 6, none⟩ = some (.int .i64 d)) (first | go_keep | assumption)
            (first
              | (go_at_call 26; refine (c26 (HQ.out.below (by repeat (first | exact Below.refl _ _ | refine Bl_alloc ?_ _ | refine Below.drewN ?_ _ | refine Below.drew ?_))) d).mono ?_; rintro e w2 ⟨rfl, hQ2, hK2⟩; (have HQ2 := hidd hQ2); (have HK2 := hidd (hK2.of_below (a := wr) (by repeat (first | exact Below.refl _ _ | refine Bl_alloc ?_ _ | refine Below.drewN ?_ _ | refine Below.drew ?_)))); (have HT := hidd (hK2.heapAt (heap_new wr _) (by rintro (h | h) <;> omega))); (have tt : w2.cell? ⟨wr.heap.size, 6, none⟩ = some (.int .i64 d) := cell_of_heap HT.out 6); clear hQ2 hK2)
              | (go_at_call 32; refine (c32 (HRQ.out.keeps HK2.out (by rintro (h | h) <;> omega) (fun g hg => by have := HRQ.out.ho.base hg; rintro (h | h) <;> omega)) HML.out d).mono ?_; rintro e w3 ⟨rfl, hR3, hK3⟩; (have HR3 := hidd hR3); (have HK3 := hidd hK3); (have tt3 : w3.cell? ⟨wr.heap.size, 6, none⟩ = some (.int .i64 d) := cell_of_heap (hK3.heapAt HT.out (by rintro (h | h); omega; have := HRQ.out.ho.lt h; omega)) 6); clear hR3 hK3))
          obtain ⟨f2, R2, hq2⟩ := HQ2.out
          obtain ⟨v3, hr3⟩ := HR3.out
          have hq5 : ∃ f R, QAt w3 q r n f R (others M d) := ⟨f2, R2, hq2.keeps HK3.out (by rintro (h | h); omega; have := HRQ.out.ho.base h; omega) (by rintro (h | h); omega; have := HRQ.out.ho.base h; omega)⟩
          have hr5 : ∃ v, RQ w3 y (y + 1) n v (others M d) := ⟨v3, hr3⟩
          have hb5 : Below w.heap.size w w3 := Bl_keepsR (Bl_keeps HB.out HK2.out hq hr) HK3.out HRQ.out (by omega)
          clear hq2 hr3 tt tt3
          obtain ⟨f5, R5, hq5⟩ := hq5
          obtain ⟨v5, hr5⟩ := hr5
          obtain ⟨A5, c5, rfl⟩ := hr5.form
          have y1 : w3.cell? ⟨y, 1, none⟩ = some (.slice A5 ((others M d)).length c5) := cell_of_heap hr5.hy 1
          have y2 := hr5.y_lt
          have HQ5 := hidd hq5
          have HR5 := hidd hr5
          have HB5 := hidd hb5
          have HL5 : Hid (((others M d)).length ≤ 1000000) := hidd (by have := hq5.hL; omega)
          clear hq5 hr5 hb5
          (try go_wp2_with fail)
          go_region_held3 (fun w' => w'.cell? ⟨y, 1, none⟩ = some (.slice A5 ((others M d)).length c5)) (first | go_keep | assumption)
            (first
              | (go_at_call 22; refine (c22 (HQ5.out.below (by repeat (first | exact Below.refl _ _ | refine Bl_alloc ?_ _ | refine Below.drewN ?_ _ | refine Below.drew ?_)))).mono ?_; rintro e w6 ⟨v6, rfl, ho6, hb6⟩; (have HO6 := hidd ho6); (have HB6 := hidd (Bl_then (w := w3) (by repeat (first | exact Below.refl _ _ | refine Bl_alloc ?_ _ | refine Below.drewN ?_ _ | refine Below.drew ?_)) hb6)); (have y3 : w6.cell? ⟨y, 1, none⟩ = some (.slice A5 ((others M d)).length c5) := cell_of_heap (HR5.out.below HB6.out).hy 1); clear ho6 hb6)
              | (go_at_call 24; refine (c24 HO6.out.rd (HR5.out.below HB6.out).ho.rd HL5.out).mono ?_; rintro e w7 ⟨rfl, nq, rfl⟩))
          go_wp2
          go_roundw
          case rel => exact ⟨k + 1, by omega, by go_num, (others M d), ⟨_, _, (HQ5.out.below HB6.out).drewN nq⟩, ⟨_, (HR5.out.below HB6.out).drewN nq⟩, (HB5.out.trans (HB6.out.mono HB5.out.size)).drewN nq⟩
          case measure => first | (simp [intOf]; done) | (simp [intOf]; omega)

        · obtain rfl : k = L.length := by omega
          obtain ⟨-, -, hB⟩ := hBo
          have HB := hidd hB
          clear hB
          go_wp2_with (go_at_call 19; refine (c19 _).mono ?_; rintro e w9 ⟨rfl, hb9⟩)
          go_ret
          exact ⟨rfl, Bl_then HB.out hb9⟩
end Go.Proofs.Ytnlcibobhmcfpaa
