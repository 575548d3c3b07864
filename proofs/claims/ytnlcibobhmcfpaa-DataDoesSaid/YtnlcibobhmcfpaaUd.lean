/- The walk of the statement DataDoes. -/
import Derived.Test.YtnlcibobhmcfpaaUc
import Derived.Test.YtnlcibobhmcfpaaTe
import Derived.Deep.DeepCutAuto
set_option linter.unusedSimpArgs false
set_option linter.unusedVariables false
namespace Go.Proofs.Ytnlcibobhmcfpaa
open Go.RowKit
attribute [local go_sem ↓] Go.wp_at_zero Go.wp_at_succ
theorem drewN_cell {w : World} {p : Addr} {v : Value} {n : Nat} (h : w.cell? p = some v) : (w.drewN n).cell? p = some v := h
/-- Both planes side by side. -/
structure BothD (w : World) (x q r y z n : Nat) (me : Int) (m : Nat) (wr : World) (f : Nat) (R M : List Pk) (c : Cn) (v : Value) : Prop where
  hA : PAt wr x q r n f R M me c
  hP : RP wr y z (y + 1) n me c v M
  hle : c.le m
  hR : ∀ p ∈ M, p.right = true
  hB : Below w.heap.size w wr
theorem BothD.below {w wr w' : World} {x q r y z n m f : Nat} {me : Int} {R M : List Pk} {c : Cn} {v : Value} (h : BothD w x q r y z n me m wr f R M c v) (k : Below wr.heap.size wr w') : BothD w x q r y z n me m w' f R M c v :=
  ⟨h.hA.below k, h.hP.below k, h.hle, h.hR, h.hB.trans (k.mono h.hB.size)⟩
theorem takeL_right {n : Nat} {M : List Pk} {p : Pk} {me nx : Int} {ok : Bool} (h : ∀ u ∈ M, u.right = true) : ∀ u ∈ takeL n M p me nx ok, u.right = true := by
  intro u hu
  unfold takeL at hu
  split at hu
  · rename_i hc
    rcases List.mem_append.1 hu with h1 | h1
    · exact h u h1
    · simp at h1
      subst h1
      rcases dec_cases u.s u.d u.t u.n u.x me nx ok with hv | ⟨hr, _⟩ | ⟨k, tt, t', _, _, _, _, hr, _⟩
      · have : decP u me nx ok = _ := hv
        rw [this] at hc
        simp at hc
      · exact hr
      · exact hr
  · exact h u hu
theorem right_node {p : Pk} (h : p.right = true) : nodeB p.d = true := by
  unfold Pk.right rightB at h
  simp only [Bool.and_eq_true] at h
  exact h.1.1.1.1.1.2
theorem not_InRP {y z g B : Nat} {v : Value} (hz : g < z) (hzy : z < y) (hv : ∀ j, v.ownBlock = some j → y < j) : ¬ InRP y z v g := by
  rintro (h | h | h)
  · omega
  · omega
  · have := hv g h; omega
theorem not_InP {x q r g : Nat} (hx : x < g) (hq : q < g) (hr : r < g) : ¬ InP x q r g := by
  rintro (h | h | h) <;> omega
/-- Behind two calls: the program's, then the reference's. -/
theorem both_step {w wr w3 w4 : World} {x q r y z n m m' f f3 : Nat} {me : Int} {R M R3 M' : List Pk} {c c' : Cn} {v v' : Value} (h : BothD w x q r y z n me m wr f R M c v)
    (lx : w.heap.size ≤ x) (lq : w.heap.size ≤ q) (lr : w.heap.size ≤ r) (xz : x < z) (qz : q < z) (rz : r < z) (zy : z < y)
    (hA3 : PAt w3 x q r n f3 R3 M' me c') (hK3 : Keeps (InP x q r) wr w3) (hP4 : RP w4 y z (y + 1) n me c' v' M') (hK4 : Keeps (InRP y z v) w3 w4) (hle : c'.le m') (hR : ∀ u ∈ M', u.right = true) : BothD w x q r y z n me m' w4 f3 R3 M' c' v' := by
  have hv : ∀ j, v.ownBlock = some j → y < j := fun j hj => by have := (h.hP.vlt hj).1; omega
  refine ⟨hA3.keeps hK4 (not_InRP (B := 0) xz zy hv) (not_InRP (B := 0) qz zy hv) (not_InRP (B := 0) rz zy hv), hP4, hle, hR, ?_⟩
  refine (Bl_keepsP h.hB hK3 lx lq lr).trans (hK4.toBelow (Nat.le_trans h.hB.size hK3.size) ?_)
  rintro g (h1 | h1 | h1)
  · omega
  · omega
  · have := hv g h1; omega
theorem rp_keepsP {w w' : World} {x q r y z B n : Nat} {me : Int} {c : Cn} {v : Value} {L : List Pk} (h : RP w y z B n me c v L) (k : Keeps (InP x q r) w w') (xz : x < z) (qz : q < z) (rz : r < z) (zy : z < y) : RP w' y z B n me c v L :=
  h.keeps k (not_InP (by omega) (by omega) (by omega)) (not_InP xz qz rz) (fun g hg => not_InP (by have := (h.vlt hg).1; have := h.ly; omega) (by have := (h.vlt hg).1; have := h.ly; omega) (by have := (h.vlt hg).1; have := h.ly; omega))
set_option maxRecDepth 100000 in
set_option maxHeartbeats 4000000 in
theorem c13 (me m : Int) (v : Value) (L : List (List Value)) (w : World) (hv : RdEl w 9 v L) (hg : ∀ p ∈ L, GoodOp2 p) :
    Calls Try.prog 13 #[.int .i64 me, .int .i64 m, v] w fun e w' => e = .returned (.bool true) ∧ Below w.heap.size w w' := by
  have HV := hidd hv
  obtain ⟨A, c, rfl, hrd⟩ := hv
  have HR := hidd hrd
  have HG := hidd hg
  clear hrd hg
  go_enter Try.func13, Try.ntmps13
  go_wp2_with fail
  refine (c37 HV.out HG.out).mono ?_
  rintro e w' ⟨bb, rfl, rfl, hfew⟩
  cases bb with
  | false =>
    go_wp2
    go_ret
    exact ⟨rfl, Below.refl _ _⟩
  | true =>
    have hl : L.length ≤ 120 := hfew rfl
    clear hfew HV
    by_cases hbad : m < 1 ∨ 64 < m ∨ nodeB me = false
    · have HBAD := hidd hbad
      clear hbad
      go_wp2_with fail
      refine (c33b _ _ _ HBAD.out).mono ?_
      rintro e w1 ⟨rfl, hb1⟩
      go_wp2_with fail
      refine (c40b _ _ _ HBAD.out).mono ?_
      rintro e w2 ⟨rfl, rfl⟩
      go_wp2_with (go_at_call 16; refine (c16 _).mono ?_; rintro e w3 ⟨rfl, hb3⟩)
      go_ret
      exact ⟨rfl, Bl_then hb1 hb3⟩
    · have hme : nodeB me = true := by
        cases h : nodeB me with
        | true => rfl
        | false => exact absurd (.inr (.inr h)) hbad
      obtain ⟨n, rfl⟩ : ∃ n : Nat, m = n := ⟨m.toNat, by omega⟩
      have hn1 : 1 ≤ n := by omega
      have hn64 : n ≤ 64 := by omega
      have HME := hidd hme
      clear hbad hme
      go_wp2_with fail
      refine (c33g me n _ hn1 hn64 HME.out).mono ?_
      rintro e w1 ⟨x, q, r, rfl, hA1, hx, hq1, hr, hB1⟩
      obtain ⟨lx1, lq1, lr1⟩ := hA1.lt
      have HA1 := hidd hA1
      have HB1 := hidd hB1
      clear hA1 hB1
      go_wp2_with fail
      refine (c40g me n _ hn1 hn64 HME.out).mono ?_
      rintro e w2 ⟨y, z, rfl, hP2, hy2, hz2, hB2⟩
      have zy : z < y := by have := hP2.hR.lt; have := hP2.nz; omega
      have xz : x < z := by omega
      have qz : q < z := by omega
      have rz : r < z := by omega
      have H0 : Hid (BothD w x q r y z n me 0 w2 0 (List.replicate n Pk.zero) [] Cn.zero (.slice none 0 0)) := hidd ⟨HA1.out.below hB2, hP2, by constructor <;> decide, by simp, Bl_then HB1.out hB2⟩
      have hw1 := HB1.out.size
      clear hP2 hB2 HA1
      go_wp2
      go_loopw [11] (fun i wr => ∃ (k f : Nat) (R M : List Pk) (c : Cn) (v : Value), k ≤ L.length ∧ i = .int .i64 k ∧ BothD w x q r y z n me (65 * k) wr f R M c v) (fun i _ => L.length - (intOf i).toNat)
      case atStart => exact ⟨0, _, _, _, _, _, Nat.zero_le _, rfl, H0.out⟩
      case round =>
        obtain ⟨k, f, R, M, c', v, hk, rfl, hKP⟩ := hrel
        obtain ⟨wo, rfl⟩ : ∃ wo : World, wo = wr := ⟨_, rfl⟩
        clear H0
        by_cases hlt : k < L.length
        · obtain ⟨cs, hp⟩ : ∃ cs, L[k]? = some cs := ⟨_, List.getElem?_eq_getElem hlt⟩
          obtain ⟨op, p, d, nx, ok, rfl⟩ := HG.out cs (List.mem_of_getElem? hp)
          obtain ⟨b, o, rfl, hbl, hcells⟩ : ∃ b o, A = some ⟨b, o, none⟩ ∧ b < w.heap.size ∧ ∀ k cs, L[k]? = some cs → ∀ j u, cs[j]? = some u → w.cell? ⟨b, o + k * 9 + j, none⟩ = some u := by
            rcases HR.out with h0 | h0
            · rw [h0] at hlt; exact absurd hlt (by simp)
            · exact h0
          have hB := hKP.hB
          have e0 : wo.cell? ⟨b, o + k * 9, none⟩ = some (.bool op) := (hB.cell (p := ⟨b, o + k * 9 + 0, none⟩) hbl).trans (hcells k _ hp 0 _ rfl)
          have e1 : wo.cell? ⟨b, o + k * 9 + 1, none⟩ = some (.int .i64 p.s) := (hB.cell (p := ⟨b, o + k * 9 + 1, none⟩) hbl).trans (hcells k _ hp 1 _ rfl)
          have e2 : wo.cell? ⟨b, o + k * 9 + 2, none⟩ = some (.int .i64 p.d) := (hB.cell (p := ⟨b, o + k * 9 + 2, none⟩) hbl).trans (hcells k _ hp 2 _ rfl)
          have e3 : wo.cell? ⟨b, o + k * 9 + 3, none⟩ = some (.int .i64 p.t) := (hB.cell (p := ⟨b, o + k * 9 + 3, none⟩) hbl).trans (hcells k _ hp 3 _ rfl)
          have e4 : wo.cell? ⟨b, o + k * 9 + 4, none⟩ = some (.int .i64 p.n) := (hB.cell (p := ⟨b, o + k * 9 + 4, none⟩) hbl).trans (hcells k _ hp 4 _ rfl)
          have e5 : wo.cell? ⟨b, o + k * 9 + 5, none⟩ = some (.string p.x) := (hB.cell (p := ⟨b, o + k * 9 + 5, none⟩) hbl).trans (hcells k _ hp 5 _ rfl)
          have e6 : wo.cell? ⟨b, o + k * 9 + 6, none⟩ = some (.int .i64 d) := (hB.cell (p := ⟨b, o + k * 9 + 6, none⟩) hbl).trans (hcells k _ hp 6 _ rfl)
          have e7 : wo.cell? ⟨b, o + k * 9 + 7, none⟩ = some (.int .i64 nx) := (hB.cell (p := ⟨b, o + k * 9 + 7, none⟩) hbl).trans (hcells k _ hp 7 _ rfl)
          have e8 : wo.cell? ⟨b, o + k * 9 + 8, none⟩ = some (.bool ok) := (hB.cell (p := ⟨b, o + k * 9 + 8, none⟩) hbl).trans (hcells k _ hp 8 _ rfl)
          have HKP := hidd hKP
          have lbw : b < wo.heap.size := by have := hB.size; omega
          clear hcells hp hKP hB
          go_upto_if 65 with fail
          generalize hw2 : World.alloc wo _ = w2
          have HT : Hid (w2.heap[wo.heap.size]? = some (.cells #[.bool op, .int .i64 p.s, .int .i64 p.d, .int .i64 p.t, .int .i64 p.n, .string p.x, .int .i64 d, .int .i64 nx, .bool ok] 65 (0, 0))) := hidd (hw2 ▸ heap_new wo _)
          have HK2 : Hid (BothD w x q r y z n me (65 * k) w2 f R M c' v) := hidd (hw2 ▸ HKP.out.below (Bl_alloc (Below.refl _ _) _))
          have o0 : w2.cell? ⟨wo.heap.size, 0, none⟩ = some (.bool op) := cell_of_heap HT.out 0
          have o1 : w2.cell? ⟨wo.heap.size, 1, none⟩ = some (.int .i64 p.s) := cell_of_heap HT.out 1
          have o2 : w2.cell? ⟨wo.heap.size, 2, none⟩ = some (.int .i64 p.d) := cell_of_heap HT.out 2
          have o3 : w2.cell? ⟨wo.heap.size, 3, none⟩ = some (.int .i64 p.t) := cell_of_heap HT.out 3
          have o4 : w2.cell? ⟨wo.heap.size, 4, none⟩ = some (.int .i64 p.n) := cell_of_heap HT.out 4
          have o5 : w2.cell? ⟨wo.heap.size, 5, none⟩ = some (.string p.x) := cell_of_heap HT.out 5
          have o6 : w2.cell? ⟨wo.heap.size, 6, none⟩ = some (.int .i64 d) := cell_of_heap HT.out 6
          have o7 : w2.cell? ⟨wo.heap.size, 7, none⟩ = some (.int .i64 nx) := cell_of_heap HT.out 7
          have o8 : w2.cell? ⟨wo.heap.size, 8, none⟩ = some (.bool ok) := cell_of_heap HT.out 8
          have lt2 : wo.heap.size < w2.heap.size := (Array.getElem?_eq_some_iff.1 HT.out).1
          have hyo : y < wo.heap.size := HKP.out.hP.lt.1
          have hvo : ∀ j, v.ownBlock = some j → y < j ∧ j < wo.heap.size := fun j hj => by have := HKP.out.hP.vlt hj; omega
          have HVO := hidd hvo
          have hMn : M.length ≤ n := HK2.out.hA.hQ.hL
          clear hw2 e0 e1 e2 e3 e4 e5 e6 e7 e8 hvo
          go_cut [13] (fun okv wx => okv = .bool true ∧ ∃ (f : Nat) (R M : List Pk) (c : Cn) (v : Value), BothD w x q r y z n me (65 * (k + 1)) wx f R M c v)
          case first =>
            cases op with
            | true =>
              cases hvd : nodeB d && nodeB nx && !(d == me) && !(nx == me) with
              | false =>
                have hbd : nodeB d = false ∨ nodeB nx = false ∨ d = me ∨ nx = me := by
                  simp only [Bool.and_eq_false_iff, Bool.not_eq_false'] at hvd
                  rcases hvd with ((h | h) | h) | h
                  · exact .inl h
                  · exact .inr (.inl h)
                  · exact .inr (.inr (.inl (by simpa using h)))
                  · exact .inr (.inr (.inr (by simpa using h)))
                have HBD := hidd hbd
                clear hvd hbd
                go_wp2_with (first
                  | (go_at_call 35; refine (c35b HK2.out.hA _ _ HBD.out).mono ?_; rintro e w3 ⟨rfl, rfl⟩)
                  | (go_at_call 41; refine (c41b HK2.out.hP _ _ HBD.out).mono ?_; rintro e w3 ⟨rfl, rfl⟩)
                  | (go_at_call 42; refine (c42 (L := []) ⟨none, 0, rfl, .inl rfl⟩ ⟨none, 0, rfl, .inl rfl⟩ (by simp)).mono ?_; rintro e w3 ⟨rfl, nq, rfl⟩))
                go_meet
                exact ⟨rfl, _, _, _, _, _, ⟨(HK2.out.below (Below.drewN (Below.refl _ _) nq)).hA, (HK2.out.below (Below.drewN (Below.refl _ _) nq)).hP, Cn.le_mono HK2.out.hle (by omega), HK2.out.hR, (HK2.out.below (Below.drewN (Below.refl _ _) nq)).hB⟩⟩
              | true =>
                simp only [Bool.and_eq_true, Bool.not_eq_true'] at hvd
                obtain ⟨⟨⟨hv1, hv2⟩, hv3⟩, hv4⟩ := hvd
                have HV1 := hidd hv1
                have HV2 := hidd hv2
                have HV3 := hidd hv3
                have HV4 := hidd hv4
                clear hv1 hv2 hv3 hv4
                go_wp2_with fail
                refine (c35g HK2.out.hA HK2.out.hle (by omega) d nx HV1.out HV2.out HV3.out HV4.out).mono ?_
                rintro e w3 ⟨v3, rfl, ho3, ⟨f3, R3, hA3⟩, hK3⟩
                have hP3 := rp_keepsP HK2.out.hP hK3 xz qz rz zy
                have HT3 := hidd (hK3.heapAt HT.out (not_InP (by omega) (by omega) (by omega)))
                have HA3 := hidd hA3
                have HK3 := hidd hK3
                have HP3 := hidd hP3
                have HO3 := hidd ho3
                have lt3 : wo.heap.size < w3.heap.size := (Array.getElem?_eq_some_iff.1 HT3.out).1
                have z3 := hK3.size
                clear hA3 hK3 hP3 ho3 o0 o1 o2 o3 o4 o5 o6 o7 o8
                have o0 : w3.cell? ⟨wo.heap.size, 0, none⟩ = some (.bool true) := cell_of_heap HT3.out 0
                have o1 : w3.cell? ⟨wo.heap.size, 1, none⟩ = some (.int .i64 p.s) := cell_of_heap HT3.out 1
                have o2 : w3.cell? ⟨wo.heap.size, 2, none⟩ = some (.int .i64 p.d) := cell_of_heap HT3.out 2
                have o3 : w3.cell? ⟨wo.heap.size, 3, none⟩ = some (.int .i64 p.t) := cell_of_heap HT3.out 3
                have o4 : w3.cell? ⟨wo.heap.size, 4, none⟩ = some (.int .i64 p.n) := cell_of_heap HT3.out 4
                have o5 : w3.cell? ⟨wo.heap.size, 5, none⟩ = some (.string p.x) := cell_of_heap HT3.out 5
                have o6 : w3.cell? ⟨wo.heap.size, 6, none⟩ = some (.int .i64 d) := cell_of_heap HT3.out 6
                have o7 : w3.cell? ⟨wo.heap.size, 7, none⟩ = some (.int .i64 nx) := cell_of_heap HT3.out 7
                have o8 : w3.cell? ⟨wo.heap.size, 8, none⟩ = some (.bool ok) := cell_of_heap HT3.out 8
                go_wp2_with fail
                refine (c41g HP3.out HK2.out.hle (by omega) (by omega) d nx HV1.out HV2.out HV3.out HV4.out).mono ?_
                rintro e w4 ⟨v4, rfl, ho4, ⟨v', hP4⟩, hK4⟩
                have hml := mine_le M d
                have HBO := hidd (both_step HK2.out hx hq1 hr xz qz rz zy HA3.out HK3.out hP4 hK4 (Cn.le_mono (Cn.adds_le HK2.out.hle _) (show _ ≤ 65 * (k + 1) by simp [dvs]; omega)) (fun u hu => HK2.out.hR u (by unfold others at hu; exact (List.mem_filter.1 hu).1)))
                have HO4 := hidd ho4
                have HO34 := hidd (HO3.out.keeps hK4 (fun g hg e => by
                  have h1 := HO3.out.base hg
                  rcases e with e | e | e
                  · omega
                  · omega
                  · have := HVO.out g e; omega))
                clear ho4 hP4 hK4
                go_wp2_with fail
                refine (c42 HO34.out.rd HO4.out.rd (by simp [dvs]; omega)).mono ?_
                rintro e w5 ⟨rfl, nq, rfl⟩
                go_wp2
                go_meet
                exact ⟨rfl, _, _, _, _, _, HBO.out.below (Below.drewN (Below.refl _ _) nq)⟩
            | false =>
              have hle' : (takeC c' n M p me nx ok).le (65 * (k + 1)) := Cn.le_mono (takeC_le HK2.out.hle n M p me nx ok) (by omega)
              have hrt' : ∀ u ∈ takeL n M p me nx ok, u.right = true := takeL_right HK2.out.hR
              have h34 := c34 HK2.out.hA HK2.out.hle (by omega) p nx ok
              have h43 := fun (w3 : World) (h : RP w3 y z (y + 1) n me c' v M) => c43 h HK2.out.hle (by omega) hn64 hMn p nx ok
              generalize takeC c' n M p me nx ok = c2 at hle' h34 h43
              generalize takeL n M p me nx ok = M2 at hrt' h34 h43
              generalize takeV n M p me nx ok = V at h34 h43
              obtain ⟨kd, tt, s', d', t', n', x', er⟩ := V
              have HLE := hidd hle'
              have HRT := hidd hrt'
              have H34 := hidd h34
              have H43 := hidd h43
              clear hle' hrt' h34 h43
              go_wp2_with fail
              refine H34.out.mono ?_
              rintro e w3 ⟨rfl, ⟨R3, hA3⟩, hK3⟩
              have hK3' := hK3.alloc (.cells #[.int .i64 kd, .int .i64 tt, .int .i64 s', .int .i64 d', .int .i64 t', .int .i64 n', .string x'] 25)
              have hP3 := rp_keepsP HK2.out.hP hK3' xz qz rz zy
              have HA3 := hidd (hA3.below (Bl_alloc (Below.refl _ _) (.cells #[.int .i64 kd, .int .i64 tt, .int .i64 s', .int .i64 d', .int .i64 t', .int .i64 n', .string x'] 25)))
              have HT3 := hidd (hK3'.heapAt HT.out (not_InP (by omega) (by omega) (by omega)))
              have HK3 := hidd hK3'
              have HP3 := hidd hP3
              have z3 := hK3.size
              clear hA3 hK3 hK3' hP3 o0 o1 o2 o3 o4 o5 o6 o7 o8
              unfold Ver.val
              go_upto_region 19 with fail
              generalize hw4 : World.alloc w3 _ = w4 at HA3 HT3 HK3 HP3
              have HW4 : Hid (w4.heap[w3.heap.size]? = some (.cells #[.int .i64 kd, .int .i64 tt, .int .i64 s', .int .i64 d', .int .i64 t', .int .i64 n', .string x'] 25 (0, 0))) := hidd (hw4 ▸ heap_new w3 _)
              have l34 : w3.heap.size < w4.heap.size := (Array.getElem?_eq_some_iff.1 HW4.out).1
              have lt4 : wo.heap.size < w4.heap.size := (Array.getElem?_eq_some_iff.1 HT3.out).1
              clear hw4
              have o0 : w4.cell? ⟨wo.heap.size, 0, none⟩ = some (.bool false) := cell_of_heap HT3.out 0
              have o1 : w4.cell? ⟨wo.heap.size, 1, none⟩ = some (.int .i64 p.s) := cell_of_heap HT3.out 1
              have o2 : w4.cell? ⟨wo.heap.size, 2, none⟩ = some (.int .i64 p.d) := cell_of_heap HT3.out 2
              have o3 : w4.cell? ⟨wo.heap.size, 3, none⟩ = some (.int .i64 p.t) := cell_of_heap HT3.out 3
              have o4 : w4.cell? ⟨wo.heap.size, 4, none⟩ = some (.int .i64 p.n) := cell_of_heap HT3.out 4
              have o5 : w4.cell? ⟨wo.heap.size, 5, none⟩ = some (.string p.x) := cell_of_heap HT3.out 5
              have o6 : w4.cell? ⟨wo.heap.size, 6, none⟩ = some (.int .i64 d) := cell_of_heap HT3.out 6
              have o7 : w4.cell? ⟨wo.heap.size, 7, none⟩ = some (.int .i64 nx) := cell_of_heap HT3.out 7
              have o8 : w4.cell? ⟨wo.heap.size, 8, none⟩ = some (.bool ok) := cell_of_heap HT3.out 8
              go_wp2_with fail
              refine (H43.out _ HP3.out).mono ?_
              rintro e w5 ⟨rfl, ⟨v', hP5⟩, hK5⟩
              have HBO := hidd (both_step HK2.out hx hq1 hr xz qz rz zy HA3.out HK3.out hP5 hK5 HLE.out HRT.out)
              have HW5 := hidd (hK5.heapAt HW4.out (by
                rintro (e | e | e)
                · omega
                · omega
                · have := HVO.out _ e; omega))
              have l35 : w3.heap.size < w5.heap.size := (Array.getElem?_eq_some_iff.1 HW5.out).1
              have g0 : w5.cell? ⟨w3.heap.size, 0, none⟩ = some (.int .i64 kd) := cell_of_heap HW5.out 0
              have g1 : w5.cell? ⟨w3.heap.size, 1, none⟩ = some (.int .i64 tt) := cell_of_heap HW5.out 1
              have g2 : w5.cell? ⟨w3.heap.size, 2, none⟩ = some (.int .i64 s') := cell_of_heap HW5.out 2
              have g3 : w5.cell? ⟨w3.heap.size, 3, none⟩ = some (.int .i64 d') := cell_of_heap HW5.out 3
              have g4 : w5.cell? ⟨w3.heap.size, 4, none⟩ = some (.int .i64 t') := cell_of_heap HW5.out 4
              have g5 : w5.cell? ⟨w3.heap.size, 5, none⟩ = some (.int .i64 n') := cell_of_heap HW5.out 5
              have g6 : w5.cell? ⟨w3.heap.size, 6, none⟩ = some (.string x') := cell_of_heap HW5.out 6
              clear hP5 hK5 o0 o1 o2 o3 o4 o5 o6 o7 o8
              unfold Ver.val
              go_wp2
              go_meet
              exact ⟨by simp, _, _, _, _, _, HBO.out.below (Bl_alloc (Below.refl _ _) _)⟩
          case rest =>
            obtain ⟨rfl, f2, R2, M2, c2, v2, hK3⟩ := hcut
            obtain ⟨A5, c5, rfl⟩ := hK3.hP.hR.form
            have hM2 : M2.length ≤ 64 := Nat.le_trans hK3.hA.hQ.hL hn64
            have HN : Hid (∀ u ∈ M2, nodeB u.d = true) := hidd (fun u hu => right_node (hK3.hR u hu))
            have s1 : wc.cell? ⟨y, 1, none⟩ = some (.pointer (some ⟨z, 0, none⟩)) := hK3.hP.y1
            have s2 : wc.cell? ⟨z, 1, none⟩ = some (.slice A5 M2.length c5) := cell_of_heap hK3.hP.hR.hy 1
            have s3 : wc.cell? ⟨y, 2, none⟩ = some (.int .i64 c2.c1) := cell_of_heap hK3.hP.hy 2
            have s4 : wc.cell? ⟨y, 3, none⟩ = some (.int .i64 c2.c2) := cell_of_heap hK3.hP.hy 3
            have s5 : wc.cell? ⟨y, 4, none⟩ = some (.int .i64 c2.c3) := cell_of_heap hK3.hP.hy 4
            have s6 : wc.cell? ⟨y, 5, none⟩ = some (.int .i64 c2.c4) := cell_of_heap hK3.hP.hy 5
            have s7 : wc.cell? ⟨y, 6, none⟩ = some (.int .i64 c2.c5) := cell_of_heap hK3.hP.hy 6
            have HK3 := hidd hK3
            have HX : Hid (Below wc.heap.size wc wc) := hidd (Below.refl _ _)
            clear hK3
            go_wp2_with fail
            go_region_held3 (fun w' => w'.cell? ⟨y, 1, none⟩ = some (.pointer (some ⟨z, 0, none⟩)) ∧ w'.cell? ⟨z, 1, none⟩ = some (.slice A5 M2.length c5) ∧ w'.cell? ⟨y, 2, none⟩ = some (.int .i64 c2.c1) ∧ w'.cell? ⟨y, 3, none⟩ = some (.int .i64 c2.c2) ∧ w'.cell? ⟨y, 4, none⟩ = some (.int .i64 c2.c3) ∧ w'.cell? ⟨y, 5, none⟩ = some (.int .i64 c2.c4) ∧ w'.cell? ⟨y, 6, none⟩ = some (.int .i64 c2.c5)) (refine ⟨?_, ?_, ?_, ?_, ?_, ?_, ?_⟩ <;> (repeat (first | with_reducible assumption | (with_reducible refine drew_cell ?_) | (with_reducible refine drewN_cell ?_) | (with_reducible refine alloc_cell ?_))))
              (first
                | (go_at_call 36; refine (c36 (HK3.out.hA.below (by repeat (first | exact HX.out | refine Below.drewN ?_ _ | refine Below.drew ?_)))).mono ?_; rintro e wa ⟨va, rfl, hoa, hba⟩; (have HX := hidd (Bl_then (w := wc) (by repeat (first | exact HX.out | refine Below.drewN ?_ _ | refine Below.drew ?_)) hba)); (have HOA := hidd hoa.rd); (have rp := (HK3.out.hP.below HX.out)); (have s1 : wa.cell? ⟨y, 1, none⟩ = some (.pointer (some ⟨z, 0, none⟩)) := cell_of_heap rp.hy 1); (have s2 : wa.cell? ⟨z, 1, none⟩ = some (.slice A5 M2.length c5) := cell_of_heap rp.hR.hy 1); (have s3 : wa.cell? ⟨y, 2, none⟩ = some (.int .i64 c2.c1) := cell_of_heap rp.hy 2); (have s4 : wa.cell? ⟨y, 3, none⟩ = some (.int .i64 c2.c2) := cell_of_heap rp.hy 3); (have s5 : wa.cell? ⟨y, 4, none⟩ = some (.int .i64 c2.c3) := cell_of_heap rp.hy 4); (have s6 : wa.cell? ⟨y, 5, none⟩ = some (.int .i64 c2.c4) := cell_of_heap rp.hy 5); (have s7 : wa.cell? ⟨y, 6, none⟩ = some (.int .i64 c2.c5) := cell_of_heap rp.hy 6); clear rp; clear hoa hba)
                | (go_at_call 24; refine (c24 HOA.out (HK3.out.hP.below HX.out).hR.ho.rd (by omega)).mono ?_; rintro e wb ⟨rfl, nqb, rfl⟩)
                | (go_at_call 39; refine (c39 (HK3.out.hA.below (by repeat (first | exact HX.out | refine Below.drewN ?_ _ | refine Below.drew ?_))) HN.out).mono ?_; rintro e wa ⟨vd, rfl, hod, hba⟩; (have HX := hidd (Bl_then (w := wc) (by repeat (first | exact HX.out | refine Below.drewN ?_ _ | refine Below.drew ?_)) hba)); (have HOD := hidd hod); (have rp := (HK3.out.hP.below HX.out)); (have s1 : wa.cell? ⟨y, 1, none⟩ = some (.pointer (some ⟨z, 0, none⟩)) := cell_of_heap rp.hy 1); (have s2 : wa.cell? ⟨z, 1, none⟩ = some (.slice A5 M2.length c5) := cell_of_heap rp.hR.hy 1); (have s3 : wa.cell? ⟨y, 2, none⟩ = some (.int .i64 c2.c1) := cell_of_heap rp.hy 2); (have s4 : wa.cell? ⟨y, 3, none⟩ = some (.int .i64 c2.c2) := cell_of_heap rp.hy 3); (have s5 : wa.cell? ⟨y, 4, none⟩ = some (.int .i64 c2.c3) := cell_of_heap rp.hy 4); (have s6 : wa.cell? ⟨y, 5, none⟩ = some (.int .i64 c2.c4) := cell_of_heap rp.hy 5); (have s7 : wa.cell? ⟨y, 6, none⟩ = some (.int .i64 c2.c5) := cell_of_heap rp.hy 6); clear rp; clear hod hba)
                | (go_at_call 45; refine (c45 (HK3.out.hP.below (by repeat (first | exact HX.out | refine Below.drewN ?_ _ | refine Below.drew ?_))) hM2).mono ?_; rintro e wa ⟨ve, rfl, hoe, hba⟩; (have HX := hidd (Bl_then (w := wc) (by repeat (first | exact HX.out | refine Below.drewN ?_ _ | refine Below.drew ?_)) hba)); (have HOE := hidd hoe.rd); (have HOD := hidd (HOD.out.below hba)); (have rp := (HK3.out.hP.below HX.out)); (have s1 : wa.cell? ⟨y, 1, none⟩ = some (.pointer (some ⟨z, 0, none⟩)) := cell_of_heap rp.hy 1); (have s2 : wa.cell? ⟨z, 1, none⟩ = some (.slice A5 M2.length c5) := cell_of_heap rp.hR.hy 1); (have s3 : wa.cell? ⟨y, 2, none⟩ = some (.int .i64 c2.c1) := cell_of_heap rp.hy 2); (have s4 : wa.cell? ⟨y, 3, none⟩ = some (.int .i64 c2.c2) := cell_of_heap rp.hy 3); (have s5 : wa.cell? ⟨y, 4, none⟩ = some (.int .i64 c2.c3) := cell_of_heap rp.hy 4); (have s6 : wa.cell? ⟨y, 5, none⟩ = some (.int .i64 c2.c4) := cell_of_heap rp.hy 5); (have s7 : wa.cell? ⟨y, 6, none⟩ = some (.int .i64 c2.c5) := cell_of_heap rp.hy 6); clear rp; clear hoe hba)
                | (go_at_call 44; refine (c44 HOD.out HOE.out (Nat.le_trans (dstB_len M2 64) (by omega)) rfl).mono ?_; rintro e wb ⟨rfl, nqd, rfl⟩)
                | (go_at_call 38; refine (c38 (HK3.out.hA.below (by repeat (first | exact HX.out | refine Below.drewN ?_ _ | refine Below.drew ?_)))).mono ?_; rintro e wa ⟨rfl, hba⟩; (have HX := hidd (Bl_then (w := wc) (by repeat (first | exact HX.out | refine Below.drewN ?_ _ | refine Below.drew ?_)) hba)); (have rp := (HK3.out.hP.below HX.out)); (have s1 : wa.cell? ⟨y, 1, none⟩ = some (.pointer (some ⟨z, 0, none⟩)) := cell_of_heap rp.hy 1); (have s2 : wa.cell? ⟨z, 1, none⟩ = some (.slice A5 M2.length c5) := cell_of_heap rp.hR.hy 1); (have s3 : wa.cell? ⟨y, 2, none⟩ = some (.int .i64 c2.c1) := cell_of_heap rp.hy 2); (have s4 : wa.cell? ⟨y, 3, none⟩ = some (.int .i64 c2.c2) := cell_of_heap rp.hy 3); (have s5 : wa.cell? ⟨y, 4, none⟩ = some (.int .i64 c2.c3) := cell_of_heap rp.hy 4); (have s6 : wa.cell? ⟨y, 5, none⟩ = some (.int .i64 c2.c4) := cell_of_heap rp.hy 5); (have s7 : wa.cell? ⟨y, 6, none⟩ = some (.int .i64 c2.c5) := cell_of_heap rp.hy 6); clear rp; clear hba))
            go_wp2
            go_roundw
            case rel => exact ⟨k + 1, _, _, _, _, _, by omega, by go_num, HK3.out.below HX.out⟩
            case measure => simp [intOf]; omega
        · obtain rfl : k = L.length := by omega
          have HB := hidd hKP.hB
          clear hKP
          go_wp2_with (go_at_call 16; refine (c16 _).mono ?_; rintro e w9 ⟨rfl, hb9⟩)
          go_ret
          exact ⟨rfl, Bl_then HB.out hb9⟩
end Go.Proofs.Ytnlcibobhmcfpaa
