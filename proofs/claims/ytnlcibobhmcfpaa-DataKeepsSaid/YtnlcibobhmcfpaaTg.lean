/- The walk of the statement DataKeeps. -/
import Derived.Test.YtnlcibobhmcfpaaTe
import Derived.Test.YtnlcibobhmcfpaaTf
import Derived.Deep.DeepCutAuto
set_option linter.unusedSimpArgs false
set_option linter.unusedVariables false
namespace Go.Proofs.Ytnlcibobhmcfpaa
open Go.RowKit
attribute [local go_sem ↓] Go.wp_at_zero Go.wp_at_succ
theorem dec_open {p : Pk} {me next : Int} (h : p.right = true) (hme : nodeB me = true) (h1 : (p.d == me) = false) (hn : nodeB next = true) (hn1 : (next == me) = false) :
    decP p me next true = bif p.t == 0 then ⟨4, 0, p.s, p.d, p.t, p.n, p.x, 0⟩ else ⟨2, next, p.s, p.d, p.t - 1, p.n, p.x, 0⟩ := by
  unfold Pk.right at h
  simp [decP, decide22, h, h1, hn, hn1, hme]
/-- What holds between the calls: T taken, G gone. -/
structure KeepAt (w : World) (x q r n : Nat) (me : Int) (m : Nat) (wr : World) (f : Nat) (R M : List Pk) (c : Cn) (T G : Nat) : Prop where
  hA : PAt wr x q r n f R M me c
  hle : c.le m
  hT : T = G + M.length
  hG : c.c1 + c.c2 + c.c4 + c.c5 = G
  hW : M.length ≤ c.c3
  hR : ∀ p ∈ M, p.right = true
  hB : Below w.heap.size w wr
theorem open_counts (S : List Pk) (me next : Int) (hme : nodeB me = true) (hn : nodeB next = true) (hn1 : (next == me) = false) (hS : ∀ p ∈ S, p.right = true ∧ (p.d == me) = false) (c : Cn) :
    (c.adds (dvs me next S)).c1 = c.c1 ∧ (c.adds (dvs me next S)).c3 = c.c3 ∧ (c.adds (dvs me next S)).c5 = c.c5 ∧ (c.adds (dvs me next S)).c2 + (c.adds (dvs me next S)).c4 = c.c2 + c.c4 + S.length := by
  induction S generalizing c with
  | nil => exact ⟨rfl, rfl, rfl, rfl⟩
  | cons p S ih =>
    obtain ⟨h1, h2⟩ := hS p List.mem_cons_self
    have hd := dec_open h1 hme h2 hn hn1
    have e : c.adds (dvs me next (p :: S)) = (c.inc (decP p me next true).kind).adds (dvs me next S) := rfl
    obtain ⟨i1, i2, i3, i4⟩ := ih (fun u hu => hS u (List.mem_cons_of_mem _ hu)) (c.inc (decP p me next true).kind)
    rw [e, i1, i2, i3, i4, hd]
    cases p.t == 0 <;> simp [Cn.inc] <;> omega
theorem keep_open {w wr w3 : World} {x q r n m f f3 T G : Nat} {me d nx : Int} {R M R3 : List Pk} {c : Cn} (h : KeepAt w x q r n me m wr f R M c T G) (hme : nodeB me = true) (hd : (d == me) = false) (hn : nodeB nx = true) (hn1 : (nx == me) = false)
    (hA : PAt w3 x q r n f3 R3 (others M d) me (c.adds (dvs me nx (mine M d)))) (hB : Below w.heap.size w w3) : KeepAt w x q r n me (m + 65) w3 f3 R3 (others M d) (c.adds (dvs me nx (mine M d))) T (G + (mine M d).length) := by
  have hs := mine_split M d
  obtain ⟨e1, e2, e3, e4⟩ := open_counts (mine M d) me nx hme hn hn1 (fun p hp => ⟨h.hR p (mine_mem hp).1, by rw [(mine_mem hp).2]; exact hd⟩) c
  have h1 := h.hT
  have h2 := h.hG
  have h3 := h.hW
  have h4 : M.length ≤ 64 := Nat.le_trans h.hA.hQ.hL h.hA.hQ.n64
  have h5 := mine_le M d
  refine ⟨hA, Cn.le_mono (Cn.adds_le h.hle _) (by simp [dvs]; omega), by omega, by omega, by omega, fun p hp => h.hR p ?_, hB⟩
  unfold others at hp
  exact (List.mem_filter.1 hp).1
theorem keep_none {w wr w3 : World} {x q r n m f f3 T G : Nat} {me : Int} {R M R3 : List Pk} {c : Cn} (h : KeepAt w x q r n me m wr f R M c T G) (hA : PAt w3 x q r n f3 R3 M me c) (hB : Below w.heap.size w w3) : KeepAt w x q r n me (m + 65) w3 f3 R3 M c T G :=
  ⟨hA, Cn.le_mono h.hle (by omega), h.hT, h.hG, h.hW, h.hR, hB⟩
theorem keep_wait {w wr w3 : World} {x q r n m f f3 T G : Nat} {me : Int} {R M R3 : List Pk} {c : Cn} (h : KeepAt w x q r n me m wr f R M c T G) {p : Pk} (hp : p.right = true) (hA : PAt w3 x q r n f3 R3 (M ++ [p]) me (c.inc 3)) (hB : Below w.heap.size w w3) : KeepAt w x q r n me (m + 65) w3 f3 R3 (M ++ [p]) (c.inc 3) (T + 1) G := by
  have h1 := h.hT
  have h2 := h.hG
  have h3 := h.hW
  refine ⟨hA, Cn.le_mono (Cn.le_inc h.hle 3) (by omega), by simp; omega, by simpa [Cn.inc] using h2, by simp [Cn.inc]; omega, fun u hu => ?_, hB⟩
  rcases List.mem_append.1 hu with h4 | h4
  · exact h.hR u h4
  · simp at h4; rw [h4]; exact hp
theorem keep_gone {w wr w3 : World} {x q r n m f f3 T G : Nat} {me : Int} {R M R3 : List Pk} {c : Cn} {k : Nat} (h : KeepAt w x q r n me m wr f R M c T G) (hk : k < 6) (h3 : k ≠ 3) (h0 : k ≠ 0) (_ : True ∨ k = 0) (hA : PAt w3 x q r n f3 R3 M me (c.inc k)) (hB : Below w.heap.size w w3) : KeepAt w x q r n me (m + 65) w3 f3 R3 M (c.inc k) (T + 1) (G + 1) := by
  have h1 := h.hT
  have h2 := h.hG
  have h4 := h.hW
  refine ⟨hA, Cn.le_mono (Cn.le_inc h.hle k) (by omega), by omega, ?_, ?_, h.hR, hB⟩
  · match k, hk with
    | 0, _ => omega
    | 1, _ => simp [Cn.inc]; omega
    | 2, _ => simp [Cn.inc]; omega
    | 3, _ => omega
    | 4, _ => simp [Cn.inc]; omega
    | 5, _ => simp [Cn.inc]; omega
  · match k, hk with
    | 0, _ => omega
    | 1, _ => simpa [Cn.inc] using h4
    | 2, _ => simpa [Cn.inc] using h4
    | 3, _ => omega
    | 4, _ => simpa [Cn.inc] using h4
    | 5, _ => simpa [Cn.inc] using h4
set_option maxRecDepth 100000 in
set_option maxHeartbeats 4000000 in
theorem c11 (me m : Int) (v : Value) (L : List (List Value)) (w : World) (hv : RdEl w 9 v L) (hg : ∀ p ∈ L, GoodOp2 p) :
    Calls Try.prog 11 #[.int .i64 me, .int .i64 m, v] w fun e w' => e = .returned (.bool true) ∧ Below w.heap.size w w' := by
  have HV := hidd hv
  obtain ⟨A, c, rfl, hrd⟩ := hv
  have HR := hidd hrd
  have HG := hidd hg
  clear hrd hg
  by_cases hbad : m < 1 ∨ 64 < m ∨ nodeB me = false
  · go_enter Try.func11, Try.ntmps11
    go_wp2_with (first
      | (go_at_call 33; refine (c33b _ _ _ hbad).mono ?_; rintro e w1 ⟨rfl, hb1⟩)
      | (go_at_call 16; refine (c16 _).mono ?_; rintro e w2 ⟨rfl, hb2⟩))
    go_ret
    exact ⟨rfl, Bl_then hb1 hb2⟩
  · have hme : nodeB me = true := by
      cases h : nodeB me with
      | true => rfl
      | false => exact absurd (.inr (.inr h)) hbad
    obtain ⟨n, rfl⟩ : ∃ n : Nat, m = n := ⟨m.toNat, by omega⟩
    have hn1 : 1 ≤ n := by omega
    have hn64 : n ≤ 64 := by omega
    have HME := hidd hme
    clear hbad hme
    go_enter Try.func11, Try.ntmps11
    go_wp2_with fail
    refine (c33g me n _ hn1 hn64 HME.out).mono ?_
    rintro e w1 ⟨x, q, r, rfl, hA1, hx, hq1, hr, hB1⟩
    obtain ⟨lx1, lq1, lr1⟩ := hA1.lt
    have HA1 := hidd hA1
    have HB1 := hidd hB1
    clear hA1 hB1
    go_wp2_with fail
    refine (c37 (show RdEl w1 9 (.slice A L.length c) L from ?_) HG.out).mono ?_
    · refine ⟨A, c, rfl, ?_⟩
      rcases HR.out with h0 | ⟨b, o, rfl, hbl, hc⟩
      · exact .inl h0
      · exact .inr ⟨b, o, rfl, Nat.lt_of_lt_of_le hbl HB1.out.size, fun k cs hk j u hj => (HB1.out.cell (p := ⟨b, o + k * 9 + j, none⟩) hbl).trans (hc k cs hk j u hj)⟩
    rintro e w' ⟨bb, rfl, rfl, hfew⟩
    cases bb with
    | false =>
      go_wp2_with (go_at_call 16; refine (c16 _).mono ?_; rintro e w2 ⟨rfl, hb2⟩)
      go_ret
      exact ⟨rfl, Bl_then HB1.out hb2⟩
    | true =>
      have hl : L.length ≤ 120 := hfew rfl
      clear hfew HV
      go_wp2
      go_loopw [9, 10, 11] (fun tv gv i wr => ∃ (k f : Nat) (R M : List Pk) (c : Cn) (T G : Nat), k ≤ L.length ∧ T ≤ k ∧ tv = .int .i64 T ∧ gv = .int .i64 G ∧ i = .int .i64 k ∧ KeepAt w x q r n me (65 * k) wr f R M c T G) (fun _ _ i _ => L.length - (intOf i).toNat)
      case atStart => exact ⟨0, 0, _, [], Cn.zero, 0, 0, Nat.zero_le _, Nat.le_refl _, rfl, rfl, rfl, HA1.out, by constructor <;> decide, rfl, rfl, Nat.le_refl _, by simp, HB1.out⟩
      case round =>
        obtain ⟨k, f, R, M, c', T, G, hk, hTk, rfl, rfl, rfl, hKP⟩ := hrel
        obtain ⟨wo, rfl⟩ : ∃ wo : World, wo = wr := ⟨_, rfl⟩
        by_cases hlt : k < L.length
        · obtain ⟨cs, hp⟩ : ∃ cs, L[k]? = some cs := ⟨_, List.getElem?_eq_getElem hlt⟩
          obtain ⟨op, p, d, nx, ok, rfl⟩ := HG.out cs (List.mem_of_getElem? hp)
          obtain ⟨b, o, rfl, hbl, hcells⟩ : ∃ b o, A = some ⟨b, o, none⟩ ∧ b < w.heap.size ∧ ∀ k cs, L[k]? = some cs → ∀ j u, cs[j]? = some u → w.cell? ⟨b, o + k * 9 + j, none⟩ = some u := by
            rcases HR.out with h0 | h0
            · rw [h0] at hlt; exact absurd hlt (by simp)
            · exact h0
          have hB := hKP.hB
          have e0 : wo.cell? ⟨b, o + k * 9, none⟩ = some (.bool op) := (hB.cell (p := ⟨b, o + k * 9 + 0, none⟩) hbl).trans (hcells k _ hp 0 _ rfl)
          have e1 : wo.cell? ⟨b, o + k * 9 + 1, none⟩ = some (.int .i64 p.s) := (hB.cell (p := ⟨b, o + k * 9 + 1, none⟩) hbl).trans (hcells k _ hp 1 _ rfl)
          have e2 : wo.cell? ⟨b, o + k * 9 + 2, none⟩ = some (.int .i64 p.d) := (hB.cell (p := ⟨b, o + k * 9 + 2, none⟩) hbl).trans (hcells k _ hp 2 _ rfl)
          have e3 : wo.cell? ⟨b, o + k * 9 + 3, none⟩ = some (.int .i64 p.t) := (hB.cell (p := ⟨b, o + k * 9 + 3, none⟩) hbl).trans (hcells k _ hp 3 _ rfl)
          have e4 : wo.cell? ⟨b, o + k * 9 + 4, none⟩ = some (.int .i64 p.n) := (hB.cell (p := ⟨b, o + k * 9 + 4, none⟩) hbl).trans (hcells k _ hp 4 _ rfl)
          have e5 : wo.cell? ⟨b, o + k * 9 + 5, none⟩ = some (.string p.x) := (hB.cell (p := ⟨b, o + k * 9 + 5, none⟩) hbl).trans (hcells k _ hp 5 _ rfl)
          have e6 : wo.cell? ⟨b, o + k * 9 + 6, none⟩ = some (.int .i64 d) := (hB.cell (p := ⟨b, o + k * 9 + 6, none⟩) hbl).trans (hcells k _ hp 6 _ rfl)
          have e7 : wo.cell? ⟨b, o + k * 9 + 7, none⟩ = some (.int .i64 nx) := (hB.cell (p := ⟨b, o + k * 9 + 7, none⟩) hbl).trans (hcells k _ hp 7 _ rfl)
          have e8 : wo.cell? ⟨b, o + k * 9 + 8, none⟩ = some (.bool ok) := (hB.cell (p := ⟨b, o + k * 9 + 8, none⟩) hbl).trans (hcells k _ hp 8 _ rfl)
          have HKP := hidd hKP
          have hcl : c'.le (65 * k) := hKP.hle
          have hGT : G ≤ T := by have := hKP.hT; omega
          have lbw : b < wo.heap.size := by have := hB.size; omega
          clear hcells hp hKP hB
          go_upto_if 48 with fail
          generalize hw2 : World.alloc wo _ = w2
          have HT : Hid (w2.heap[wo.heap.size]? = some (.cells #[.bool op, .int .i64 p.s, .int .i64 p.d, .int .i64 p.t, .int .i64 p.n, .string p.x, .int .i64 d, .int .i64 nx, .bool ok] 65 (0, 0))) := hidd (hw2 ▸ heap_new wo _)
          have HK2 : Hid (KeepAt w x q r n me (65 * k) w2 f R M c' T G) := hidd (hw2 ▸ ⟨HKP.out.hA.below (Bl_alloc (Below.refl _ _) _), HKP.out.hle, HKP.out.hT, HKP.out.hG, HKP.out.hW, HKP.out.hR, Bl_alloc HKP.out.hB _⟩)
          have o0 : w2.cell? ⟨wo.heap.size, 0, none⟩ = some (.bool op) := cell_of_heap HT.out 0
          have o1 : w2.cell? ⟨wo.heap.size, 1, none⟩ = some (.int .i64 p.s) := cell_of_heap HT.out 1
          have o2 : w2.cell? ⟨wo.heap.size, 2, none⟩ = some (.int .i64 p.d) := cell_of_heap HT.out 2
          have o3 : w2.cell? ⟨wo.heap.size, 3, none⟩ = some (.int .i64 p.t) := cell_of_heap HT.out 3
          have o4 : w2.cell? ⟨wo.heap.size, 4, none⟩ = some (.int .i64 p.n) := cell_of_heap HT.out 4
          have o5 : w2.cell? ⟨wo.heap.size, 5, none⟩ = some (.string p.x) := cell_of_heap HT.out 5
          have o6 : w2.cell? ⟨wo.heap.size, 6, none⟩ = some (.int .i64 d) := cell_of_heap HT.out 6
          have o7 : w2.cell? ⟨wo.heap.size, 7, none⟩ = some (.int .i64 nx) := cell_of_heap HT.out 7
          have o8 : w2.cell? ⟨wo.heap.size, 8, none⟩ = some (.bool ok) := cell_of_heap HT.out 8
          have lt2 : wo.heap.size < w2.heap.size := (Array.getElem?_eq_some_iff.1 HT.out).1
          clear hw2 e0 e1 e2 e3 e4 e5 e6 e7 e8
          go_cut [9, 10] (fun tv gv wx => ∃ (f : Nat) (R M : List Pk) (c : Cn) (T G : Nat), T ≤ k + 1 ∧ tv = .int .i64 T ∧ gv = .int .i64 G ∧ KeepAt w x q r n me (65 * (k + 1)) wx f R M c T G)
          case first =>
            cases op with
            | true =>
              cases hvd : nodeB d && nodeB nx && !(d == me) && !(nx == me) with
              | false =>
                have hbd : nodeB d = false ∨ nodeB nx = false ∨ d = me ∨ nx = me := by
                  simp only [Bool.and_eq_false_iff, Bool.not_eq_false'] at hvd
                  rcases hvd with ((h | h) | h) | h
                  · exact .inl h
                  · exact .inr (.inl h)
                  · exact .inr (.inr (.inl (by simpa using h)))
                  · exact .inr (.inr (.inr (by simpa using h)))
                clear hvd
                go_wp2_with (go_at_call 35; refine (c35b HK2.out.hA _ _ hbd).mono ?_; rintro e w3 ⟨rfl, rfl⟩)
                refine wp_loop_rounds 1 ?_; rw [rounds_succ]
                go_wp2
                go_meet
                exact ⟨_, _, _, _, _, _, by omega, rfl, rfl, ⟨HK2.out.hA, Cn.le_mono HK2.out.hle (by omega), HK2.out.hT, HK2.out.hG, HK2.out.hW, HK2.out.hR, HK2.out.hB⟩⟩
              | true =>
                simp only [Bool.and_eq_true, Bool.not_eq_true'] at hvd
                obtain ⟨⟨⟨hv1, hv2⟩, hv3⟩, hv4⟩ := hvd
                have HV1 := hidd hv1
                have HV2 := hidd hv2
                have HV3 := hidd hv3
                have HV4 := hidd hv4
                clear hv1 hv2 hv3 hv4
                go_wp2_with fail
                refine (c35g HK2.out.hA HK2.out.hle (by omega) d nx HV1.out HV2.out HV3.out HV4.out).mono ?_
                rintro e w3 ⟨v3, rfl, ho3, ⟨f3, R3, hA3⟩, hK3⟩
                have hB3 : Below w.heap.size w w3 := Bl_keepsP HK2.out.hB hK3 hx hq1 hr
                have HK4 := hidd (keep_open HK2.out HME.out HV3.out HV2.out HV4.out hA3 hB3)
                have HT3 := hidd (hK3.heapAt HT.out (by have := hB3.size; have := HKP.out.hA.lt; rintro (h | h | h) <;> omega))
                have hS : ∀ u ∈ mine M d, u.right = true ∧ u.d = d := fun u hu => ⟨HK2.out.hR u (mine_mem hu).1, (mine_mem hu).2⟩
                have hml := mine_le M d
                have hM64 : M.length ≤ 64 := Nat.le_trans HK2.out.hA.hQ.hL HK2.out.hA.hQ.n64
                have hrd3 := ho3.rd
                obtain ⟨A3, c3, rfl, hr3⟩ := hrd3
                rw [show (dvs me nx (mine M d)).length = (mine M d).length by simp [dvs]] at *
                have HR3 := hidd hr3
                have HS := hidd hS
                generalize c'.adds (dvs me nx (mine M d)) = c4 at HK4
                generalize mine M d = S at *
                have o36 : w3.cell? ⟨wo.heap.size, 6, none⟩ = some (.int .i64 d) := cell_of_heap HT3.out 6
                have lt3 : wo.heap.size < w3.heap.size := (Array.getElem?_eq_some_iff.1 HT3.out).1
                clear ho3 hA3 hK3 hB3 hr3 hS o0 o1 o2 o3 o4 o5 o6 o7 o8
                go_wp2
                go_loopw [15] (fun i wx => ∃ j : Nat, j ≤ S.length ∧ i = .int .i64 j ∧ Below w3.heap.size w3 wx) (fun i _ => S.length - (intOf i).toNat)
                case atStart => exact ⟨0, Nat.zero_le _, rfl, Below.refl _ _⟩
                case round =>
                  obtain ⟨j, hj, rfl, hb⟩ := hrel
                  obtain ⟨wx, rfl⟩ : ∃ wx : World, wx = wr := ⟨_, rfl⟩
                  by_cases hjl : j < S.length
                  · obtain ⟨p2, hp2⟩ : ∃ p, S[j]? = some p := ⟨_, List.getElem?_eq_getElem hjl⟩
                    obtain ⟨hpr, hpd⟩ := HS.out p2 (List.mem_of_getElem? hp2)
                    obtain ⟨b3, o3, rfl, hbl3, hc3⟩ : ∃ b o, A3 = some ⟨b, o, none⟩ ∧ b < w3.heap.size ∧ ∀ k p, (dvs me nx S)[k]? = some p → VdHere w3 b (o + k * 7) p := by
                      rcases HR3.out with h0 | h0
                      · have := congrArg List.length h0; simp [dvs] at this; rw [this] at hjl; exact absurd hjl (by simp)
                      · exact h0
                    have g6 : wx.cell? ⟨wo.heap.size, 6, none⟩ = some (.int .i64 d) := (hb.cell (p := ⟨wo.heap.size, 6, none⟩) lt3).trans o36
                    have j0 : (0 : Int) ≤ j := by omega
                    have j1 : (j : Int) < S.length := by omega
                    have hu := dec_open hpr HME.out (by rw [hpd]; exact HV3.out) HV2.out HV4.out
                    have hV := (hc3 j (decP p2 me nx true) (by simp [dvs, hp2])).keeps (Keeps.below (S := fun _ => False) hb) hbl3 (fun x => x)
                    rw [hu, hpd] at hV
                    have HBx := hidd hb
                    clear hu hb hc3 hp2 hpr hpd
                    cases ht : p2.t == 0 with
                    | true =>
                      rw [ht] at hV
                      have f0 : wx.cell? ⟨b3, o3 + j * 7, none⟩ = some (.int .i64 4) := hV.1
                      have f3' : wx.cell? ⟨b3, o3 + j * 7 + 2 + 1, none⟩ = some (.int .i64 d) := hV.2.2.2.1
                      have f3'' : wx.cell? ⟨b3, o3 + j * 7 + 3, none⟩ = some (.int .i64 d) := hV.2.2.2.1
                      clear hV ht
                      go_wp2_with fail
                      go_quiet (fail)
                      go_wp2
                      go_roundw
                      case rel => exact ⟨j + 1, by omega, by go_num, HBx.out.drewN _⟩
                      case measure => simp [intOf]; omega
                    | false =>
                      rw [ht] at hV
                      have f0 : wx.cell? ⟨b3, o3 + j * 7, none⟩ = some (.int .i64 2) := hV.1
                      have f3' : wx.cell? ⟨b3, o3 + j * 7 + 2 + 1, none⟩ = some (.int .i64 d) := hV.2.2.2.1
                      have f3'' : wx.cell? ⟨b3, o3 + j * 7 + 3, none⟩ = some (.int .i64 d) := hV.2.2.2.1
                      clear hV ht
                      go_wp2_with fail
                      go_quiet (fail)
                      go_wp2
                      go_roundw
                      case rel => exact ⟨j + 1, by omega, by go_num, HBx.out.drewN _⟩
                      case measure => simp [intOf]; omega
                  · have HBx := hidd hb
                    clear hb
                    go_wp2
                    go_meet
                    exact ⟨_, _, _, _, _, _, by omega, rfl, by go_num, ⟨HK4.out.hA.below HBx.out, Cn.le_mono HK4.out.hle (by omega), HK4.out.hT, HK4.out.hG, HK4.out.hW, HK4.out.hR, HK4.out.hB.trans (HBx.out.mono HK4.out.hB.size)⟩⟩
            | false =>
              rcases dec_cases p.s p.d p.t p.n p.x me nx ok with hv | ⟨hr3, hv⟩ | ⟨kk, tt, t', hk6, hk3, _, hk0, hr3, hv⟩
              · have hq := take_none (p := p) (me := me) (next := nx) (ok := ok) n M c' hv
                clear hv
                have HT2 : Hid (takeV n M p me nx ok = ⟨0, 0, 0, 0, 0, 0, ⟨#[]⟩, 1⟩ ∧ takeL n M p me nx ok = M ∧ takeC c' n M p me nx ok = c') := hidd hq
                clear hq
                go_wp2_with fail
                refine (c34 HK2.out.hA HK2.out.hle (by omega) p nx ok).mono ?_
                rw [HT2.out.1, HT2.out.2.1, HT2.out.2.2]
                rintro e w3 ⟨rfl, ⟨R3, hA3⟩, hK3⟩
                have hA4 := hA3.below (Bl_alloc (Below.refl _ _) (.cells #[.int .i64 0, .int .i64 0, .int .i64 0, .int .i64 0, .int .i64 0, .int .i64 0, .string ⟨#[]⟩] 25))
                have hB4 : Below w.heap.size w _ := Bl_keepsP HK2.out.hB (hK3.alloc (.cells #[.int .i64 0, .int .i64 0, .int .i64 0, .int .i64 0, .int .i64 0, .int .i64 0, .string ⟨#[]⟩] 25)) hx hq1 hr
                have HK4 := hidd (keep_none HK2.out hA4 hB4)
                clear hA3 hK3 hA4 hB4
                unfold Ver.val
                go_wp2
                go_meet
                exact ⟨_, _, _, _, _, _, by omega, rfl, rfl, HK4.out⟩
              · have hr3' : p.right = true := hr3
                rcases Nat.lt_or_ge M.length n with hl' | hl'
                · have hq := take_wait (p := p) (me := me) (next := nx) (ok := ok) c' hv hl'
                  clear hv
                  have HT2 : Hid (takeV n M p me nx ok = ⟨3, 0, p.s, p.d, p.t, p.n, p.x, 0⟩ ∧ takeL n M p me nx ok = M ++ [p] ∧ takeC c' n M p me nx ok = c'.inc 3) := hidd hq
                  clear hq
                  go_wp2_with fail
                  refine (c34 HK2.out.hA HK2.out.hle (by omega) p nx ok).mono ?_
                  rw [HT2.out.1, HT2.out.2.1, HT2.out.2.2]
                  rintro e w3 ⟨rfl, ⟨R3, hA3⟩, hK3⟩
                  have hA4 := hA3.below (Bl_alloc (Below.refl _ _) (.cells #[.int .i64 3, .int .i64 0, .int .i64 p.s, .int .i64 p.d, .int .i64 p.t, .int .i64 p.n, .string p.x] 25))
                  have hB4 : Below w.heap.size w _ := Bl_keepsP HK2.out.hB (hK3.alloc (.cells #[.int .i64 3, .int .i64 0, .int .i64 p.s, .int .i64 p.d, .int .i64 p.t, .int .i64 p.n, .string p.x] 25)) hx hq1 hr
                  have HK4 := hidd (keep_wait HK2.out hr3' hA4 hB4)
                  clear hA3 hK3 hA4 hB4
                  unfold Ver.val
                  go_wp2
                  go_meet
                  exact ⟨_, _, _, _, _, _, by omega, by go_num, rfl, HK4.out⟩
                · have hl2 : M.length = n := by have := HK2.out.hA.hQ.hL; omega
                  have hq := take_full (p := p) (me := me) (next := nx) (ok := ok) c' hv hl2
                  clear hv
                  have HT2 : Hid (takeV n M p me nx ok = ⟨5, 0, p.s, p.d, p.t, p.n, p.x, 0⟩ ∧ takeL n M p me nx ok = M ∧ takeC c' n M p me nx ok = c'.inc 5) := hidd hq
                  clear hq
                  go_wp2_with fail
                  refine (c34 HK2.out.hA HK2.out.hle (by omega) p nx ok).mono ?_
                  rw [HT2.out.1, HT2.out.2.1, HT2.out.2.2]
                  rintro e w3 ⟨rfl, ⟨R3, hA3⟩, hK3⟩
                  have hA4 := hA3.below (Bl_alloc (Below.refl _ _) (.cells #[.int .i64 5, .int .i64 0, .int .i64 p.s, .int .i64 p.d, .int .i64 p.t, .int .i64 p.n, .string p.x] 25))
                  have hB4 : Below w.heap.size w _ := Bl_keepsP HK2.out.hB (hK3.alloc (.cells #[.int .i64 5, .int .i64 0, .int .i64 p.s, .int .i64 p.d, .int .i64 p.t, .int .i64 p.n, .string p.x] 25)) hx hq1 hr
                  have HK4 := hidd (keep_gone (k := 5) HK2.out (by omega) (by omega) (by omega) (.inl trivial) hA4 hB4)
                  clear hA3 hK3 hA4 hB4
                  unfold Ver.val
                  go_wp2
                  go_meet
                  exact ⟨_, _, _, _, _, _, by omega, by go_num, by go_num, HK4.out⟩
              · have hq := take_other (p := p) (me := me) (next := nx) (ok := ok) n M c' hk3 hv
                have hkn : ((kk : Int) != 3) = true := by simp; omega
                clear hv
                have HT2 : Hid (takeV n M p me nx ok = ⟨kk, tt, p.s, p.d, t', p.n, p.x, 0⟩ ∧ takeL n M p me nx ok = M ∧ takeC c' n M p me nx ok = c'.inc kk) := hidd hq
                clear hq
                go_wp2_with fail
                refine (c34 HK2.out.hA HK2.out.hle (by omega) p nx ok).mono ?_
                rw [HT2.out.1, HT2.out.2.1, HT2.out.2.2]
                rintro e w3 ⟨rfl, ⟨R3, hA3⟩, hK3⟩
                have hA4 := hA3.below (Bl_alloc (Below.refl _ _) (.cells #[.int .i64 kk, .int .i64 tt, .int .i64 p.s, .int .i64 p.d, .int .i64 t', .int .i64 p.n, .string p.x] 25))
                have hB4 : Below w.heap.size w _ := Bl_keepsP HK2.out.hB (hK3.alloc (.cells #[.int .i64 kk, .int .i64 tt, .int .i64 p.s, .int .i64 p.d, .int .i64 t', .int .i64 p.n, .string p.x] 25)) hx hq1 hr
                have HK4 := hidd (keep_gone (k := kk) HK2.out hk6 hk3 hk0 (.inl trivial) hA4 hB4)
                clear hA3 hK3 hA4 hB4
                unfold Ver.val
                go_wp2
                go_meet
                exact ⟨_, _, _, _, _, _, by omega, by go_num, by go_num, HK4.out⟩
          case rest =>
            obtain ⟨f2, R2, M2, c2, T2, G2, hT2, rfl, rfl, hK3⟩ := hcut
            have hl1 : c2.c1 ≤ 10000 := by have := hK3.hle.l1; omega
            have hl2 : c2.c2 ≤ 10000 := by have := hK3.hle.l2; omega
            have hl3 : c2.c3 ≤ 10000 := by have := hK3.hle.l3; omega
            have hl4 : c2.c4 ≤ 10000 := by have := hK3.hle.l4; omega
            have hl5 : c2.c5 ≤ 10000 := by have := hK3.hle.l5; omega
            have hTT : T2 ≤ 200 := by omega
            have hGG : G2 ≤ T2 := by have := hK3.hT; omega
            have hnM := hK3.hA.hQ.hL
            have g1 : ((M2.length : Int) != (T2 : Int) - G2) = false := by have := hK3.hT; simp; omega
            have g2 : ((c2.c1 : Int) + c2.c2 + c2.c4 + c2.c5 != G2) = false := by have := hK3.hG; simp; omega
            have g3 : decide (c2.c3 < M2.length) = false := by have := hK3.hW; simp; omega
            have g4 : decide (n < M2.length) = false := by simp; omega
            have HK3 := hidd hK3
            clear hK3
            go_wp2_with fail
            refine (c38 HK3.out.hA).mono ?_
            rintro e w4 ⟨rfl, hb4⟩
            have HB4 := hidd hb4
            have hz4 := hb4.size
            clear hb4
            go_wp2_with fail
            generalize hw5 : World.alloc w4 _ = w5
            have HB5 : Hid (Below wc.heap.size wc w5) := hidd (hw5 ▸ Bl_alloc HB4.out _)
            have HC5 : Hid (w5.heap[w4.heap.size]? = some (.cells #[.int .i64 c2.c1, .int .i64 c2.c2, .int .i64 c2.c3, .int .i64 c2.c4, .int .i64 c2.c5] 67 (0, 0))) := hidd (hw5 ▸ heap_new w4 _)
            have q0 : w5.cell? ⟨w4.heap.size, 0, none⟩ = some (.int .i64 c2.c1) := cell_of_heap HC5.out 0
            have q1 : w5.cell? ⟨w4.heap.size, 1, none⟩ = some (.int .i64 c2.c2) := cell_of_heap HC5.out 1
            have q2 : w5.cell? ⟨w4.heap.size, 2, none⟩ = some (.int .i64 c2.c3) := cell_of_heap HC5.out 2
            have q3 : w5.cell? ⟨w4.heap.size, 3, none⟩ = some (.int .i64 c2.c4) := cell_of_heap HC5.out 3
            have q4 : w5.cell? ⟨w4.heap.size, 4, none⟩ = some (.int .i64 c2.c5) := cell_of_heap HC5.out 4
            have l45 : w4.heap.size < w5.heap.size := (Array.getElem?_eq_some_iff.1 HC5.out).1
            have HX : Hid (Below w5.heap.size w5 w5) := hidd (Below.refl _ _)
            clear hw5
            have s1 : IntKind.i64.wrap ((T2 : Int) - G2) = (T2 : Int) - G2 := IntWalk.i64_in _ (by omega)
            have s2 : IntKind.i64.wrap ((c2.c1 : Int) + c2.c2) = (c2.c1 : Int) + c2.c2 := IntWalk.i64_in _ (by omega)
            have s3 : IntKind.i64.wrap ((c2.c1 : Int) + c2.c2 + c2.c4) = (c2.c1 : Int) + c2.c2 + c2.c4 := IntWalk.i64_in _ (by omega)
            have s4 : IntKind.i64.wrap ((c2.c1 : Int) + c2.c2 + c2.c4 + c2.c5) = (c2.c1 : Int) + c2.c2 + c2.c4 + c2.c5 := IntWalk.i64_in _ (by omega)
            go_region_held3 (fun w' => w'.cell? ⟨w4.heap.size, 0, none⟩ = some (.int .i64 c2.c1) ∧ w'.cell? ⟨w4.heap.size, 1, none⟩ = some (.int .i64 c2.c2) ∧ w'.cell? ⟨w4.heap.size, 2, none⟩ = some (.int .i64 c2.c3) ∧ w'.cell? ⟨w4.heap.size, 3, none⟩ = some (.int .i64 c2.c4) ∧ w'.cell? ⟨w4.heap.size, 4, none⟩ = some (.int .i64 c2.c5)) (refine ⟨?_, ?_, ?_, ?_, ?_⟩ <;> (repeat (first | with_reducible assumption | (with_reducible refine drew_cell ?_) | (with_reducible refine alloc_cell ?_))))
              (first | (go_at_call 36; refine (c36 ((HK3.out.hA.below HB5.out).below (by first | exact HX.out | exact Below.drew HX.out))).mono ?_; rintro e wa ⟨va, rfl, hoa, hba⟩; (obtain ⟨Aa, ca, rfl, -⟩ := hoa.rd); (have HX := hidd (Bl_then (w := w5) (by first | exact HX.out | exact Below.drew HX.out) hba)); (have q0 : wa.cell? ⟨w4.heap.size, 0, none⟩ = some (.int .i64 c2.c1) := cell_of_heap ((Keeps.below (S := fun _ => False) HX.out).heapAt HC5.out (fun x => x)) 0); (have q1 : wa.cell? ⟨w4.heap.size, 1, none⟩ = some (.int .i64 c2.c2) := cell_of_heap ((Keeps.below (S := fun _ => False) HX.out).heapAt HC5.out (fun x => x)) 1); (have q2 : wa.cell? ⟨w4.heap.size, 2, none⟩ = some (.int .i64 c2.c3) := cell_of_heap ((Keeps.below (S := fun _ => False) HX.out).heapAt HC5.out (fun x => x)) 2); (have q3 : wa.cell? ⟨w4.heap.size, 3, none⟩ = some (.int .i64 c2.c4) := cell_of_heap ((Keeps.below (S := fun _ => False) HX.out).heapAt HC5.out (fun x => x)) 3); (have q4 : wa.cell? ⟨w4.heap.size, 4, none⟩ = some (.int .i64 c2.c5) := cell_of_heap ((Keeps.below (S := fun _ => False) HX.out).heapAt HC5.out (fun x => x)) 4); clear hoa hba))
            go_wp2
            go_roundw
            case rel => exact ⟨k + 1, _, _, _, _, _, _, by omega, hT2, rfl, rfl, by go_num, ⟨(HK3.out.hA.below HB5.out).below HX.out, HK3.out.hle, HK3.out.hT, HK3.out.hG, HK3.out.hW, HK3.out.hR, HK3.out.hB.trans ((HB5.out.trans (HX.out.mono HB5.out.size)).mono HK3.out.hB.size)⟩⟩
            case measure => simp [intOf]; omega
        · obtain rfl : k = L.length := by omega
          have HB := hidd hKP.hB
          clear hKP
          go_wp2_with (go_at_call 16; refine (c16 _).mono ?_; rintro e w9 ⟨rfl, hb9⟩)
          go_ret
          exact ⟨rfl, Bl_then HB.out hb9⟩
end Go.Proofs.Ytnlcibobhmcfpaa
