/- SenseSays: what a sensor says. -/
import Derived.Test.YtocfnimeinongaaS
set_option linter.unusedSimpArgs false
set_option linter.unusedVariables false
namespace Go.Proofs.Ytocfnimeinongaa
open Go.RowKit
attribute [local go_sem ↓] Go.wp_at_zero Go.wp_at_succ
theorem heard_at {T : Tab} {k : Int} (h : k ∈ keysL T) : heardB (echoL T) k = some (T.at k).e := by
  unfold heardB
  cases e : (echoL T).find? (fun x => x.i == k) with
  | none =>
    rw [List.find?_eq_none] at e
    have := e (ecAt T k) (List.mem_map.2 ⟨k, h, rfl⟩)
    simp [ecAt] at this
  | some y =>
    have hy := List.find?_some e
    have hm := List.mem_of_find?_eq_some e
    obtain ⟨j, hj, rfl⟩ := List.mem_map.1 hm
    have : j = k := by simpa [ecAt] using hy
    subst this
    rfl
theorem heard_off {T : Tab} {k : Int} (h : k ∉ keysL T) : heardB (echoL T) k = none := by
  unfold heardB
  cases e : (echoL T).find? (fun x => x.i == k) with
  | none => rfl
  | some y =>
    have hy := List.find?_some e
    have hm := List.mem_of_find?_eq_some e
    obtain ⟨j, hj, rfl⟩ := List.mem_map.1 hm
    have : j = k := by simpa [ecAt] using hy
    subst this
    exact absurd hj h
theorem link_mem {T : Tab} {y : Ec} (h : y ∈ linkL T) : y.i ∈ keysL T ∧ y = ecAt T y.i ∧ (T.at y.i).t = true := by
  unfold linkL at h
  obtain ⟨h1, h2⟩ := List.mem_filter.1 h
  obtain ⟨j, hj, rfl⟩ := List.mem_map.1 h1
  exact ⟨hj, rfl, h2⟩
theorem link_heard {T : Tab} {y : Ec} (h : y ∈ linkL T) : heardB (echoL T) y.i = some y.e := by
  obtain ⟨h1, h2, _⟩ := link_mem h
  rw [heard_at h1]
  have : y.e = (T.at y.i).e := by rw [h2]; rfl
  rw [this]
theorem St.Ok.self {st : St} (h : st.Ok) : heardB (echoL st.T) st.id = none := by
  refine heard_off fun hm => ?_
  have h1 := (keysL_mem.1 hm).2
  obtain ⟨x, hx⟩ := Option.isSome_iff_exists.1 h1
  exact (h.tab _ _ hx).1.2.2 rfl
theorem St.Ok.right {st : St} (h : st.Ok) : rightB st.ep (echoL st.T) = true := by
  unfold rightB
  rw [h.ep, Bool.true_and]
  unfold goodTo
  rw [List.all_eq_true]
  intro k hk
  have hk' : k < (echoL st.T).length := List.mem_range.1 hk
  have hkl : k < (keysL st.T).length := by unfold echoL at hk'; simpa using hk'
  have hg : ∀ j (hj : j < (keysL st.T).length), (echoL st.T)[j]? = some (ecAt st.T (keysL st.T)[j]) := fun j hj => by
    unfold echoL; rw [List.getElem?_map, List.getElem?_eq_getElem hj]; rfl
  have hx := hg k hkl
  have hm : (keysL st.T)[k] ∈ keysL st.T := List.getElem_mem hkl
  have h1 := (keysL_mem.1 hm)
  have hat := h.at (keysL st.T)[k]
  unfold goodB
  rw [hx]
  simp only [Bool.and_eq_true, Bool.or_eq_true]
  refine ⟨⟨nodeB_iff.2 h1.1, epB_iff.2 ⟨hat.1, hat.2.1⟩⟩, ?_⟩
  by_cases h0 : k = 0
  · left; simpa using h0
  · right
    rw [hg (k - 1) (by omega)]
    have hup := List.pairwise_iff_getElem.1 (keysL_up st.T) (k - 1) k (by omega) hkl (by omega)
    exact decide_eq_true hup
theorem link_len (T : Tab) : (linkL T).length ≤ (echoL T).length := List.length_filter_le _ _
theorem step_id (st : St) (o : Mv) : (st.step o).id = st.id ∧ (st.step o).ep = st.ep := by
  unfold St.step
  split
  · split
    · exact ⟨rfl, rfl⟩
    · exact ⟨rfl, rfl⟩
  · split
    · exact ⟨rfl, rfl⟩
    · exact ⟨rfl, rfl⟩
set_option maxRecDepth 100000 in
set_option maxHeartbeats 8000000 in
theorem law8good (id ep hold : Int) (v : Value) (L : List Mv) (w : World) (h : RdM w v L) (hE : EvsOk w L) (hL : fewB L = true) (hn : newB id ep hold = true) :
    Calls Try.prog 8 #[.int .i64 id, .int .i64 ep, .int .i64 hold, v] w fun e w' => e = .returned (.bool true) ∧ Below w.heap.size w w' := by
  obtain ⟨hl120, hl80⟩ := fewB_iff hL
  obtain ⟨A, c, rfl, hat⟩ := h.at
  have HAT := hidd hat
  have HRM := hidd h
  have HE := hidd hE
  have HL80 := hidd hl80
  have HF := hidd hL
  have HNB := hidd hn
  have HSM := hidd (show Sm L from ⟨by omega, fun o ho => by have := hl80 o ho; omega⟩)
  clear h hat hE hL hl80 hn
  go_enter Try.func8, Try.ntmps8
  go_wp2_with fail
  refine (c10 id ep hold _).mono ?_
  rintro e w1 h1
  obtain ⟨s, rfl, hs1, ls1, hb1⟩ := h1.ok HNB.out
  have hsl := hs1.lt
  have HS1 := hidd (⟨hs1.mono (by omega), St.Ok.new HNB.out⟩ : Run w1 s (St.new id ep hold) 0)
  have HB1 := hidd hb1
  clear h1 hs1 hb1
  go_wp2_with (go_at_call 9; refine (c9 (HRM.out.below HB1.out) (HE.out.below HB1.out) HSM.out).mono ?_; rw [HF.out]; rintro e w2 ⟨rfl, rfl⟩)
  go_loopw [11] (fun i wr => ∃ (k : Nat) (st : St), k ≤ L.length ∧ i = .int .i64 k ∧ Run wr s st k ∧ (st.id = id ∧ st.ep = ep) ∧ Keeps (fun i => i = s) w1 wr) (fun i _ => L.length - (intOf i).toNat)
  case atStart => exact ⟨0, _, Nat.zero_le _, rfl, HS1.out, ⟨rfl, rfl⟩, Keeps.refl _ _⟩
  case round =>
    obtain ⟨k, st, hk, rfl, hrun, hide, hkp⟩ := hrel
    have HK := hidd hkp
    have HRN := hidd hrun
    have HID := hidd hide
    have hbw : Below w.heap.size w wr := Keeps.bl HB1.out hkp (by omega)
    have HB := hidd hbw
    clear hkp hrun hbw hide
    by_cases hlt : k < L.length
    · obtain ⟨x, hx⟩ : ∃ x, L[k]? = some x := ⟨_, List.getElem?_eq_getElem hlt⟩
      obtain ⟨g, o', rfl, hgl, hgc⟩ := HAT.out k x hx
      have hm := List.mem_of_getElem? hx
      have hx80 := HL80.out x hm
      have HX := hidd hx
      have HLT := hidd hlt
      have hev := HE.out x hm
      have HEV := hidd (hev.below HB.out)
      obtain ⟨A2, c2, he2⟩ := mv_form hev
      have dd := fun (i : Nat) (u : Value) (hu : x.cells[i]? = some u) => (HB.out.cell (p := ⟨g, o' + k * 5 + i, none⟩) hgl).trans (hgc i u hu)
      obtain ⟨tt, htt⟩ : ∃ tt, x.t = tt := ⟨_, rfl⟩
      have d0 : wr.cell? ⟨g, o' + k * 5, none⟩ = some (.bool tt) := by rw [← htt]; exact dd 0 _ rfl
      have d1 : wr.cell? ⟨g, o' + k * 5 + 1, none⟩ = some (.int .i64 x.now) := dd 1 _ rfl
      have d2 : wr.cell? ⟨g, o' + k * 5 + 2, none⟩ = some (.int .i64 x.fr) := dd 2 _ rfl
      have d3 : wr.cell? ⟨g, o' + k * 5 + 3, none⟩ = some (.int .i64 x.ep) := dd 3 _ rfl
      have d4 : wr.cell? ⟨g, o' + k * 5 + 3 + 1, none⟩ = some (.slice A2 x.E.length c2) := by rw [← he2]; exact dd 4 _ rfl
      have k0 : (0 : Int) ≤ k := by omega
      have k1 : (k : Int) < L.length := by omega
      have HTT := hidd htt
      rw [he2] at HEV
      clear hx hgc dd hev hlt he2 hm htt
      go_upto_if 48 with fail
      go_cut [11] (fun u wx => u = .int .i64 k ∧ Run wx s (st.step x) (k + 1) ∧ Keeps (fun i => i = s) w1 wx)
      case first =>
        cases tt with
        | true =>
          go_wp2_with fail
          refine (c13 HRN.out.sat HRN.out.ok (by omega) x.now).mono ?_
          rintro e w3 h3
          obtain ⟨⟨v3, u3, rfl⟩, hr3, hk3⟩ := HRN.out.tick h3 HTT.out
          have HR3 := hidd hr3
          have HK3 := hidd (HK.out.trans hk3)
          clear h3 hr3 hk3
          go_wp2_with fail
          go_meet
          exact ⟨rfl, HR3.out, HK3.out⟩
        | false =>
          go_wp2_with fail
          go_still_tail 16, (by kernel_rfl)
          change wpList _ _ _ _ _ wr.drew
          go_wp2_with fail
          refine (c15 (E := x.E) (HRN.out.sat.below (Bl_drew (Below.refl _ _))) HRN.out.ok (by omega) x.now x.fr x.ep (HEV.out.below (Bl_drew (Below.refl _ _))) (by omega)).mono ?_
          rintro e w3 h3
          obtain ⟨⟨v3, u3, rfl⟩, hr3, hk3⟩ := (HRN.out.below (Bl_drew (Below.refl _ _))).hear h3 HTT.out
          have HR3 := hidd hr3
          have HK3 := hidd (HK.out.drew.trans hk3)
          clear h3 hr3 hk3
          go_wp2_with fail
          go_meet
          exact ⟨rfl, HR3.out, HK3.out⟩
      case rest =>
        obtain ⟨rfl, hrun, hkp⟩ := hcut
        have hide : (st.step x).id = id ∧ (st.step x).ep = ep := ⟨(step_id st x).1.trans HID.out.1, (step_id st x).2.trans HID.out.2⟩
        generalize st.step x = su at *
        obtain ⟨w2, hw2⟩ : ∃ x, x = wc := ⟨_, rfl⟩
        subst hw2
        have HRU := hidd hrun
        have HIU := hidd hide
        have HKU := hidd hkp
        have HBU := hidd (Keeps.bl HB1.out hkp (by omega))
        have HOK := hidd hrun.ok
        have hkl := (echoL_len su.T)
        have hkl2 : (linkL su.T).length ≤ 64 := Nat.le_trans (link_len su.T) hkl
        clear hrun hkp hide d0 d1 d2 d3 d4
        go_wp2_with fail
        refine (c19 HRU.out.sat HOK.out.tabOk (by omega)).mono ?_
        rintro e w3 ⟨v5, rfl, hv5, hb3⟩
        have HV5 := hidd (hv5.rd ec_len)
        have HR3 := hidd (HRU.out.below hb3)
        have HB3 := hidd (Bl_then HBU.out hb3)
        have HKS3 := hidd (HKU.out.trans (Keeps.below hb3))
        obtain ⟨A5, c5, rfl⟩ := (hv5.rd ec_len).form
        clear hv5 hb3
        go_wp2_with fail
        refine (c22 (HR3.out.sat.below (Bl_alloc (Below.refl _ _) _)) HOK.out.tabOk (by omega)).mono ?_
        rintro e w4 ⟨v6, rfl, hv6, hb4⟩
        have HV6 := hidd (hv6.rd ec_len)
        have hb34 : Below w3.heap.size w3 w4 := (Bl_alloc (Below.refl w3.heap.size w3) _).trans (hb4.mono (by simp))
        have HV54 := hidd (HV5.out.below hb34)
        have HR4 := hidd (HR3.out.below hb34)
        have HB4 := hidd (Bl_then HB3.out hb34)
        have HKS4 := hidd (HKS3.out.trans (Keeps.below hb34))
        have hy4 := (hb4.block w3.heap.size (by simp)).trans (heap_new w3 _)
        have HY4 := hidd hy4
        obtain ⟨A6, c6, rfl, hat6⟩ := (hv6.rd ec_len).at
        have HAT6 := hidd hat6
        have ly4 : w3.heap.size < w4.heap.size := (Array.getElem?_eq_some_iff.1 hy4).1
        have y0 : w4.cell? ⟨w3.heap.size, 0, none⟩ = some (.int .i64 su.ep) := cell_of_heap hy4 0
        have y1 : w4.cell? ⟨w3.heap.size, 1, none⟩ = some (.slice A5 (echoL su.T).length c5) := cell_of_heap hy4 1
        clear hv6 hb4 hb34 hy4 hat6
        go_upto_block 2 with fail
        go_cut [14] (fun u wx => Below w4.heap.size w4 wx)
        case first =>
          go_wp2_with fail
          go_loopw [14, 15, 16] (fun i _ _ wi => ∃ j : Nat, j ≤ (linkL su.T).length ∧ i = .int .i64 j ∧ Below w4.heap.size w4 wi) (fun i _ _ _ => (linkL su.T).length - (intOf i).toNat)
          case atStart => exact ⟨0, Nat.zero_le _, rfl, Below.refl _ _⟩
          case round =>
            obtain ⟨j, hj, rfl, hb⟩ := hrel
            have HBI := hidd hb
            have hsz := hb.size
            have p0 := (hb.cell (p := ⟨w3.heap.size, 0, none⟩) ly4).trans y0
            have p1 := (hb.cell (p := ⟨w3.heap.size, 1, none⟩) ly4).trans y1
            by_cases hlj : j < (linkL su.T).length
            · obtain ⟨y, hy⟩ : ∃ y, (linkL su.T)[j]? = some y := ⟨_, List.getElem?_eq_getElem hlj⟩
              obtain ⟨gl, ol, rfl, hll, hlc⟩ := HAT6.out j y hy
              have hm := List.mem_of_getElem? hy
              have e1 : heardN (heardB (echoL su.T) y.i) = y.e := by rw [link_heard hm]; rfl
              have e2 : heardO (heardB (echoL su.T) y.i) = true := by rw [link_heard hm]; rfl
              have HE1 := hidd e1
              have HE2 := hidd e2
              have q0 : wr.cell? ⟨gl, ol + j * 2, none⟩ = some (.int .i64 y.i) := (hb.cell (p := ⟨gl, ol + j * 2, none⟩) hll).trans (hlc 0 _ rfl)
              have q1 : wr.cell? ⟨gl, ol + j * 2 + 1, none⟩ = some (.int .i64 y.e) := (hb.cell (p := ⟨gl, ol + j * 2 + 1, none⟩) hll).trans (hlc 1 _ rfl)
              have HLJ := hidd hlj
              have j0 : (0 : Int) ≤ j := by omega
              have j1 : (j : Int) < (linkL su.T).length := by omega
              have lgr : gl < wr.heap.size := by omega
              have lyr : w3.heap.size < wr.heap.size := by omega
              clear hb hy hlc hm e1 e2 hlj y0 y1
              go_upto_region 15 with fail
              go_region_held3 (fun w' => w'.cell? ⟨w3.heap.size, 0, none⟩ = some (.int .i64 su.ep) ∧ w'.cell? ⟨w3.heap.size, 1, none⟩ = some (.slice A5 (echoL su.T).length c5) ∧ w'.cell? ⟨gl, ol + j * 2, none⟩ = some (.int .i64 y.i)) (refine ⟨?_, ?_, ?_⟩ <;> (repeat (first | with_reducible assumption | (with_reducible refine drew_cell ?_) | (with_reducible refine alloc_cell ?_))))
                (first | (go_at_call 24; refine (c24 su.ep y.i (HV54.out.below (by repeat (first | with_reducible exact HBI.out | with_reducible refine Bl_drew ?_ | with_reducible refine Below.drewN ?_ _))) (by omega)).mono ?_; rw [HE1.out, HE2.out]; rintro e w5 ⟨rfl, hb5⟩; (have tt0 : w5.cell? ⟨w3.heap.size, 0, none⟩ = some (.int .i64 su.ep) := (hb5.cell (p := ⟨w3.heap.size, 0, none⟩) lyr).trans p0); (have tt1 : w5.cell? ⟨w3.heap.size, 1, none⟩ = some (.slice A5 (echoL su.T).length c5) := (hb5.cell (p := ⟨w3.heap.size, 1, none⟩) lyr).trans p1); (have tt2 : w5.cell? ⟨gl, ol + j * 2, none⟩ = some (.int .i64 y.i) := (hb5.cell (p := ⟨gl, ol + j * 2, none⟩) lgr).trans q0); (have tt3 : w5.cell? ⟨gl, ol + j * 2 + 1, none⟩ = some (.int .i64 y.e) := (hb5.cell (p := ⟨gl, ol + j * 2 + 1, none⟩) lgr).trans q1); (have HB5 := hidd (Bl_then (w := w4) (by repeat (first | with_reducible exact HBI.out | with_reducible refine Bl_drew ?_ | with_reducible refine Below.drewN ?_ _)) hb5)); clear hb5))
              go_wp2_with fail
              go_roundw
              case rel => exact ⟨j + 1, by have := HLJ.out; omega, by go_num, HB5.out⟩
              case measure => have := HLJ.out; simp [intOf]; omega
            · obtain rfl : j = (linkL su.T).length := by omega
              clear hb
              go_wp2_with fail
              go_meet
              exact HBI.out
        case rest =>
          have HC := hidd hcut
          have hsz := hcut.size
          have p0 := (hcut.cell (p := ⟨w3.heap.size, 0, none⟩) ly4).trans y0
          have p1 := (hcut.cell (p := ⟨w3.heap.size, 1, none⟩) ly4).trans y1
          have e1 : heardN (heardB (echoL su.T) id) = 0 := by rw [← HIU.out.1, HOK.out.self]; rfl
          have e2 : heardO (heardB (echoL su.T) id) = false := by rw [← HIU.out.1, HOK.out.self]; rfl
          have e3 : errB (rightB su.ep (echoL su.T)) = 0 := by rw [HOK.out.right]; rfl
          have e4 : (su.ep != ep) = false := by simp [HIU.out.2]
          have HE1 := hidd e1
          have HE2 := hidd e2
          have HE3 := hidd e3
          have hlen : ¬ ((echoL su.T).length : Int) < (linkL su.T).length := by have := link_len su.T; omega
          clear hcut y0 y1 e1 e2 e3
          go_wp2_with fail
          refine (c24 su.ep id (HV54.out.below HC.out) (by omega)).mono ?_
          rw [HE1.out, HE2.out]
          rintro e w5 ⟨rfl, hb5⟩
          have HC5 := hidd (Bl_then HC.out hb5)
          have z0 := (hb5.cell (p := ⟨w3.heap.size, 0, none⟩) (by show w3.heap.size < wc.heap.size; omega)).trans p0
          have z1 := (hb5.cell (p := ⟨w3.heap.size, 1, none⟩) (by show w3.heap.size < wc.heap.size; omega)).trans p1
          have hsz5 := hb5.size
          clear hb5 p0 p1
          go_wp2_with fail
          refine (c25 su.ep (HV54.out.below HC5.out) (by omega)).mono ?_
          rw [HE3.out]
          rintro e w6 ⟨rfl, hb6⟩
          have HC6 := hidd (Bl_then HC5.out hb6)
          have x0 := (hb6.cell (p := ⟨w3.heap.size, 0, none⟩) (by show w3.heap.size < w5.heap.size; omega)).trans z0
          have x1 := (hb6.cell (p := ⟨w3.heap.size, 1, none⟩) (by show w3.heap.size < w5.heap.size; omega)).trans z1
          clear hb6 z0 z1
          go_wp2_with fail
          go_roundw
          case rel => exact ⟨k + 1, su, by have := HLT.out; omega, by go_num, HR4.out.below HC6.out, HIU.out, HKS4.out.trans (Keeps.below HC6.out)⟩
          case measure => have := HLT.out; simp [intOf]; omega
    · have HBr := HB
      go_wp2_with fail
      refine (c12 wr).mono ?_
      rintro e w2 ⟨rfl, hb2⟩
      have HB2 := hidd (Bl_then HB.out hb2)
      clear hb2
      go_wp2_with fail
      go_ret
      exact ⟨rfl, HB2.out⟩
set_option maxRecDepth 100000 in
set_option maxHeartbeats 4000000 in
theorem law8bad (id ep hold : Int) (v : Value) (L : List Mv) (w : World) (h : RdM w v L) (hE : EvsOk w L) (hS : Sm L) (hb : newB id ep hold = false ∨ fewB L = false) :
    Calls Try.prog 8 #[.int .i64 id, .int .i64 ep, .int .i64 hold, v] w fun e w' => e = .returned (.bool true) ∧ Below w.heap.size w w' := by
  obtain ⟨A, c, rfl, -⟩ := h.at
  have HRM := hidd h
  have HE := hidd hE
  have HSM := hidd hS
  clear h hE hS
  cases hn : newB id ep hold with
  | false =>
    clear hb
    go_enter Try.func8, Try.ntmps8
    go_wp2_with fail
    refine (c10 id ep hold _).mono ?_
    rintro e w1 h1
    obtain ⟨rfl, hb1⟩ := h1.bad hn
    have HB1 := hidd hb1
    clear h1 hb1 hn
    go_wp2_with fail
    refine (c12 w1).mono ?_
    rintro e w2 ⟨rfl, hb2⟩
    have HB2 := hidd (Bl_then HB1.out hb2)
    clear hb2
    go_wp2_with fail
    go_ret
    exact ⟨rfl, HB2.out⟩
  | true =>
    have hf : fewB L = false := by
      rcases hb with h | h
      · rw [hn] at h; cases h
      · exact h
    have HN := hidd hn
    have HF := hidd hf
    clear hb hn hf
    go_enter Try.func8, Try.ntmps8
    go_wp2_with fail
    refine (c10 id ep hold _).mono ?_
    rintro e w1 h1
    obtain ⟨s, rfl, -, -, hb1⟩ := h1.ok HN.out
    have HB1 := hidd hb1
    clear h1 hb1
    go_wp2_with (go_at_call 9; refine (c9 (HRM.out.below HB1.out) (HE.out.below HB1.out) HSM.out).mono ?_; rw [HF.out]; rintro e w2 ⟨rfl, rfl⟩)
    refine (c12 w1).mono ?_
    rintro e w2 ⟨rfl, hb2⟩
    have HB2 := hidd (Bl_then HB1.out hb2)
    clear hb2
    go_wp2_with fail
    go_ret
    exact ⟨rfl, HB2.out⟩
theorem law8 (id ep hold : Int) (v : Value) (L : List Mv) (w : World) (h : RdM w v L) (hE : EvsOk w L) (hL : L.length ≤ maxLen) (hN : ∀ o ∈ L, o.E.length ≤ maxLen ∧ I64 o.now ∧ I64 o.fr ∧ I64 o.ep) :
    Calls Try.prog 8 #[.int .i64 id, .int .i64 ep, .int .i64 hold, v] w fun e w' => e = .returned (.bool true) ∧ Below w.heap.size w w' := by
  have hS : Sm L := ⟨by unfold maxLen at hL; omega, fun o ho => by have := (hN o ho).1; unfold maxLen at this; omega⟩
  cases hn : newB id ep hold with
  | false => exact law8bad id ep hold v L w h hE hS (.inl hn)
  | true =>
    cases hf : fewB L with
    | false => exact law8bad id ep hold v L w h hE hS (.inr hf)
    | true => exact law8good id ep hold v L w h hE hf hn
end Go.Proofs.Ytocfnimeinongaa
