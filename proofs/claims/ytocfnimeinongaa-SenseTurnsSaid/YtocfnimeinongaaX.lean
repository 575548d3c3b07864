/- SenseTurns, the walk. -/
import Derived.Test.YtocfnimeinongaaV
set_option linter.unusedSimpArgs false
set_option linter.unusedVariables false
namespace Go.Proofs.Ytocfnimeinongaa
open Go.RowKit
attribute [local go_sem ↓] Go.wp_at_zero Go.wp_at_succ
def UpAt (w : World) (u : Nat) (U : Int → Int) : Prop := ∃ cu, w.heap[u]? = some (.cells cu 3 (0, 0)) ∧ cu.size = 64 ∧ ∀ k : Nat, k < 64 → cu[k]? = some (.int .i64 (U k))
theorem UpAt.keeps {w w' : World} {u : Nat} {U : Int → Int} (h : UpAt w u U) {S : Nat → Prop} (k : Keeps S w w') (hs : ¬ S u) : UpAt w' u U := by
  obtain ⟨cu, h1, h2⟩ := h
  exact ⟨cu, k.heapAt h1 hs, h2⟩
theorem UpAt.below {w w' : World} {u : Nat} {U : Int → Int} (h : UpAt w u U) (k : Below w.heap.size w w') : UpAt w' u U := h.keeps (Keeps.below (S := fun _ => False) k) (fun x => x)
theorem UpAt.cell {w : World} {u : Nat} {U : Int → Int} (h : UpAt w u U) {k : Nat} (hk : k < 64) : w.cell? ⟨u, k, none⟩ = some (.int .i64 (U k)) ∧ w.frozen? ⟨u, k, none⟩ = false := by
  obtain ⟨cu, h1, _, h2⟩ := h
  exact ⟨(cell_of_heap h1 k).trans (h2 k hk), free_of_heap h1 k⟩
theorem UpAt.lt {w : World} {u : Nat} {U : Int → Int} (h : UpAt w u U) : u < w.heap.size := by
  obtain ⟨cu, h1, _⟩ := h
  exact (Array.getElem?_eq_some_iff.1 h1).1
theorem UpAt.set {w : World} {u : Nat} {U : Int → Int} (h : UpAt w u U) {x : Ev} {m : Nat} (hm : m < 64) (hn : x.n = m) : UpAt (w.setCell ⟨u, m, none⟩ (.int .i64 (if x.k = 1 then x.e else -1))) u (applyE U x) := by
  obtain ⟨cu, h1, h2, h3⟩ := h
  refine ⟨_, heap_set h1 m _, by simp [h2], fun k hk => ?_⟩
  unfold applyE
  by_cases e : k = m
  · subst e
    rw [Array.getElem?_setIfInBounds_self_of_lt (by omega), if_pos (show (k : Int) = x.n by omega)]
  · rw [Array.getElem?_setIfInBounds_ne (by omega), h3 k hk, if_neg (show ¬ (k : Int) = x.n by omega)]
theorem UpAt.congr {w : World} {u : Nat} {U U' : Int → Int} (h : UpAt w u U) (e : ∀ k : Nat, k < 64 → U k = U' k) : UpAt w u U' := by
  obtain ⟨cu, h1, h2, h3⟩ := h
  exact ⟨cu, h1, h2, fun k hk => by rw [h3 k hk, e k hk]⟩
theorem SAt.keepsU {w w' : World} {s n u : Nat} {st : St} {cu : Array Value} (h : SAt w s n st) (k : Keeps (fun i => i = u) w w') (hu : w.heap[u]? = some (.cells cu 3 (0, 0))) : SAt w' s n st := by
  obtain ⟨p, b, h1, hp, hb⟩ := h
  obtain ⟨es, cl, hm⟩ := hb.isMap
  have a1 : ¬ (s = u) := by rintro rfl; have := h1.symm.trans hu; simp at this
  have a2 : ¬ (p = u) := by rintro rfl; have := hp.symm.trans hu; simp at this
  have a3 : ¬ (b = u) := by rintro rfl; have := hm.symm.trans hu; simp at this
  exact ⟨p, b, k.heapAt h1 a1, k.heapAt hp a2, hb.keeps k a3⟩
theorem UpAt.next {w : World} {u : Nat} {U : Int → Int} {L : List Ev} {j m : Nat} {y : Ev} {z : Int} (h : UpAt w u (foldE U (L.take j))) (hy : L[j]? = some y) (hm : m < 64) (hn : y.n = m) (hz : (if y.k = 1 then y.e else -1) = z) : UpAt (w.setCell ⟨u, m, none⟩ (.int .i64 z)) u (foldE U (L.take (j + 1))) := by
  rw [take_snoc' hy, foldE_snoc, ← hz]
  exact h.set hm hn
theorem UpAt.drew {w : World} {u : Nat} {U : Int → Int} (h : UpAt w u U) : UpAt w.drew u U := h
theorem info3 : (Try.prog.info? 3).map (fun i => (i.zero, i.size, i.bytes)) = some (some (.int .i64 0), 1, 8) := by kernel_rfl
set_option maxRecDepth 100000 in
set_option maxHeartbeats 8000000 in
theorem law4good (id ep hold : Int) (v : Value) (L : List Mv) (w : World) (h : RdM w v L) (hE : EvsOk w L) (hL : fewB L = true) (hn : newB id ep hold = true) :
    Calls Try.prog 4 #[.int .i64 id, .int .i64 ep, .int .i64 hold, v] w fun e w' => e = .returned (.bool true) ∧ Below w.heap.size w w' := by
  obtain ⟨hl120, hl80⟩ := fewB_iff hL
  obtain ⟨A, c, rfl, hat⟩ := h.at
  have HAT := hidd hat
  have HRM := hidd h
  have HE := hidd hE
  have HL80 := hidd hl80
  have HF := hidd hL
  have HNB := hidd hn
  have HSM := hidd (show Sm L from ⟨by omega, fun o ho => by have := hl80 o ho; omega⟩)
  clear h hat hE hL hl80 hn
  obtain ⟨i0, hi, hz0, hz1, hz2⟩ := info_parts info3
  have HI := hidd hi
  have HZ0 := hidd hz0
  have HZ1 := hidd hz1
  have HZ2 := hidd hz2
  clear hi hz0 hz1 hz2
  go_enter Try.func4, Try.ntmps4
  go_wp2_with fail
  refine (c10 id ep hold _).mono ?_
  rintro e w1 h1
  obtain ⟨s, rfl, hs1, ls1, hb1⟩ := h1.ok HNB.out
  have hsl := hs1.lt
  have HS1 := hidd (⟨hs1.mono (by omega), St.Ok.new HNB.out⟩ : Run w1 s (St.new id ep hold) 0)
  have HB1 := hidd hb1
  clear h1 hs1 hb1
  go_upto_block 0 with (first
    | (go_at_call 9; refine (c9 (HRM.out.below HB1.out) (HE.out.below HB1.out) HSM.out).mono ?_; rw [HF.out]; rintro e w2 ⟨rfl, rfl⟩)
    | (at_make; refine wpList_make_full _ rfl _ _ 47 rfl w1.heap.size 3 i0 _ 1 Try.underlying47 HI.out HZ0.out HZ1.out .i64 .i64 _ _ 64 rfl rfl rfl rfl (by rw [HZ2.out]; omega) (by unfold maxLen; omega) (Nat.le_refl _) ?_; intro w2 hown hg; (have HOW := hidd hown); (have HG := hidd hg); clear hown hg))
  have hh := own_make HOW.out
  have hsz2 : ∀ n, w2.heap[w1.heap.size]? = some (.cells n 3 (0, 0)) → n.size = 64 := fun n hq => by
    rcases HOW.out.2 with ⟨h1, _⟩ | ⟨g', cap, cur, hv, hb, hh', hnc, hm, hc, ht⟩
    · exact absurd h1 (by simp)
    · simp only [Value.slice.injEq, Option.some.injEq, Addr.mk.injEq, true_and, and_true] at hv
      obtain ⟨hv, hcap⟩ := hv
      rw [← hv, hq] at hh'
      simp only [Option.some.injEq, Obj.cells.injEq, and_true] at hh'
      rw [hh', hc, ← hcap]
  obtain ⟨cu0, hcu0, hcs0⟩ : ∃ cu0, w2.heap[w1.heap.size]? = some (.cells cu0 3 (0, 0)) ∧ cu0.size = 64 := ⟨_, hh, hsz2 _ hh⟩
  have HCU := hidd hcu0
  have HCS := hidd hcs0
  have hb12 : Below w1.heap.size w1 w2 := ((Keeps.below (S := fun _ => False) (Below.refl w1.heap.size w1)).grown HG.out (fun k hk => by cases hk)).toBelow (Nat.le_refl _) (fun _ f => f.elim)
  have HS2 := hidd (HS1.out.below hb12)
  have HB2 := hidd (Bl_then HB1.out hb12)
  have hu0 : w.heap.size ≤ w1.heap.size := HB1.out.size
  generalize w1.heap.size = u at *
  clear HOW HG HS1 HB1 hh hsz2 hcu0 hcs0 hb12
  go_cut [12] (fun _ wx => UpAt wx u (fun _ => -1) ∧ Keeps (fun i => i = u) w2 wx)
  case first =>
    go_wp2_with fail
    go_loopw [12] (fun i wr => ∃ (k : Nat) (cu : Array Value), k ≤ 64 ∧ i = .int .i64 k ∧ wr.heap[u]? = some (.cells cu 3 (0, 0)) ∧ (cu.size = 64 ∧ ∀ j : Nat, j < k → cu[j]? = some (.int .i64 (-1))) ∧ Keeps (fun i => i = u) w2 wr) (fun i _ => 64 - (intOf i).toNat)
    case atStart => exact ⟨0, cu0, Nat.zero_le _, rfl, HCU.out, ⟨HCS.out, fun j hj => by omega⟩, Keeps.refl _ _⟩
    case round =>
      obtain ⟨k, cu, hk, rfl, hh, hcu, hkp⟩ := hrel
      have HH := hidd hh
      have HC := hidd hcu
      have HK := hidd hkp
      by_cases hlt : k < 64
      · obtain ⟨u0, hu⟩ : ∃ u0, cu[k]? = some u0 := ⟨_, Array.getElem?_eq_getElem (by omega)⟩
        have z0 := (cell_of_heap hh k).trans hu
        have z1 := free_of_heap hh k
        have k0 : (0 : Int) ≤ k := by omega
        have k1 : (k : Int) < 64 := by omega
        have HLT := hidd hlt
        clear hh hcu hkp hu hlt
        go_wp2_with fail
        go_roundw
        case rel =>
          refine ⟨k + 1, _, by have := HLT.out; omega, by go_num, heap_set HH.out _ _, ⟨by simp [HC.out.1], fun j hj => ?_⟩, HK.out.setCell (.inr rfl) _⟩
          by_cases e : j = k
          · subst e; rw [Array.getElem?_setIfInBounds_self_of_lt (by have := HC.out.1; have := HLT.out; omega)]
          · rw [Array.getElem?_setIfInBounds_ne (by omega)]; exact HC.out.2 j (by omega)
        case measure => have := HLT.out; simp [intOf]; omega
      · obtain rfl : k = 64 := by omega
        clear hh hcu hkp
        go_wp2_with fail
        go_meet
        exact ⟨⟨cu, HH.out, HC.out.1, HC.out.2⟩, HK.out⟩
  case rest =>
    obtain ⟨w3, hw3⟩ : ∃ x, x = wc := ⟨_, rfl⟩
    subst hw3
    have hsu : s ≠ u := by omega
    have HU3 := hidd hcut.1
    have HK3 := hidd hcut.2
    have HS3 := hidd (⟨HS2.out.sat.keepsU hcut.2 HCU.out, HS2.out.ok⟩ : Run w3 s (St.new id ep hold) 0)
    have HB3 := hidd (Keeps.bl HB2.out hcut.2 hu0)
    clear hcut
    go_wp2_with fail
    go_loopw [13] (fun i wr => ∃ (k : Nat) (st : St), k ≤ L.length ∧ i = .int .i64 k ∧ Run wr s st k ∧ st.id = id ∧ UpAt wr u (upOf st.T) ∧ Below w.heap.size w wr) (fun i _ => L.length - (intOf i).toNat)
    case atStart => exact ⟨0, _, Nat.zero_le _, rfl, HS3.out, rfl, HU3.out.congr (fun k _ => by simp [upOf, St.new, Tab.at, hdz]), HB3.out⟩
    case round =>
      obtain ⟨k, st, hk, rfl, hrun, hide, hup, hb⟩ := hrel
      have HRN := hidd hrun
      have HID := hidd hide
      have HUP := hidd hup
      have HB := hidd hb
      have lur := hup.lt
      have lsr := hrun.sat.lt
      clear hrun hide hup hb
      by_cases hlt : k < L.length
      · obtain ⟨x, hx⟩ : ∃ x, L[k]? = some x := ⟨_, List.getElem?_eq_getElem hlt⟩
        obtain ⟨g, o', rfl, hgl, hgc⟩ := HAT.out k x hx
        have hm := List.mem_of_getElem? hx
        have hx80 := HL80.out x hm
        have HLT := hidd hlt
        have hev := HE.out x hm
        have HEV := hidd (hev.below HB.out)
        obtain ⟨A2, c2, he2⟩ := mv_form hev
        have dd := fun (i : Nat) (u : Value) (hu : x.cells[i]? = some u) => (HB.out.cell (p := ⟨g, o' + k * 5 + i, none⟩) hgl).trans (hgc i u hu)
        obtain ⟨tt, htt⟩ : ∃ tt, x.t = tt := ⟨_, rfl⟩
        have d0 : wr.cell? ⟨g, o' + k * 5, none⟩ = some (.bool tt) := by rw [← htt]; exact dd 0 _ rfl
        have d1 : wr.cell? ⟨g, o' + k * 5 + 1, none⟩ = some (.int .i64 x.now) := dd 1 _ rfl
        have d2 : wr.cell? ⟨g, o' + k * 5 + 2, none⟩ = some (.int .i64 x.fr) := dd 2 _ rfl
        have d3 : wr.cell? ⟨g, o' + k * 5 + 3, none⟩ = some (.int .i64 x.ep) := dd 3 _ rfl
        have d4 : wr.cell? ⟨g, o' + k * 5 + 4, none⟩ = some (.slice A2 x.E.length c2) := by rw [← he2]; exact dd 4 _ rfl
        have k0 : (0 : Int) ≤ k := by omega
        have k1 : (k : Int) < L.length := by omega
        have HTT := hidd htt
        rw [he2] at HEV
        clear hx hgc dd hev hlt he2 hm htt
        go_upto_if 61 with fail
        generalize hW : World.alloc wr _ = W
        have hbW : Below wr.heap.size wr W := by rw [← hW]; exact Bl_alloc (Below.refl _ _) _
        have hxW : W.heap[wr.heap.size]? = some (.cells #[.bool tt, .int .i64 x.now, .int .i64 x.fr, .int .i64 x.ep, .slice A2 x.E.length c2] 36 (0, 0)) := by rw [← hW]; exact heap_new wr _
        have HRW := hidd (HRN.out.below hbW)
        have HBW := hidd (Bl_then HB.out hbW)
        have HEW := hidd (HEV.out.below hbW)
        have HUW := hidd (HUP.out.below hbW)
        have hsW : wr.heap.size ≤ W.heap.size := hbW.size
        have x1 : W.cell? ⟨wr.heap.size, 1, none⟩ = some (.int .i64 x.now) := cell_of_heap hxW 1
        have x2 : W.cell? ⟨wr.heap.size, 2, none⟩ = some (.int .i64 x.fr) := cell_of_heap hxW 2
        have x3 : W.cell? ⟨wr.heap.size, 3, none⟩ = some (.int .i64 x.ep) := cell_of_heap hxW 3
        have x4 : W.cell? ⟨wr.heap.size, 3 + 1, none⟩ = some (.slice A2 x.E.length c2) := cell_of_heap hxW 4
        have lsw : w.heap.size ≤ s := by omega
        clear hW hbW hxW d0 d1 d2 d3 d4
        go_cut [15] (fun a wx => ∃ A c, a = .slice A (st.outs x).length c ∧ OwnV wx W.heap.size (.slice A (st.outs x).length c) (st.outs x) ∧ Run wx s (st.step x) (k + 1) ∧ UpAt wx u (upOf st.T) ∧ Below w.heap.size w wx)
        case first =>
          cases tt with
          | true =>
            go_wp2_with fail
            refine (c13 HRW.out.sat HRW.out.ok (by omega) x.now).mono ?_
            rintro e w4 h4
            obtain ⟨A4, k4, rfl, ho4, hs4, hk4⟩ := h4.full HTT.out HRW.out.sat (by omega)
            have HO4 := hidd ho4
            have HR4 := hidd (⟨hs4, HRW.out.ok.step x⟩ : Run w4 s (st.step x) (k + 1))
            have HU4 := hidd (HUW.out.keeps hk4 (by omega))
            have HB4 := hidd (Keeps.bl HBW.out hk4 (by omega))
            clear h4 ho4 hs4 hk4
            go_wp2_with fail
            go_meet
            exact ⟨_, _, rfl, HO4.out, HR4.out, HU4.out, HB4.out⟩
          | false =>
            go_wp2_with fail
            refine (c15 (E := x.E) HRW.out.sat HRW.out.ok (by omega) x.now x.fr x.ep HEW.out (by omega)).mono ?_
            rintro e w4 h4
            obtain ⟨A4, k4, rfl, ho4, hs4, hk4⟩ := h4.full HTT.out HRW.out.sat
            have HO4 := hidd ho4
            have HR4 := hidd (⟨hs4, HRW.out.ok.step x⟩ : Run w4 s (st.step x) (k + 1))
            have HU4 := hidd (HUW.out.keeps hk4 (by omega))
            have HB4 := hidd (Keeps.bl HBW.out hk4 (by omega))
            clear h4 ho4 hs4 hk4
            go_wp2_with fail
            go_meet
            exact ⟨_, _, rfl, HO4.out, HR4.out, HU4.out, HB4.out⟩
        case rest =>
          obtain ⟨A4, c4, rfl, ho4, hr4, hu4, hb4⟩ := hcut
          obtain ⟨w4, hw4⟩ : ∃ x, x = wc := ⟨_, rfl⟩
          subst hw4
          have HT := hidd (turns HRN.out.ok x)
          have HIS := hidd ((step_id st x).1.trans HID.out)
          have hol := outs_len st x
          generalize st.outs x = LL at *
          generalize st.step x = su at *
          have HR4 := hidd hr4
          have HB4 := hidd hb4
          have HO4 := hidd ho4
          have HU4 := hidd hu4
          have lu4 := hu4.lt
          clear ho4 hr4 hu4 hb4 x1 x2 x3 x4
          go_upto_block 4 with fail
          go_cut [16] (fun _ wx => UpAt wx u (upOf su.T) ∧ Keeps (fun i => i = u) w4 wx)
          case first =>
            go_wp2_with fail
            go_loopw [16, 17] (fun i _ wi => ∃ j : Nat, j ≤ LL.length ∧ i = .int .i64 j ∧ UpAt wi u (foldE (upOf st.T) (LL.take j)) ∧ Keeps (fun i => i = u) w4 wi) (fun i _ _ => LL.length - (intOf i).toNat)
            case atStart => exact ⟨0, Nat.zero_le _, rfl, HU4.out, Keeps.refl _ _⟩
            case round =>
              obtain ⟨j, hj, rfl, hup, hkp⟩ := hrel
              have HUI := hidd hup
              have HKI := hidd hkp
              have hsz4 := hkp.size
              by_cases hlj : j < LL.length
              · obtain ⟨y, hy⟩ : ∃ y, LL[j]? = some y := ⟨_, List.getElem?_eq_getElem hlj⟩
                obtain ⟨⟨hn0, hn1, hn2⟩, hor⟩ := okL_at HT.out.1 hy
                obtain ⟨m, hm⟩ : ∃ m : Nat, y.n = (m : Int) := ⟨y.n.toNat, by omega⟩
                have hm64 : m < 64 := by omega
                obtain ⟨A5, c5, hv5, hat5⟩ := (HO4.out.rd ev_len).at
                obtain ⟨g5, o5, hA5, l5, hc5⟩ := hat5 j y hy
                simp only [Value.slice.injEq, true_and] at hv5
                obtain ⟨hv5, -⟩ := hv5
                have hA4 : A4 = some ⟨g5, o5, none⟩ := hv5.trans hA5
                clear hv5 hA5 hat5
                subst hA4
                have hg5 : W.heap.size ≤ g5 := HO4.out.base rfl
                have hne5 : g5 ≠ u := by omega
                have hcc := fun (i : Nat) (v : Value) (hv : y.cells[i]? = some v) => (World.cell?_of_block (w := w4) (a := ⟨g5, o5 + j * 3 + i, none⟩) (hkp.block g5 l5 hne5)).trans (hc5 i v hv)
                have a1 : wr.cell? ⟨g5, o5 + j * 3 + 1, none⟩ = some (.int .i64 m) := by rw [← hm]; exact hcc 1 _ rfl
                obtain ⟨u1, u2⟩ := hup.cell hm64
                have hid2 : ((m : Int) == id) = false := by
                  have e1 := HID.out
                  rw [beq_eq_false_iff_ne]; rw [← hm]; rw [← e1]; exact hn2
                have HY := hidd hy
                have HM := hidd hm
                have HLJ := hidd hlj
                have j0 : (0 : Int) ≤ j := by omega
                have j1 : (j : Int) < LL.length := by omega
                have m0 : (0 : Int) ≤ m := by omega
                have m1 : (m : Int) < 64 := by omega
                rw [hm] at hor
                rcases hor with ⟨hk1, hneg⟩ | ⟨hk2, heq⟩
                · have a0 : wr.cell? ⟨g5, o5 + j * 3, none⟩ = some (.int .i64 1) := by rw [← hk1]; exact hcc 0 _ rfl
                  have a2 : wr.cell? ⟨g5, o5 + j * 3 + 2, none⟩ = some (.int .i64 y.e) := hcc 2 _ rfl
                  have HK1 := hidd hk1
                  generalize foldE (upOf st.T) (LL.take j) m = z at *
                  clear hup hkp hy hm hcc hc5 hn0 hn1 hn2 hk1 hlj
                  go_upto_region 24 with fail
                  go_still_tail 12, (by kernel_rfl)
                  change wpList _ _ _ _ _ wr.drew
                  go_wp2_with fail
                  go_roundw
                  case rel => exact ⟨j + 1, by have := HLJ.out; omega, by go_num, UpAt.drew (HUI.out.next HY.out hm64 HM.out (by rw [if_pos HK1.out])), (HKI.out.setCell (.inr rfl) _).drew⟩
                  case measure => have := HLJ.out; simp [intOf]; omega
                · have a0 : wr.cell? ⟨g5, o5 + j * 3, none⟩ = some (.int .i64 2) := by rw [← hk2]; exact hcc 0 _ rfl
                  have a2 : wr.cell? ⟨g5, o5 + j * 3 + 2, none⟩ = some (.int .i64 (foldE (upOf st.T) (LL.take j) m)) := by rw [heq]; exact hcc 2 _ rfl
                  have HK2 := hidd hk2
                  have HEQ := hidd heq
                  clear heq
                  generalize foldE (upOf st.T) (LL.take j) m = z at *
                  clear hup hkp hy hm hcc hc5 hn0 hn1 hn2 hk2 hlj
                  go_wp2_with fail
                  go_roundw
                  case rel => exact ⟨j + 1, by have := HLJ.out; omega, by go_num, HUI.out.next HY.out hm64 HM.out (by rw [if_neg (by rw [HK2.out]; decide)]), HKI.out.setCell (.inr rfl) _⟩
                  case measure => have := HLJ.out; simp [intOf]; omega
              · obtain rfl : j = LL.length := by omega
                clear hup hkp
                go_wp2_with fail
                go_meet
                refine ⟨HUI.out.congr fun k _ => ?_, HKI.out⟩
                rw [List.take_of_length_le (Nat.le_refl _)]
                exact HT.out.2 k
          case rest =>
            obtain ⟨w5, hw5⟩ : ∃ x, x = wc := ⟨_, rfl⟩
            subst hw5
            obtain ⟨cu4, hcu4, -⟩ := HU4.out
            have HR5 := hidd (⟨HR4.out.sat.keepsU hcut.2 hcu4, HR4.out.ok⟩ : Run w5 s su (k + 1))
            have HU5 := hidd hcut.1
            have HB5 := hidd (Keeps.bl HB4.out hcut.2 hu0)
            have hkl2 : (linkL su.T).length ≤ 64 := Nat.le_trans (link_len su.T) (echoL_len su.T)
            clear hcut hcu4
            go_wp2_with fail
            refine (c22 HR5.out.sat HR5.out.ok.tabOk (by omega)).mono ?_
            rintro e w6 ⟨v6, rfl, hv6, hb6⟩
            have HR6 := hidd (HR5.out.below hb6)
            have HU6 := hidd (HU5.out.below hb6)
            have HB6 := hidd (Bl_then HB5.out hb6)
            have lu6 := HU6.out.lt
            obtain ⟨A6, c6, rfl, hat6⟩ := (hv6.rd ec_len).at
            have HAT6 := hidd hat6
            clear hv6 hb6 hat6
            go_upto_block 6 with fail
            go_cut [19] (fun n wx => n = .int .i64 (linkL su.T).length ∧ Below w6.heap.size w6 wx)
            case first =>
              go_wp2_with fail
              go_loopw [19, 20] (fun n i wi => ∃ q : Nat, q ≤ 64 ∧ i = .int .i64 q ∧ n = .int .i64 (rowsTo su.T (fun k => (su.T.at k).t) q).length ∧ Below w6.heap.size w6 wi) (fun _ i _ => 64 - (intOf i).toNat)
              case atStart => exact ⟨0, Nat.zero_le _, rfl, rfl, Below.refl _ _⟩
              case round =>
                obtain ⟨q, hq, rfl, rfl, hb⟩ := hrel
                have HBI := hidd hb
                have hlq := rowsTo_len su.T (fun k => (su.T.at k).t) q
                have hsz := hb.size
                by_cases hlt : q < 64
                · have hlink := link_at (st := su) hlt
                  have hsucc := rowsTo_succ su.T (fun k => (su.T.at k).t) q
                  have hlen : ∀ b, (su.T.at q).t = b → (rowsTo su.T (fun k => (su.T.at k).t) (q + 1)).length = (rowsTo su.T (fun k => (su.T.at k).t) q).length + (if b then 1 else 0) := fun b hb => by
                    rw [hsucc, hb, List.length_append]
                    cases b with
                    | false => simp
                    | true => rw [row_t hb]; simp
                  have HLEN := hidd hlen
                  obtain ⟨u1, -⟩ := (HU6.out.below hb).cell hlt
                  have hupq : upOf su.T q = if (su.T.at q).t then (su.T.at q).e else -1 := rfl
                  rw [hupq] at u1
                  have hge := (HR6.out.ok.at q).1
                  generalize hn5 : (rowsTo su.T (fun k => (su.T.at k).t) q).length = n5 at *
                  generalize hee : (su.T.at q).e = ee at *
                  obtain ⟨b, hbt⟩ : ∃ b, (su.T.at q).t = b := ⟨_, rfl⟩
                  have HN5 := hidd hn5
                  have HBT := hidd hbt
                  rw [hbt] at u1
                  have q0 : (0 : Int) ≤ q := by omega
                  have q1 : (q : Int) < 64 := by omega
                  have n0 : (0 : Int) ≤ n5 := by omega
                  have lur6 : u < wr.heap.size := by omega
                  have HLT2 := hidd hlt
                  cases b with
                  | false =>
                    simp only [Bool.false_eq_true, if_false] at u1
                    clear hb hlink hsucc hlen hupq hn5 hee hbt hlt
                    go_wp2_with fail
                    go_roundw
                    case rel => exact ⟨q + 1, by have := HLT2.out; omega, by go_num, by rw [HLEN.out _ HBT.out]; simp, HBI.out⟩
                    case measure => have := HLT2.out; simp [intOf]; omega
                  | true =>
                    simp only [if_true] at u1
                    have hl := hlink hbt
                    obtain ⟨g6, o6, rfl, l6, hc6⟩ := HAT6.out n5 _ hl
                    have a0 : wr.cell? ⟨g6, o6 + n5 * 2, none⟩ = some (.int .i64 q) := (hb.cell (p := ⟨g6, o6 + n5 * 2, none⟩) l6).trans (hc6 0 _ rfl)
                    have a1 : wr.cell? ⟨g6, o6 + n5 * 2 + 1, none⟩ = some (.int .i64 ee) := (hb.cell (p := ⟨g6, o6 + n5 * 2 + 1, none⟩) l6).trans (hc6 1 _ rfl)
                    have hnl : n5 < (linkL su.T).length := (List.getElem?_eq_some_iff.1 hl).1
                    have n1 : (n5 : Int) < (linkL su.T).length := by omega
                    have hd1 : decide ((linkL su.T).length ≤ n5) = false := by simp; omega
                    have lg6 : g6 < wr.heap.size := by omega
                    have hq2 := fun W => neq51 ⟨q, ee⟩ W
                    clear hb hlink hsucc hlen hupq hn5 hee hbt hlt hl hc6
                    go_upto_region 34 with fail
                    go_quiet (fail)
                    go_wp2_with fail
                    go_roundw
                    case rel => exact ⟨q + 1, by have := HLT2.out; omega, by go_num, by rw [HLEN.out _ HBT.out]; go_num, HBI.out.drewN _⟩
                    case measure => have := HLT2.out; simp [intOf]; omega
                · obtain rfl : q = 64 := by omega
                  clear hb
                  go_wp2_with fail
                  go_meet
                  exact ⟨by rw [linkL_to], HBI.out⟩
            case rest =>
              obtain ⟨rfl, hb⟩ := hcut
              have HC := hidd hb
              clear hb
              go_wp2_with fail
              go_roundw
              case rel => exact ⟨k + 1, su, by have := HLT.out; omega, by go_num, HR6.out.below HC.out, HIS.out, HU6.out.below HC.out, Bl_then HB6.out HC.out⟩
              case measure => have := HLT.out; simp [intOf]; omega
      · have HBr := HB
        go_wp2_with fail
        refine (c12 wr).mono ?_
        rintro e w2 ⟨rfl, hb2⟩
        have HB2 := hidd (Bl_then HB.out hb2)
        clear hb2
        go_wp2_with fail
        go_ret
        exact ⟨rfl, HB2.out⟩
set_option maxRecDepth 100000 in
set_option maxHeartbeats 4000000 in
theorem law4bad (id ep hold : Int) (v : Value) (L : List Mv) (w : World) (h : RdM w v L) (hE : EvsOk w L) (hS : Sm L) (hb : newB id ep hold = false ∨ fewB L = false) :
    Calls Try.prog 4 #[.int .i64 id, .int .i64 ep, .int .i64 hold, v] w fun e w' => e = .returned (.bool true) ∧ Below w.heap.size w w' := by
  obtain ⟨A, c, rfl, -⟩ := h.at
  have HRM := hidd h
  have HE := hidd hE
  have HSM := hidd hS
  clear h hE hS
  cases hn : newB id ep hold with
  | false =>
    clear hb
    go_enter Try.func4, Try.ntmps4
    go_wp2_with fail
    refine (c10 id ep hold _).mono ?_
    rintro e w1 h1
    obtain ⟨rfl, hb1⟩ := h1.bad hn
    have HB1 := hidd hb1
    clear h1 hb1 hn
    go_wp2_with fail
    refine (c12 w1).mono ?_
    rintro e w2 ⟨rfl, hb2⟩
    have HB2 := hidd (Bl_then HB1.out hb2)
    clear hb2
    go_wp2_with fail
    go_ret
    exact ⟨rfl, HB2.out⟩
  | true =>
    have hf : fewB L = false := by
      rcases hb with h | h
      · rw [hn] at h; cases h
      · exact h
    have HN := hidd hn
    have HF := hidd hf
    clear hb hn hf
    go_enter Try.func4, Try.ntmps4
    go_wp2_with fail
    refine (c10 id ep hold _).mono ?_
    rintro e w1 h1
    obtain ⟨s, rfl, -, -, hb1⟩ := h1.ok HN.out
    have HB1 := hidd hb1
    clear h1 hb1
    go_wp2_with (go_at_call 9; refine (c9 (HRM.out.below HB1.out) (HE.out.below HB1.out) HSM.out).mono ?_; rw [HF.out]; rintro e w2 ⟨rfl, rfl⟩)
    refine (c12 w1).mono ?_
    rintro e w2 ⟨rfl, hb2⟩
    have HB2 := hidd (Bl_then HB1.out hb2)
    clear hb2
    go_wp2_with fail
    go_ret
    exact ⟨rfl, HB2.out⟩
theorem law4 (id ep hold : Int) (v : Value) (L : List Mv) (w : World) (h : RdM w v L) (hE : EvsOk w L) (hL : L.length ≤ maxLen) (hN : ∀ o ∈ L, o.E.length ≤ maxLen ∧ I64 o.now ∧ I64 o.fr ∧ I64 o.ep) :
    Calls Try.prog 4 #[.int .i64 id, .int .i64 ep, .int .i64 hold, v] w fun e w' => e = .returned (.bool true) ∧ Below w.heap.size w w' := by
  have hS : Sm L := ⟨by unfold maxLen at hL; omega, fun o ho => by have := (hN o ho).1; unfold maxLen at this; omega⟩
  cases hn : newB id ep hold with
  | false => exact law4bad id ep hold v L w h hE hS (.inl hn)
  | true =>
    cases hf : fewB L with
    | false => exact law4bad id ep hold v L w h hE hS (.inr hf)
    | true => exact law4good id ep hold v L w h hE hf hn
end Go.Proofs.Ytocfnimeinongaa
