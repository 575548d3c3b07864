/- SenseDoes: the program's sensor and the document's. -/
import Derived.Test.YtocfnimeinongaaT
set_option linter.unusedSimpArgs false
set_option linter.unusedVariables false
namespace Go.Proofs.Ytocfnimeinongaa
open Go.RowKit
attribute [local go_sem ↓] Go.wp_at_zero Go.wp_at_succ
/-- What a call of the script answers. -/
def St.outs (st : St) (o : Mv) : List Ev := if o.t then (if timeB st o.now then tickOut st o.now else []) else (if hearErr st o.now o.fr o.ep o.E = 0 then hearOut st o.fr o.ep o.E else [])
def St.err (st : St) (o : Mv) : Int := if o.t then (if timeB st o.now then 0 else 1) else hearErr st o.now o.fr o.ep o.E
theorem tickOut_len (st : St) (now : Int) : (tickOut st now).length ≤ 64 := by
  unfold tickOut; rw [List.length_map]; exact Nat.le_trans (List.length_filter_le _ _) (keysL_len _)
theorem hearOut_len (st : St) (fr ep : Int) (E : List Ec) : (hearOut st fr ep E).length ≤ 2 := by
  unfold hearOut
  rw [List.length_append]
  split <;> split <;> (try split) <;> simp
theorem outs_len (st : St) (o : Mv) : (st.outs o).length ≤ 64 := by
  unfold St.outs
  split
  · split
    · exact tickOut_len _ _
    · simp
  · split
    · exact Nat.le_trans (hearOut_len _ _ _ _) (by omega)
    · simp
theorem TickPost.full {w : World} {s n : Nat} {st : St} {o : Mv} {e : Ending} {w' : World} (h : TickPost w s n st o.now e w') (ht : o.t = true) (hs : SAt w s n st) (hn : 64 ≤ n) : ∃ A c, e = .returned (.tuple #[.slice A (st.outs o).length c, .int .i64 (st.err o)]) ∧ OwnV w' w.heap.size (.slice A (st.outs o).length c) (st.outs o) ∧ SAt w' s (n + 1) (st.step o) ∧ Keeps (fun i => i = s) w w' := by
  have h2 := h.step ht hs hn
  unfold St.outs St.err
  rw [if_pos ht, if_pos ht]
  rcases h with ⟨h, rfl, rfl⟩ | ⟨h, v, rfl, h1, _, h3⟩
  · rw [if_neg (by rw [h]; simp), if_neg (by rw [h]; simp)]
    exact ⟨none, 0, rfl, OwnG.nil _ _ _ _ _, h2.2.1, h2.2.2⟩
  · rw [if_pos h, if_pos h]
    obtain ⟨A, c, rfl⟩ := (h1.rd ev_len).form
    exact ⟨A, c, rfl, h1, h2.2.1, h3⟩
theorem HearPost.full {w : World} {s n : Nat} {st : St} {o : Mv} {e : Ending} {w' : World} (h : HearPost w s n st o.now o.fr o.ep o.E e w') (ht : o.t = false) (hs : SAt w s n st) : ∃ A c, e = .returned (.tuple #[.slice A (st.outs o).length c, .int .i64 (st.err o)]) ∧ OwnV w' w.heap.size (.slice A (st.outs o).length c) (st.outs o) ∧ SAt w' s (n + 1) (st.step o) ∧ Keeps (fun i => i = s) w w' := by
  have h2 := h.step ht hs
  unfold St.outs St.err
  simp only [ht, Bool.false_eq_true, if_false]
  rcases h with ⟨h, rfl, hb⟩ | ⟨h, v, rfl, h1, _, h3⟩
  · rw [if_neg h]
    exact ⟨none, 0, rfl, OwnG.nil _ _ _ _ _, h2.2.1, h2.2.2⟩
  · rw [if_pos h, h]
    obtain ⟨A, c, rfl⟩ := (h1.rd ev_len).form
    exact ⟨A, c, rfl, h1, h2.2.1, h3⟩
theorem RAtR.below {w w' : World} {y r : Nat} {st : St} (h : RAtR w y r st) (k : Below w.heap.size w w') : RAtR w' y r st := by
  obtain ⟨cs, h1, h2, h3⟩ := h
  exact ⟨cs, (Keeps.below (S := fun _ => False) k).heapAt h1 (fun x => x), (Keeps.below (S := fun _ => False) k).heapAt h2 (fun x => x), h3⟩
theorem TickRPost.full {w : World} {y r : Nat} {st : St} {o : Mv} {e : Ending} {w' : World} (h : TickRPost w y r st o.now e w') (ht : o.t = true) (hs : RAtR w y r st) : ∃ A c, e = .returned (.tuple #[.slice A (st.outs o).length c, .int .i64 (st.err o)]) ∧ OwnV w' w.heap.size (.slice A (st.outs o).length c) (st.outs o) ∧ RAtR w' y r (st.step o) ∧ Keeps (fun i => i = y ∨ i = r) w w' := by
  unfold St.outs St.err St.step
  rw [if_pos ht, if_pos ht, if_pos ht]
  rcases h with ⟨h, rfl, rfl⟩ | ⟨h, v, rfl, h1, h2, h3⟩
  · rw [if_neg (by rw [h]; simp), if_neg (by rw [h]; simp), if_neg (by rw [h]; simp)]
    exact ⟨none, 0, rfl, OwnG.nil _ _ _ _ _, hs, Keeps.refl _ _⟩
  · rw [if_pos h, if_pos h, if_pos h]
    obtain ⟨A, c, rfl⟩ := (h1.rd ev_len).form
    exact ⟨A, c, rfl, h1, h2, h3⟩
theorem HearRPost.full {w : World} {y r : Nat} {st : St} {o : Mv} {e : Ending} {w' : World} (h : HearRPost w y r st o.now o.fr o.ep o.E e w') (ht : o.t = false) (hs : RAtR w y r st) : ∃ A c, e = .returned (.tuple #[.slice A (st.outs o).length c, .int .i64 (st.err o)]) ∧ OwnV w' w.heap.size (.slice A (st.outs o).length c) (st.outs o) ∧ RAtR w' y r (st.step o) ∧ Keeps (fun i => i = y ∨ i = r) w w' := by
  unfold St.outs St.err St.step
  simp only [ht, Bool.false_eq_true, if_false]
  rcases h with ⟨h, rfl, hb⟩ | ⟨h, v, rfl, h1, h2, h3⟩
  · rw [if_neg h, if_neg h]
    exact ⟨none, 0, rfl, OwnG.nil _ _ _ _ _, hs.below hb, Keeps.below hb⟩
  · rw [if_pos h, if_pos h, h]
    obtain ⟨A, c, rfl⟩ := (h1.rd ev_len).form
    exact ⟨A, c, rfl, h1, h2, h3⟩
theorem SAt.keepsR {w w' : World} {s n y r : Nat} {st su : St} (h : SAt w s n st) (hr : RAtR w y r su) (k : Keeps (fun i => i = y ∨ i = r) w w') : SAt w' s n st := by
  obtain ⟨p, b, h1, hp, hb⟩ := h
  obtain ⟨cs, g1, g2, _⟩ := hr
  obtain ⟨es, cl, hm⟩ := hb.isMap
  have a1 : ¬ (s = y ∨ s = r) := by
    rintro (rfl | rfl)
    · have := h1.symm.trans g1; simp at this
    · have := h1.symm.trans g2; simp at this
  have a2 : ¬ (p = y ∨ p = r) := by
    rintro (rfl | rfl)
    · have := hp.symm.trans g1; simp at this
    · have := hp.symm.trans g2; simp at this
  have a3 : ¬ (b = y ∨ b = r) := by
    rintro (rfl | rfl)
    · have := hm.symm.trans g1; simp at this
    · have := hm.symm.trans g2; simp at this
  exact ⟨p, b, k.heapAt h1 a1, k.heapAt hp a2, hb.keeps k a3⟩
theorem RAtR.keepsS {w w' : World} {s n y r : Nat} {st su : St} (hr : RAtR w y r su) (h : SAt w s n st) (k : Keeps (fun i => i = s) w w') : RAtR w' y r su := by
  obtain ⟨p, b, h1, _, _⟩ := h
  obtain ⟨cs, g1, g2, g3⟩ := hr
  have a1 : ¬ (y = s) := by
    rintro rfl
    have := h1.symm.trans g1; simp at this
  have a2 : ¬ (r = s) := by
    rintro rfl
    have := h1.symm.trans g2; simp at this
  exact ⟨cs, k.heapAt g1 a1, k.heapAt g2 a2, g3⟩
theorem RAtR.lt {w : World} {y r : Nat} {st : St} (h : RAtR w y r st) : y < w.heap.size ∧ r < w.heap.size := by
  obtain ⟨cs, g1, g2, _⟩ := h
  exact ⟨(Array.getElem?_eq_some_iff.1 g1).1, (Array.getElem?_eq_some_iff.1 g2).1⟩
theorem Keeps.bl2 {y r : Nat} {w0 w w' : World} (h : Below w0.heap.size w0 w) (k : Keeps (fun i => i = y ∨ i = r) w w') (hy : w0.heap.size ≤ y) (hr : w0.heap.size ≤ r) : Below w0.heap.size w0 w' :=
  h.trans (k.toBelow h.size (fun i e => by omega))
theorem NewRPost.ok {w : World} {id ep hold : Int} {e : Ending} {w' : World} (h : NewRPost w id ep hold e w') (hn : newB id ep hold = true) : ∃ s r, e = .returned (.tuple #[.pointer (some ⟨s, 0, none⟩), .int .i64 0]) ∧ RAtR w' s r (St.new id ep hold) ∧ w.heap.size ≤ s ∧ w.heap.size ≤ r ∧ Below w.heap.size w w' := by
  rcases h with ⟨hb, ⟨h, _⟩ | ⟨_, s, r, rfl, h1, h2, h3⟩⟩
  · rw [hn] at h; cases h
  · exact ⟨s, r, rfl, h1, h2, h3, hb⟩
theorem NewRPost.bad {w : World} {id ep hold : Int} {e : Ending} {w' : World} (h : NewRPost w id ep hold e w') (hn : newB id ep hold = false) : e = .returned (.tuple #[.pointer none, .int .i64 1]) ∧ Below w.heap.size w w' := by
  rcases h with ⟨hb, ⟨_, h⟩ | ⟨h, _⟩⟩
  · exact ⟨h, hb⟩
  · rw [hn] at h; cases h
/-- The two sensors. -/
structure Duo (w : World) (s y r : Nat) (st : St) (k : Nat) : Prop where
  sat : SAt w s (64 + k) st
  rat : RAtR w y r st
  ok : st.Ok
theorem Duo.below {w w' : World} {s y r k : Nat} {st : St} (d : Duo w s y r st k) (h : Below w.heap.size w w') : Duo w' s y r st k := ⟨d.sat.below h, d.rat.below h, d.ok⟩
/-- What both have answered. -/
structure Both (w0 w : World) (s y r : Nat) (st : St) (k : Nat) (er : Int) (v1 v2 : Value) (L : List Ev) : Prop where
  duo : Duo w s y r st k
  keep : Below w0.heap.size w0 w
  one : RdV w v1 L
  two : RdV w v2 L
  len : L.length ≤ 64
set_option maxRecDepth 100000 in
set_option maxHeartbeats 8000000 in
theorem law3good (id ep hold : Int) (v : Value) (L : List Mv) (w : World) (h : RdM w v L) (hE : EvsOk w L) (hL : fewB L = true) (hn : newB id ep hold = true) :
    Calls Try.prog 3 #[.int .i64 id, .int .i64 ep, .int .i64 hold, v] w fun e w' => e = .returned (.bool true) ∧ Below w.heap.size w w' := by
  obtain ⟨hl120, hl80⟩ := fewB_iff hL
  obtain ⟨A, c, rfl, hat⟩ := h.at
  have HAT := hidd hat
  have HRM := hidd h
  have HE := hidd hE
  have HL80 := hidd hl80
  have HF := hidd hL
  have HNB := hidd hn
  have HSM := hidd (show Sm L from ⟨by omega, fun o ho => by have := hl80 o ho; omega⟩)
  clear h hat hE hL hl80 hn
  go_enter Try.func3, Try.ntmps3
  go_wp2_with (go_at_call 9; refine (c9 HRM.out HE.out HSM.out).mono ?_; rw [HF.out]; rintro e w2 ⟨rfl, rfl⟩)
  refine (c10 id ep hold _).mono ?_
  rintro e w1 h1
  obtain ⟨s, rfl, hs1, ls1, hb1⟩ := h1.ok HNB.out
  have HS1 := hidd hs1
  have HB1 := hidd hb1
  clear h1 hs1 hb1
  go_wp2_with fail
  refine (c11 id ep hold _).mono ?_
  rintro e w2 h2
  obtain ⟨y, r, rfl, hr2, ly2, lr2, hb2⟩ := h2.ok HNB.out
  have hsl := HS1.out.lt
  have hyl := hr2.lt
  have HD2 := hidd (⟨(HS1.out.below hb2).mono (by omega), hr2, St.Ok.new HNB.out⟩ : Duo w2 s y r (St.new id ep hold) 0)
  have HB2 := hidd (Bl_then HB1.out hb2)
  have hbs := HB1.out.size
  have by0 : w.heap.size ≤ y := by omega
  have br0 : w.heap.size ≤ r := by omega
  clear h2 hr2 hb2
  go_wp2_with fail
  go_loopw [13] (fun i wr => ∃ (k : Nat) (st : St), k ≤ L.length ∧ i = .int .i64 k ∧ Duo wr s y r st k ∧ Below w.heap.size w wr) (fun i _ => L.length - (intOf i).toNat)
  case atStart => exact ⟨0, _, Nat.zero_le _, rfl, HD2.out, HB2.out⟩
  case round =>
    obtain ⟨k, st, hk, rfl, hduo, hb⟩ := hrel
    have HD := hidd hduo
    have HB := hidd hb
    have lsr := hduo.sat.lt
    have lyr := hduo.rat.lt.1
    have lrr := hduo.rat.lt.2
    clear hduo hb
    by_cases hlt : k < L.length
    · obtain ⟨x, hx⟩ : ∃ x, L[k]? = some x := ⟨_, List.getElem?_eq_getElem hlt⟩
      obtain ⟨g, o', rfl, hgl, hgc⟩ := HAT.out k x hx
      have hm := List.mem_of_getElem? hx
      have hx80 := HL80.out x hm
      have HLT := hidd hlt
      have hev := HE.out x hm
      have HEV := hidd (hev.below HB.out)
      obtain ⟨A2, c2, he2⟩ := mv_form hev
      have dd := fun (i : Nat) (u : Value) (hu : x.cells[i]? = some u) => (HB.out.cell (p := ⟨g, o' + k * 5 + i, none⟩) hgl).trans (hgc i u hu)
      obtain ⟨tt, htt⟩ : ∃ tt, x.t = tt := ⟨_, rfl⟩
      have d0 : wr.cell? ⟨g, o' + k * 5, none⟩ = some (.bool tt) := by rw [← htt]; exact dd 0 _ rfl
      have d1 : wr.cell? ⟨g, o' + k * 5 + 1, none⟩ = some (.int .i64 x.now) := dd 1 _ rfl
      have d2 : wr.cell? ⟨g, o' + k * 5 + 2, none⟩ = some (.int .i64 x.fr) := dd 2 _ rfl
      have d3 : wr.cell? ⟨g, o' + k * 5 + 3, none⟩ = some (.int .i64 x.ep) := dd 3 _ rfl
      have d4 : wr.cell? ⟨g, o' + k * 5 + 4, none⟩ = some (.slice A2 x.E.length c2) := by rw [← he2]; exact dd 4 _ rfl
      have k0 : (0 : Int) ≤ k := by omega
      have k1 : (k : Int) < L.length := by omega
      have HTT := hidd htt
      have HXM := hidd hm
      have HEVV := hidd he2
      rw [he2] at HEV
      clear hx hgc dd hev hlt he2 hm htt
      go_upto_if 64 with fail
      generalize hW : World.alloc wr _ = W
      have hbW : Below wr.heap.size wr W := by rw [← hW]; exact Bl_alloc (Below.refl _ _) _
      have hxW : W.heap[wr.heap.size]? = some (.cells #[.bool tt, .int .i64 x.now, .int .i64 x.fr, .int .i64 x.ep, .slice A2 x.E.length c2] 36 (0, 0)) := by rw [← hW]; exact heap_new wr _
      have HDW := hidd (HD.out.below hbW)
      have HBW := hidd (Bl_then HB.out hbW)
      have HEW := hidd (HEV.out.below hbW)
      have HXW := hidd hxW
      have lsW := HDW.out.sat.lt
      have lyW := HDW.out.rat.lt
      have hsW : wr.heap.size ≤ W.heap.size := hbW.size
      have x1 : W.cell? ⟨wr.heap.size, 1, none⟩ = some (.int .i64 x.now) := cell_of_heap hxW 1
      have x2 : W.cell? ⟨wr.heap.size, 2, none⟩ = some (.int .i64 x.fr) := cell_of_heap hxW 2
      have x3 : W.cell? ⟨wr.heap.size, 3, none⟩ = some (.int .i64 x.ep) := cell_of_heap hxW 3
      have x4 : W.cell? ⟨wr.heap.size, 3 + 1, none⟩ = some (.slice A2 x.E.length c2) := cell_of_heap hxW 4
      have HOL := hidd (outs_len st x)
      clear hW hbW hxW d0 d1 d2 d3 d4
      go_cut [15, 16, 17, 18] (fun a b g h wx => ∃ A c B d, a = .slice A (st.outs x).length c ∧ b = .slice B (st.outs x).length d ∧ g = .int .i64 (st.err x) ∧ h = .int .i64 (st.err x) ∧ Both w wx s y r (st.step x) (k + 1) (st.err x) (.slice A (st.outs x).length c) (.slice B (st.outs x).length d) (st.outs x))
      case first =>
        cases tt with
        | true =>
          go_wp2_with fail
          refine (c13 HDW.out.sat HDW.out.ok (by omega) x.now).mono ?_
          rintro e w3 h3
          obtain ⟨A3, k3, rfl, ho3, hs3, hk3⟩ := h3.full HTT.out HDW.out.sat (by omega)
          have HO3 := hidd ho3
          have HS3 := hidd hs3
          have HR3 := hidd (HDW.out.rat.keepsS HDW.out.sat hk3)
          have HB3 := hidd (Keeps.bl HBW.out hk3 (by omega))
          have hx3 := hk3.heapAt HXW.out (by omega)
          have HX3 := hidd hx3
          have y1 : w3.cell? ⟨wr.heap.size, 1, none⟩ = some (.int .i64 x.now) := cell_of_heap hx3 1
          clear h3 ho3 hs3 hk3 hx3
          go_wp2_with fail
          refine (c14 HR3.out HDW.out.ok x.now).mono ?_
          rintro e w4 h4
          obtain ⟨B4, k4, rfl, ho4, hs4, hk4⟩ := h4.full HTT.out HR3.out
          have HO4 := hidd ho4
          have HR4 := hidd hs4
          have HS4 := hidd (HS3.out.keepsR HR3.out hk4)
          have HB4 := hidd (Keeps.bl2 HB3.out hk4 by0 br0)
          have HO34 := hidd (HO3.out.keeps hk4 (fun j hj e => by have := HO3.out.base hj; omega))
          clear h4 ho4 hs4 hk4
          go_wp2_with fail
          go_meet
          exact ⟨A3, k3, B4, k4, rfl, rfl, rfl, rfl, ⟨HS4.out.mono (by omega), HR4.out, HDW.out.ok.step x⟩, HB4.out, HO34.out.rd ev_len, HO4.out.rd ev_len, HOL.out⟩
        | false =>
          go_wp2_with fail
          refine (c15 (E := x.E) HDW.out.sat HDW.out.ok (by omega) x.now x.fr x.ep HEW.out (by omega)).mono ?_
          rintro e w3 h3
          obtain ⟨A3, k3, rfl, ho3, hs3, hk3⟩ := h3.full HTT.out HDW.out.sat
          have HO3 := hidd ho3
          have HS3 := hidd hs3
          have HR3 := hidd (HDW.out.rat.keepsS HDW.out.sat hk3)
          have HB3 := hidd (Keeps.bl HBW.out hk3 (by omega))
          have HE3 := hidd ((HE.out x HXM.out).below HB3.out)
          have hx3 := hk3.heapAt HXW.out (by omega)
          have y1 : w3.cell? ⟨wr.heap.size, 1, none⟩ = some (.int .i64 x.now) := cell_of_heap hx3 1
          have y2 : w3.cell? ⟨wr.heap.size, 2, none⟩ = some (.int .i64 x.fr) := cell_of_heap hx3 2
          have y3 : w3.cell? ⟨wr.heap.size, 3, none⟩ = some (.int .i64 x.ep) := cell_of_heap hx3 3
          have y4 : w3.cell? ⟨wr.heap.size, 3 + 1, none⟩ = some (.slice A2 x.E.length c2) := cell_of_heap hx3 4
          clear h3 ho3 hs3 hk3 hx3
          go_wp2_with fail
          refine (c16 (E := x.E) HR3.out HDW.out.ok x.now x.fr x.ep (HEVV.out ▸ HE3.out) (by omega)).mono ?_
          rintro e w4 h4
          obtain ⟨B4, k4, rfl, ho4, hs4, hk4⟩ := h4.full HTT.out HR3.out
          have HO4 := hidd ho4
          have HR4 := hidd hs4
          have HS4 := hidd (HS3.out.keepsR HR3.out hk4)
          have HB4 := hidd (Keeps.bl2 HB3.out hk4 by0 br0)
          have HO34 := hidd (HO3.out.keeps hk4 (fun j hj e => by have := HO3.out.base hj; omega))
          clear h4 ho4 hs4 hk4
          go_wp2_with fail
          go_meet
          exact ⟨A3, k3, B4, k4, rfl, rfl, rfl, rfl, ⟨HS4.out.mono (by omega), HR4.out, HDW.out.ok.step x⟩, HB4.out, HO34.out.rd ev_len, HO4.out.rd ev_len, HOL.out⟩
      case rest =>
        obtain ⟨A3, k3, B4, k4, rfl, rfl, rfl, rfl, hB⟩ := hcut
        have hBo := hB.duo.ok
        generalize st.err x = er at *
        generalize st.outs x = LL at *
        generalize st.step x = su at *
        have HBO := hidd hB
        have HOK := hidd hBo
        have hlen := hB.len
        have hkl := (echoL_len su.T)
        have hkl2 : (linkL su.T).length ≤ 64 := Nat.le_trans (link_len su.T) hkl
        have hz : (er != er) = false := by simp
        clear hB hBo x1 x2 x3 x4
        go_wp2_with fail
        refine (c17 HBO.out.one HBO.out.two (by omega)).mono ?_
        rintro e w3 ⟨rfl, hb3⟩
        have HD3 := hidd (HBO.out.duo.below hb3)
        have HB3 := hidd (Bl_then HBO.out.keep hb3)
        clear hb3
        go_wp2_with fail
        refine (c19 HD3.out.sat HOK.out.tabOk (by omega)).mono ?_
        rintro e w4 ⟨v5, rfl, hv5, hb4⟩
        have HV5 := hidd (hv5.rd ec_len)
        have HD4 := hidd (HD3.out.below hb4)
        have HB4 := hidd (Bl_then HB3.out hb4)
        obtain ⟨A5, c5, rfl⟩ := (hv5.rd ec_len).form
        clear hv5 hb4
        go_wp2_with fail
        refine (c20 HD4.out.rat.rat).mono ?_
        rintro e w5 ⟨v6, rfl, hv6, hb5⟩
        have HV6 := hidd (hv6.rd ec_len)
        have HV55 := hidd (HV5.out.below hb5)
        have HD5 := hidd (HD4.out.below hb5)
        have HB5 := hidd (Bl_then HB4.out hb5)
        obtain ⟨A6, c6, rfl⟩ := (hv6.rd ec_len).form
        clear hv6 hb5
        go_wp2_with fail
        refine (c18 (L := echoL su.T) su.ep HV55.out HV6.out (by omega)).mono ?_
        rintro e w6 ⟨rfl, hb6⟩
        have HD6 := hidd (HD5.out.below hb6)
        have HB6 := hidd (Bl_then HB5.out hb6)
        clear hb6
        go_wp2_with fail
        refine (c22 HD6.out.sat HOK.out.tabOk (by omega)).mono ?_
        rintro e w7 ⟨v7, rfl, hv7, hb7⟩
        have HV7 := hidd (hv7.rd ec_len)
        have HD7 := hidd (HD6.out.below hb7)
        have HB7 := hidd (Bl_then HB6.out hb7)
        obtain ⟨A7, c7, rfl⟩ := (hv7.rd ec_len).form
        clear hv7 hb7
        go_wp2_with fail
        refine (c23 HD7.out.rat.rat).mono ?_
        rintro e w8 ⟨v8, rfl, hv8, hb8⟩
        have HV8 := hidd (hv8.rd ec_len)
        have HV78 := hidd (HV7.out.below hb8)
        have HD8 := hidd (HD7.out.below hb8)
        have HB8 := hidd (Bl_then HB7.out hb8)
        obtain ⟨A8, c8, rfl⟩ := (hv8.rd ec_len).form
        clear hv8 hb8
        go_wp2_with fail
        refine (c21 (L := linkL su.T) HV78.out HV8.out (by omega)).mono ?_
        rintro e w9 ⟨rfl, hb9⟩
        have HD9 := hidd (HD8.out.below hb9)
        have HB9 := hidd (Bl_then HB8.out hb9)
        clear hb9
        go_wp2_with fail
        go_roundw
        case rel => exact ⟨k + 1, su, by have := HLT.out; omega, by go_num, HD9.out, HB9.out⟩
        case measure => have := HLT.out; simp [intOf]; omega
    · go_wp2_with fail
      refine (c12 wr).mono ?_
      rintro e w2 ⟨rfl, hb2⟩
      have HB3 := hidd (Bl_then HB.out hb2)
      clear hb2
      go_wp2_with fail
      go_ret
      exact ⟨rfl, HB3.out⟩
set_option maxRecDepth 100000 in
set_option maxHeartbeats 4000000 in
theorem law3 (id ep hold : Int) (v : Value) (L : List Mv) (w : World) (h : RdM w v L) (hE : EvsOk w L) (hL : L.length ≤ maxLen) (hN : ∀ o ∈ L, o.E.length ≤ maxLen ∧ I64 o.now ∧ I64 o.fr ∧ I64 o.ep) :
    Calls Try.prog 3 #[.int .i64 id, .int .i64 ep, .int .i64 hold, v] w fun e w' => e = .returned (.bool true) ∧ Below w.heap.size w w' := by
  have hS : Sm L := ⟨by unfold maxLen at hL; omega, fun o ho => by have := (hN o ho).1; unfold maxLen at this; omega⟩
  cases hf : fewB L with
  | true =>
    cases hn : newB id ep hold with
    | true => exact law3good id ep hold v L w h hE hf hn
    | false =>
      obtain ⟨A, c, rfl, -⟩ := h.at
      have HRM := hidd h
      have HE := hidd hE
      have HSM := hidd hS
      have HF := hidd hf
      have HN := hidd hn
      clear h hE hS hL hN hf hn
      go_enter Try.func3, Try.ntmps3
      go_wp2_with (go_at_call 9; refine (c9 HRM.out HE.out HSM.out).mono ?_; rw [HF.out]; rintro e w2 ⟨rfl, rfl⟩)
      refine (c10 id ep hold _).mono ?_
      rintro e w1 h1
      obtain ⟨rfl, hb1⟩ := h1.bad HN.out
      have HB1 := hidd hb1
      clear h1 hb1
      go_wp2_with fail
      refine (c11 id ep hold _).mono ?_
      rintro e w2 h2
      obtain ⟨rfl, hb2⟩ := h2.bad HN.out
      have HB2 := hidd (Bl_then HB1.out hb2)
      clear h2 hb2
      go_wp2_with fail
      refine (c12 w2).mono ?_
      rintro e w3 ⟨rfl, hb3⟩
      have HB3 := hidd (Bl_then HB2.out hb3)
      clear hb3
      go_wp2_with fail
      go_ret
      exact ⟨rfl, HB3.out⟩
  | false =>
    obtain ⟨A, c, rfl, -⟩ := h.at
    have HRM := hidd h
    have HE := hidd hE
    have HSM := hidd hS
    have HF := hidd hf
    clear h hE hS hL hN hf
    go_enter Try.func3, Try.ntmps3
    go_wp2_with (go_at_call 9; refine (c9 HRM.out HE.out HSM.out).mono ?_; rw [HF.out]; rintro e w2 ⟨rfl, rfl⟩)
    go_ret
    exact ⟨rfl, Below.refl _ _⟩
end Go.Proofs.Ytocfnimeinongaa
