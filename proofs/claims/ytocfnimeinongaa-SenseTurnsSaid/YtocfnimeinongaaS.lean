/- SenseKeeps: what is refused. -/
import Derived.Test.YtocfnimeinongaaR
set_option linter.unusedSimpArgs false
set_option linter.unusedVariables false
namespace Go.Proofs.Ytocfnimeinongaa
open Go.RowKit
attribute [local go_sem ↓] Go.wp_at_zero Go.wp_at_succ
/-- What a call of the script makes of a sensor. -/
def St.step (st : St) (o : Mv) : St :=
  if o.t then (if timeB st o.now then st.tick o.now else st) else (if hearErr st o.now o.fr o.ep o.E = 0 then st.hear o.now o.fr o.ep o.E else st)
theorem St.Ok.step {st : St} (h : st.Ok) (o : Mv) : (st.step o).Ok := by
  unfold St.step
  split
  · split
    · exact h.tick (by assumption)
    · exact h
  · split
    · exact h.hear (by assumption)
    · exact h
theorem TickPost.step {w : World} {s n : Nat} {st : St} {o : Mv} {e : Ending} {w' : World} (h : TickPost w s n st o.now e w') (ht : o.t = true) (hs : SAt w s n st) (hn : 64 ≤ n) : (∃ v u, e = .returned (.tuple #[v, u])) ∧ SAt w' s (n + 1) (st.step o) ∧ Keeps (fun i => i = s) w w' := by
  unfold St.step
  rw [if_pos ht]
  rcases h with ⟨h, rfl, rfl⟩ | ⟨h, v, rfl, h1, h2, h3⟩
  · rw [if_neg (by rw [h]; simp)]
    refine ⟨⟨_, _, rfl⟩, ?_, Keeps.refl _ _⟩
    obtain ⟨p, b, g1, g2, g3⟩ := hs
    exact ⟨p, b, g1, g2, g3.mono (by omega)⟩
  · rw [if_pos h]
    refine ⟨⟨_, _, rfl⟩, ?_, h3⟩
    obtain ⟨p, b, g1, g2, g3⟩ := h2
    exact ⟨p, b, g1, g2, g3.mono (by omega)⟩
theorem HearPost.step {w : World} {s n : Nat} {st : St} {o : Mv} {e : Ending} {w' : World} (h : HearPost w s n st o.now o.fr o.ep o.E e w') (ht : o.t = false) (hs : SAt w s n st) : (∃ v u, e = .returned (.tuple #[v, u])) ∧ SAt w' s (n + 1) (st.step o) ∧ Keeps (fun i => i = s) w w' := by
  unfold St.step
  rw [if_neg (by rw [ht]; simp)]
  rcases h with ⟨h, rfl, hb⟩ | ⟨h, v, rfl, h1, h2, h3⟩
  · rw [if_neg h]
    refine ⟨⟨_, _, rfl⟩, ?_, Keeps.below hb⟩
    obtain ⟨p, b, g1, g2, g3⟩ := hs.below hb
    exact ⟨p, b, g1, g2, g3.mono (by omega)⟩
  · rw [if_pos h]
    exact ⟨⟨_, _, rfl⟩, h2, h3⟩
theorem SAt.mono {w : World} {s n m : Nat} {st : St} (h : SAt w s n st) (hm : n ≤ m) : SAt w s m st := by
  obtain ⟨p, b, g1, g2, g3⟩ := h
  exact ⟨p, b, g1, g2, g3.mono hm⟩
theorem EvsOk.keepsBelow {w0 w : World} {L : List Mv} (h : EvsOk w0 L) (k : Below w0.heap.size w0 w) : EvsOk w L := h.below k
theorem mv_form {w : World} {o : Mv} (h : RdE w o.ev o.E) : ∃ A c, o.ev = .slice A o.E.length c := h.form
/-- A sensor that came out of a script. -/
structure Run (w : World) (s : Nat) (st : St) (k : Nat) : Prop where
  sat : SAt w s (64 + k) st
  ok : st.Ok
theorem Run.tick {w : World} {s k : Nat} {st : St} {o : Mv} {e : Ending} {w' : World} (r : Run w s st k) (h : TickPost w s (64 + k) st o.now e w') (ht : o.t = true) : (∃ v u, e = .returned (.tuple #[v, u])) ∧ Run w' s (st.step o) (k + 1) ∧ Keeps (fun i => i = s) w w' := by
  obtain ⟨h1, h2, h3⟩ := h.step ht r.sat (by omega)
  exact ⟨h1, ⟨h2, r.ok.step o⟩, h3⟩
theorem Run.hear {w : World} {s k : Nat} {st : St} {o : Mv} {e : Ending} {w' : World} (r : Run w s st k) (h : HearPost w s (64 + k) st o.now o.fr o.ep o.E e w') (ht : o.t = false) : (∃ v u, e = .returned (.tuple #[v, u])) ∧ Run w' s (st.step o) (k + 1) ∧ Keeps (fun i => i = s) w w' := by
  obtain ⟨h1, h2, h3⟩ := h.step ht r.sat
  exact ⟨h1, ⟨h2, r.ok.step o⟩, h3⟩
theorem Run.below {w w' : World} {s k : Nat} {st : St} (r : Run w s st k) (h : Below w.heap.size w w') : Run w' s st k := ⟨r.sat.below h, r.ok⟩
set_option maxRecDepth 100000 in
set_option maxHeartbeats 8000000 in
theorem law6good (id ep hold : Int) (v : Value) (L : List Mv) (o : Mv) (w : World) (h : RdM w v L) (hE : EvsOk w L) (hL : fewB L = true) (hR : RdE w o.ev o.E) (h80 : o.E.length ≤ 80) (hn : newB id ep hold = true) :
    Calls Try.prog 6 #[.int .i64 id, .int .i64 ep, .int .i64 hold, v, .agg #[.bool o.t, .int .i64 o.now, .int .i64 o.fr, .int .i64 o.ep, o.ev]] w fun e w' => e = .returned (.bool true) ∧ Below w.heap.size w w' := by
  obtain ⟨hl120, hl80⟩ := fewB_iff hL
  obtain ⟨A, c, rfl, hat⟩ := h.at
  have HAT := hidd hat
  have HRM := hidd h
  have HE := hidd hE
  have HL80 := hidd hl80
  have HF := hidd hL
  have HR := hidd hR
  have HNB := hidd hn
  have HSM := hidd (show Sm L from ⟨by omega, fun o ho => by have := hl80 o ho; omega⟩)
  obtain ⟨Ao, co, heo⟩ := mv_form hR
  have HEO := hidd heo
  have hd80 : ¬ (80 : Int) < o.E.length := by omega
  rw [heo]
  generalize hot : o.t = tt
  have HOT := hidd hot
  clear h hat hE hL hR hl80 hn heo hot
  go_enter Try.func6, Try.ntmps6
  go_wp2_with fail
  refine (c10 id ep hold _).mono ?_
  rintro e w1 h1
  obtain ⟨s, rfl, hs1, ls1, hb1⟩ := h1.ok HNB.out
  have hsl := hs1.lt
  have HS1 := hidd (⟨hs1.mono (by omega), St.Ok.new HNB.out⟩ : Run w1 s (St.new id ep hold) 0)
  have HBX := hidd ((hb1.block w.heap.size (by simp)).trans (heap_new w _))
  have HB1 := hidd (Bl_then (Bl_alloc (Below.refl w.heap.size w) _) hb1)
  have hls : w.heap.size < s := by simp at ls1; omega
  have bx4 : w1.cell? ⟨w.heap.size, 3 + 1, none⟩ = some (.slice Ao o.E.length co) := cell_of_heap HBX.out 4
  clear h1 hs1 hb1
  go_wp2_with (go_at_call 9; refine (c9 (HRM.out.below HB1.out) (HE.out.below HB1.out) HSM.out).mono ?_; rw [HF.out]; rintro e w2 ⟨rfl, rfl⟩)
  go_loopw [13] (fun i wr => ∃ (k : Nat) (st : St), k ≤ L.length ∧ i = .int .i64 k ∧ Run wr s st k ∧ Keeps (fun i => i = s) w1 wr) (fun i _ => L.length - (intOf i).toNat)
  case atStart => exact ⟨0, _, Nat.zero_le _, rfl, HS1.out, Keeps.refl _ _⟩
  case round =>
    obtain ⟨k, st, hk, rfl, hrun, hkp⟩ := hrel
    have HK := hidd hkp
    have HRN := hidd hrun
    have hbw : Below w.heap.size w wr := Keeps.bl HB1.out hkp (by omega)
    have HB := hidd hbw
    clear hkp hrun hbw
    by_cases hlt : k < L.length
    · obtain ⟨x, hx⟩ : ∃ x, L[k]? = some x := ⟨_, List.getElem?_eq_getElem hlt⟩
      obtain ⟨g, o', rfl, hgl, hgc⟩ := HAT.out k x hx
      have hm := List.mem_of_getElem? hx
      have hx80 := HL80.out x hm
      have HX := hidd hx
      have HLT := hidd hlt
      have hev := HE.out x hm
      have HEV := hidd (hev.below HB.out)
      obtain ⟨A2, c2, he2⟩ := mv_form hev
      have dd := fun (i : Nat) (u : Value) (hu : x.cells[i]? = some u) => (HB.out.cell (p := ⟨g, o' + k * 5 + i, none⟩) hgl).trans (hgc i u hu)
      have d0 : wr.cell? ⟨g, o' + k * 5, none⟩ = some (.bool x.t) := dd 0 _ rfl
      have d1 : wr.cell? ⟨g, o' + k * 5 + 1, none⟩ = some (.int .i64 x.now) := dd 1 _ rfl
      have d2 : wr.cell? ⟨g, o' + k * 5 + 2, none⟩ = some (.int .i64 x.fr) := dd 2 _ rfl
      have d3 : wr.cell? ⟨g, o' + k * 5 + 3, none⟩ = some (.int .i64 x.ep) := dd 3 _ rfl
      have d4 : wr.cell? ⟨g, o' + k * 5 + 3 + 1, none⟩ = some (.slice A2 x.E.length c2) := by rw [← he2]; exact dd 4 _ rfl
      have k0 : (0 : Int) ≤ k := by omega
      have k1 : (k : Int) < L.length := by omega
      rw [he2] at HEV
      clear hx hgc dd hev hlt he2 hm
      cases htk : x.t with
      | true =>
        rw [htk] at d0
        have HTK := hidd htk
        clear htk
        go_wp2_with fail
        refine (c13 HRN.out.sat HRN.out.ok (by omega) x.now).mono ?_
        rintro e w3 h3
        obtain ⟨⟨v3, u3, rfl⟩, hr3, hk3⟩ := HRN.out.tick h3 HTK.out
        have HR3 := hidd hr3
        have HK3 := hidd (HK.out.trans hk3)
        clear h3 hr3 hk3
        go_wp2_with fail
        go_roundw
        case rel => exact ⟨k + 1, _, by have := HLT.out; omega, by go_num, HR3.out, HK3.out⟩
        case measure => have := HLT.out; simp [intOf]; omega
      | false =>
        rw [htk] at d0
        have HTK := hidd htk
        clear htk
        go_wp2_with fail
        go_still_tail 16, (by kernel_rfl)
        change wpList _ _ _ _ _ wr.drew
        go_wp2_with fail
        refine (c15 (E := x.E) (HRN.out.sat.below (Bl_drew (Below.refl _ _))) HRN.out.ok (by omega) x.now x.fr x.ep (HEV.out.below (Bl_drew (Below.refl _ _))) (by omega)).mono ?_
        rintro e w3 h3
        obtain ⟨⟨v3, u3, rfl⟩, hr3, hk3⟩ := (HRN.out.below (Bl_drew (Below.refl _ _))).hear h3 HTK.out
        have HR3 := hidd hr3
        have HK3 := hidd (HK.out.drew.trans hk3)
        clear h3 hr3 hk3
        go_wp2_with fail
        go_roundw
        case rel => exact ⟨k + 1, _, by have := HLT.out; omega, by go_num, HR3.out, HK3.out⟩
        case measure => have := HLT.out; simp [intOf]; omega
    · obtain rfl : k = L.length := by omega
      have hkl := (echoL_len st.T)
      have hkl2 : (linkL st.T).length ≤ 64 := Nat.le_trans (List.length_filter_le _ _) hkl
      have HBXr := hidd (HK.out.heapAt HBX.out (by omega))
      have hst := HRN.out.ok
      have HST := hidd hst
      have HTB := hidd hst.tabOk
      clear hst hkl hkl2
      go_wp2_with fail
      refine (c19 HRN.out.sat HTB.out (by omega)).mono ?_
      rintro e w3 ⟨v5, rfl, hv5, hb3⟩
      have HV5 := hidd (hv5.rd ec_len)
      have HR3 := hidd (HRN.out.below hb3)
      have HB3 := hidd (Bl_then HB.out hb3)
      have lwr := (Array.getElem?_eq_some_iff.1 HBXr.out).1
      have HBX3 := hidd ((hb3.block _ lwr).trans HBXr.out)
      obtain ⟨A5, c5, rfl⟩ := (hv5.rd ec_len).form
      clear hv5 hb3 lwr
      go_wp2_with fail
      refine (c22 (HR3.out.sat.below (Bl_alloc (Below.refl _ _) _)) HTB.out (by omega)).mono ?_
      rintro e w4 ⟨v6, rfl, hv6, hb4⟩
      have HV6 := hidd (hv6.rd ec_len)
      have hb34 : Below w3.heap.size w3 w4 := (Bl_alloc (Below.refl w3.heap.size w3) _).trans (hb4.mono (by simp))
      have HV54 := hidd (HV5.out.below hb34)
      have HR4 := hidd (HR3.out.below hb34)
      have HB4 := hidd (Bl_then HB3.out hb34)
      have lw3 := (Array.getElem?_eq_some_iff.1 HBX3.out).1
      have hbx4 := (hb34.block _ lw3).trans HBX3.out
      have hy4 := (hb4.block w3.heap.size (by simp)).trans (heap_new w3 _)
      have HY4 := hidd hy4
      have HBX4 := hidd hbx4
      obtain ⟨A6, c6, rfl⟩ := (hv6.rd ec_len).form
      have x0 : w4.cell? ⟨w.heap.size, 0, none⟩ = some (.bool tt) := cell_of_heap hbx4 0
      have x1 : w4.cell? ⟨w.heap.size, 1, none⟩ = some (.int .i64 o.now) := cell_of_heap hbx4 1
      have x2 : w4.cell? ⟨w.heap.size, 2, none⟩ = some (.int .i64 o.fr) := cell_of_heap hbx4 2
      have x3 : w4.cell? ⟨w.heap.size, 3, none⟩ = some (.int .i64 o.ep) := cell_of_heap hbx4 3
      have x4 : w4.cell? ⟨w.heap.size, 3 + 1, none⟩ = some (.slice Ao o.E.length co) := cell_of_heap hbx4 4
      have HRO := hidd (HEO.out ▸ HR.out.below HB4.out : RdE w4 (.slice Ao o.E.length co) o.E)
      have hs4 := HR4.out.sat.lt
      clear hv6 hb4 hb34 hbx4 hy4 lw3 bx4
      go_upto_if 84 with fail
      go_cut [16, 17] (fun f out wx => (∃ A l c, out = .slice A l c ∧ f = .int .i64 0 ∧ Below w.heap.size w wx) ∨ (∃ er : Int, (er == 0) = false ∧ f = .int .i64 er ∧ out = .slice none 0 0 ∧ Below w4.heap.size w4 wx))
      case first =>
        cases tt with
        | true =>
          go_wp2_with fail
          refine (c13 HR4.out.sat HST.out (by omega) o.now).mono ?_
          rintro e w5 (⟨-, rfl, rfl⟩ | ⟨-, v, rfl, h1, -, h3⟩)
          · go_wp2_with fail
            go_meet
            exact .inr ⟨1, rfl, rfl, rfl, Below.refl _ _⟩
          · obtain ⟨A, c, rfl⟩ := (h1.rd ev_len).form
            have HB5 := hidd (Keeps.bl HB4.out h3 (by omega))
            clear h1 h3
            go_wp2_with fail
            go_meet
            exact .inl ⟨_, _, _, rfl, rfl, HB5.out⟩
        | false =>
          go_wp2_with fail
          refine (c15 (E := o.E) HR4.out.sat HST.out (by omega) o.now o.fr o.ep HRO.out (by omega)).mono ?_
          rintro e w5 (⟨hne, rfl, hb⟩ | ⟨-, v, rfl, h1, -, h3⟩)
          · have HNE := hidd hne
            have HB5 := hidd hb
            generalize hearErr st o.now o.fr o.ep o.E = er at *
            clear hne hb
            go_wp2_with fail
            go_meet
            exact .inr ⟨er, by simpa using HNE.out, rfl, rfl, HB5.out⟩
          · obtain ⟨A, c, rfl⟩ := (h1.rd ev_len).form
            have HB5 := hidd (Keeps.bl HB4.out h3 (by omega))
            clear h1 h3
            go_wp2_with fail
            go_meet
            exact .inl ⟨_, _, _, rfl, rfl, HB5.out⟩
      case rest =>
        rcases hcut with ⟨A, l, c', rfl, rfl, hb⟩ | ⟨er, hne, rfl, rfl, hb⟩
        · have HC := hidd hb
          clear hb
          go_upto_region 17 with fail
          refine wp_region_noPanic ?_
          refine wp_region_held_drew (S := fun _ => True) (by kernel_rfl) trivial (fun hHeld => ?_)
          refine wpAnyH_ready (rs := [0]) (by kernel_rfl) (by simp) ?_
          refine AllReadyH.cons rfl (fun K hK => ?_) AllReadyH.nil
          go_simp
          go_at_call 12
          refine (c12 _).mono ?_
          rintro e w6 ⟨rfl, hb6⟩
          have HC6 := hidd (Bl_then (w := w) (Bl_drew HC.out) hb6)
          clear hb6
          go_wp2_with fail
          refine hK.out _ _ trivial (fun hHeld => ?_)
          clear hK K
          (try simp only [Act.put, List.setIfInBounds_toArray, List.set_cons_zero, List.set_cons_succ])
          refine wpAnyH_take (i := 1) (oi := { dst := some 104, op := Op.move (Operand.tmp 103), type := 4, pos := "law.go:163", after := #[{ on := 0, ground := Ground.data }, { on := 0, ground := Ground.chain }], guard := none }) (v := ?_) rfl (by kernel_rfl) (by kernel_rfl) (by kernel_rfl) (fun _ _ _ h => h) (Or.inl ⟨by rfl, ?_⟩) (by assumption) ?_
          rotate_left
          · (intro w hSw; (try dsimp only at hSw); go_simp; try with_reducible rfl)
          (try simp only [Act.put, List.setIfInBounds_toArray, List.set_cons_zero, List.set_cons_succ])
          refine wpAnyH_take (i := 2) (oi := { dst := some 105, op := Op.move (Operand.tmp 16), type := 25, pos := "law.go:163", after := #[{ on := 1, ground := Ground.guard }], guard := some (1, true) }) (v := ?_) rfl (by kernel_rfl) (by kernel_rfl) (by kernel_rfl) (fun _ _ _ h => h) (Or.inl ⟨by rfl, ?_⟩) (by assumption) ?_
          rotate_left
          · (intro w hSw; (try dsimp only at hSw); go_simp; try with_reducible rfl)
          (try simp only [Act.put, List.setIfInBounds_toArray, List.set_cons_zero, List.set_cons_succ])
          refine wpAnyH_take (i := 3) (oi := { dst := some 106, op := Op.binOp BinOp.eql 25 (Operand.tmp 105) (Operand.const (Value.int IntKind.i64 0)) 25, type := 4, pos := "law.go:163", after := #[{ on := 2, ground := Ground.data }, { on := 1, ground := Ground.guard }], guard := some (1, true) }) (v := ?_) rfl (by kernel_rfl) (by kernel_rfl) (by kernel_rfl) (fun _ _ _ h => h) (Or.inl ⟨by rfl, ?_⟩) (by assumption) ?_
          rotate_left
          · (intro w hSw; (try dsimp only at hSw); go_simp; try with_reducible rfl)
          (try simp only [Act.put, List.setIfInBounds_toArray, List.set_cons_zero, List.set_cons_succ])
          refine wpAnyH_take (i := 4) (oi := { dst := some 107, op := Op.move (Operand.tmp 106), type := 4, pos := "law.go:163", after := #[{ on := 3, ground := Ground.data }, { on := 1, ground := Ground.chain }, { on := 1, ground := Ground.guard }], guard := some (1, true) }) (v := ?_) rfl (by kernel_rfl) (by kernel_rfl) (by kernel_rfl) (fun _ _ _ h => h) (Or.inl ⟨by rfl, ?_⟩) (by assumption) ?_
          rotate_left
          · (intro w hSw; (try dsimp only at hSw); go_simp; try with_reducible rfl)
          (try simp only [Act.put, List.setIfInBounds_toArray, List.set_cons_zero, List.set_cons_succ])
          refine wpAnyH_take (i := 5) (oi := { dst := some 108, op := Op.move (Operand.tmp 17), type := 37, pos := "law.go:163", after := #[{ on := 4, ground := Ground.guard }], guard := some (4, false) }) (v := undef) rfl (by kernel_rfl) (by kernel_rfl) (by kernel_rfl) (fun _ _ _ h => h) (Or.inr ⟨by rfl, rfl⟩) (by assumption) ?_
          (try simp only [Act.put, List.setIfInBounds_toArray, List.set_cons_zero, List.set_cons_succ])
          refine wpAnyH_take (i := 6) (oi := { dst := some 109, op := Op.call { callee := Callee.builtin Builtin.len, args := #[Operand.tmp 108], argTypes := #[37] }, type := 3, pos := "law.go:163", after := #[{ on := 5, ground := Ground.data }, { on := 4, ground := Ground.guard }], guard := some (4, false) }) (v := undef) rfl (by kernel_rfl) (by kernel_rfl) (by kernel_rfl) (fun _ _ _ h => h) (Or.inr ⟨by rfl, rfl⟩) (by assumption) ?_
          (try simp only [Act.put, List.setIfInBounds_toArray, List.set_cons_zero, List.set_cons_succ])
          refine wpAnyH_take (i := 7) (oi := { dst := some 110, op := Op.binOp BinOp.eql 3 (Operand.tmp 109) (Operand.const (Value.int IntKind.i64 0)) 3, type := 4, pos := "law.go:163", after := #[{ on := 6, ground := Ground.data }, { on := 4, ground := Ground.guard }], guard := some (4, false) }) (v := undef) rfl (by kernel_rfl) (by kernel_rfl) (by kernel_rfl) (fun _ _ _ h => h) (Or.inr ⟨by rfl, rfl⟩) (by assumption) ?_
          (try simp only [Act.put, List.setIfInBounds_toArray, List.set_cons_zero, List.set_cons_succ])
          refine wpAnyH_take (i := 8) (oi := { dst := some 111, op := Op.move (Operand.tmp 110), type := 4, pos := "law.go:163", after := #[{ on := 7, ground := Ground.data }, { on := 4, ground := Ground.chain }, { on := 4, ground := Ground.guard }], guard := some (4, false) }) (v := undef) rfl (by kernel_rfl) (by kernel_rfl) (by kernel_rfl) (fun _ _ _ h => h) (Or.inr ⟨by rfl, rfl⟩) (by assumption) ?_
          (try simp only [Act.put, List.setIfInBounds_toArray, List.set_cons_zero, List.set_cons_succ])
          refine wpAnyH_take (i := 9) (oi := { dst := some 112, op := Op.move (Operand.tmp 11), type := 24, pos := "law.go:163", after := #[{ on := 8, ground := Ground.guard }], guard := some (8, true) }) (v := undef) rfl (by kernel_rfl) (by kernel_rfl) (by kernel_rfl) (fun _ _ _ h => h) (Or.inr ⟨by rfl, rfl⟩) (by assumption) ?_
          (try simp only [Act.put, List.setIfInBounds_toArray, List.set_cons_zero, List.set_cons_succ])
          refine wpAnyH_take (i := 10) (oi := { dst := some 113, op := Op.call { callee := Callee.value (Operand.func 19), args := #[Operand.tmp 112], argTypes := #[24] }, type := 34, pos := "law.go:163", after := #[{ on := 9, ground := Ground.data }, { on := 8, ground := Ground.chain }, { on := 8, ground := Ground.guard }], guard := some (8, true) }) (v := undef) rfl (by kernel_rfl) (by kernel_rfl) (by kernel_rfl) (fun _ _ _ h => h) (Or.inr ⟨by rfl, rfl⟩) (by assumption) ?_
          (try simp only [Act.put, List.setIfInBounds_toArray, List.set_cons_zero, List.set_cons_succ])
          refine wpAnyH_take (i := 11) (oi := { dst := some 114, op := Op.load 34 (Operand.tmp 14), type := 34, pos := "law.go:163", after := #[{ on := 8, ground := Ground.guard }], guard := some (8, true) }) (v := undef) rfl (by kernel_rfl) (by kernel_rfl) (by kernel_rfl) (fun _ _ _ h => h) (Or.inr ⟨by rfl, rfl⟩) (by assumption) ?_
          (try simp only [Act.put, List.setIfInBounds_toArray, List.set_cons_zero, List.set_cons_succ])
          refine wpAnyH_take (i := 12) (oi := { dst := some 115, op := Op.call { callee := Callee.value (Operand.func 18), args := #[Operand.tmp 113, Operand.tmp 114], argTypes := #[34, 34] }, type := 4, pos := "law.go:163", after := #[{ on := 10, ground := Ground.data }, { on := 11, ground := Ground.data }, { on := 10, ground := Ground.chain }, { on := 8, ground := Ground.guard }], guard := some (8, true) }) (v := undef) rfl (by kernel_rfl) (by kernel_rfl) (by kernel_rfl) (fun _ _ _ h => h) (Or.inr ⟨by rfl, rfl⟩) (by assumption) ?_
          (try simp only [Act.put, List.setIfInBounds_toArray, List.set_cons_zero, List.set_cons_succ])
          refine wpAnyH_take (i := 13) (oi := { dst := some 116, op := Op.pick (Operand.tmp 111) (Operand.tmp 115) (Operand.const (Value.bool false)), type := 4, pos := "law.go:163", after := #[{ on := 8, ground := Ground.data }, { on := 12, ground := Ground.data }, { on := 4, ground := Ground.guard }], guard := some (4, false) }) (v := undef) rfl (by kernel_rfl) (by kernel_rfl) (by kernel_rfl) (fun _ _ _ h => h) (Or.inr ⟨by rfl, rfl⟩) (by assumption) ?_
          (try simp only [Act.put, List.setIfInBounds_toArray, List.set_cons_zero, List.set_cons_succ])
          refine wpAnyH_take (i := 14) (oi := { dst := some 117, op := Op.move (Operand.tmp 116), type := 4, pos := "law.go:163", after := #[{ on := 13, ground := Ground.data }, { on := 12, ground := Ground.chain }, { on := 4, ground := Ground.guard }], guard := some (4, false) }) (v := undef) rfl (by kernel_rfl) (by kernel_rfl) (by kernel_rfl) (fun _ _ _ h => h) (Or.inr ⟨by rfl, rfl⟩) (by assumption) ?_
          (try simp only [Act.put, List.setIfInBounds_toArray, List.set_cons_zero, List.set_cons_succ])
          refine wpAnyH_take (i := 15) (oi := { dst := some 118, op := Op.move (Operand.tmp 11), type := 24, pos := "law.go:163", after := #[{ on := 14, ground := Ground.guard }], guard := some (14, true) }) (v := undef) rfl (by kernel_rfl) (by kernel_rfl) (by kernel_rfl) (fun _ _ _ h => h) (Or.inr ⟨by rfl, rfl⟩) (by assumption) ?_
          (try simp only [Act.put, List.setIfInBounds_toArray, List.set_cons_zero, List.set_cons_succ])
          refine wpAnyH_take (i := 16) (oi := { dst := some 119, op := Op.call { callee := Callee.value (Operand.func 22), args := #[Operand.tmp 118], argTypes := #[24] }, type := 32, pos := "law.go:163", after := #[{ on := 15, ground := Ground.data }, { on := 14, ground := Ground.chain }, { on := 14, ground := Ground.guard }], guard := some (14, true) }) (v := undef) rfl (by kernel_rfl) (by kernel_rfl) (by kernel_rfl) (fun _ _ _ h => h) (Or.inr ⟨by rfl, rfl⟩) (by assumption) ?_
          (try simp only [Act.put, List.setIfInBounds_toArray, List.set_cons_zero, List.set_cons_succ])
          refine wpAnyH_take (i := 17) (oi := { dst := some 120, op := Op.move (Operand.tmp 15), type := 32, pos := "law.go:163", after := #[{ on := 14, ground := Ground.guard }], guard := some (14, true) }) (v := undef) rfl (by kernel_rfl) (by kernel_rfl) (by kernel_rfl) (fun _ _ _ h => h) (Or.inr ⟨by rfl, rfl⟩) (by assumption) ?_
          (try simp only [Act.put, List.setIfInBounds_toArray, List.set_cons_zero, List.set_cons_succ])
          refine wpAnyH_take (i := 18) (oi := { dst := some 121, op := Op.call { callee := Callee.value (Operand.func 21), args := #[Operand.tmp 119, Operand.tmp 120], argTypes := #[32, 32] }, type := 4, pos := "law.go:163", after := #[{ on := 16, ground := Ground.data }, { on := 17, ground := Ground.data }, { on := 16, ground := Ground.chain }, { on := 14, ground := Ground.guard }], guard := some (14, true) }) (v := undef) rfl (by kernel_rfl) (by kernel_rfl) (by kernel_rfl) (fun _ _ _ h => h) (Or.inr ⟨by rfl, rfl⟩) (by assumption) ?_
          (try simp only [Act.put, List.setIfInBounds_toArray, List.set_cons_zero, List.set_cons_succ])
          refine wpAnyH_take (i := 19) (oi := { dst := some 122, op := Op.pick (Operand.tmp 117) (Operand.tmp 121) (Operand.const (Value.bool false)), type := 4, pos := "law.go:163", after := #[{ on := 14, ground := Ground.data }, { on := 18, ground := Ground.data }, { on := 4, ground := Ground.guard }], guard := some (4, false) }) (v := undef) rfl (by kernel_rfl) (by kernel_rfl) (by kernel_rfl) (fun _ _ _ h => h) (Or.inr ⟨by rfl, rfl⟩) (by assumption) ?_
          (try simp only [Act.put, List.setIfInBounds_toArray, List.set_cons_zero, List.set_cons_succ])
          refine wpAnyH_take (i := 20) (oi := { dst := some 123, op := Op.pick (Operand.tmp 107) (Operand.const (Value.bool true)) (Operand.tmp 122), type := 4, pos := "law.go:163", after := #[{ on := 4, ground := Ground.data }, { on := 19, ground := Ground.data }, { on := 1, ground := Ground.guard }], guard := some (1, true) }) (v := ?_) rfl (by kernel_rfl) (by kernel_rfl) (by kernel_rfl) (fun _ _ _ h => h) (Or.inl ⟨by rfl, ?_⟩) (by assumption) ?_
          rotate_left
          · (intro w hSw; (try dsimp only at hSw); go_simp; try with_reducible rfl)
          (try simp only [Act.put, List.setIfInBounds_toArray, List.set_cons_zero, List.set_cons_succ])
          refine wpAnyH_take (i := 21) (oi := { dst := some 124, op := Op.pick (Operand.tmp 104) (Operand.tmp 123) (Operand.const (Value.bool false)), type := 4, pos := "law.go:163", after := #[{ on := 1, ground := Ground.data }, { on := 20, ground := Ground.data }], guard := none }) (v := ?_) rfl (by kernel_rfl) (by kernel_rfl) (by kernel_rfl) (fun _ _ _ h => h) (Or.inl ⟨by rfl, ?_⟩) (by assumption) ?_
          rotate_left
          · (intro w hSw; (try dsimp only at hSw); go_simp; try with_reducible rfl)
          (try simp only [Act.put, List.setIfInBounds_toArray, List.set_cons_zero, List.set_cons_succ])
          refine wpAnyH_take (i := 22) (oi := { dst := some 10, op := Op.assign (Operand.tmp 124), type := 4, pos := "law.go:163", after := #[{ on := 21, ground := Ground.data }, { on := 18, ground := Ground.chain }, { on := 0, ground := Ground.phase }, { on := 1, ground := Ground.phase }, { on := 2, ground := Ground.phase }, { on := 3, ground := Ground.phase }, { on := 4, ground := Ground.phase }, { on := 5, ground := Ground.phase }, { on := 6, ground := Ground.phase }, { on := 7, ground := Ground.phase }, { on := 8, ground := Ground.phase }, { on := 9, ground := Ground.phase }, { on := 10, ground := Ground.phase }, { on := 11, ground := Ground.phase }, { on := 12, ground := Ground.phase }, { on := 13, ground := Ground.phase }, { on := 14, ground := Ground.phase }, { on := 15, ground := Ground.phase }, { on := 16, ground := Ground.phase }, { on := 17, ground := Ground.phase }, { on := 18, ground := Ground.phase }, { on := 19, ground := Ground.phase }, { on := 20, ground := Ground.phase }, { on := 21, ground := Ground.phase }], guard := none }) (v := ?_) rfl (by kernel_rfl) (by kernel_rfl) (by kernel_rfl) (fun _ _ _ h => h) (Or.inl ⟨by rfl, ?_⟩) (by assumption) ?_
          rotate_left
          · (intro w hSw; (try dsimp only at hSw); go_simp; try with_reducible rfl)
          (try simp only [Act.put, List.setIfInBounds_toArray, List.set_cons_zero, List.set_cons_succ])
          refine wpAnyH_done (by kernel_rfl) ?_ _
          refine NoPanic.normal ?_
          go_wp2_with fail
          go_ret
          exact ⟨rfl, HC6.out⟩
        · have HC := hidd hb
          have HBw := HB4
          have hkl := (echoL_len st.T)
          have hkl2 : (linkL st.T).length ≤ 64 := Nat.le_trans (List.length_filter_le _ _) hkl
          have ly4 : w3.heap.size < w4.heap.size := (Array.getElem?_eq_some_iff.1 HY4.out).1
          have y0 : w4.cell? ⟨w3.heap.size, 0, none⟩ = some (.int .i64 st.ep) := cell_of_heap HY4.out 0
          have y1 : w4.cell? ⟨w3.heap.size, 1, none⟩ = some (.slice A5 (echoL st.T).length c5) := cell_of_heap HY4.out 1
          have z0 := (hb.cell (p := ⟨w3.heap.size, 0, none⟩) ly4).trans y0
          have z1 := (hb.cell (p := ⟨w3.heap.size, 1, none⟩) ly4).trans y1
          clear hb x0 x1 x2 x3 x4
          go_upto_region 17 with fail
          go_region_held3 (fun w' => w'.cell? ⟨w3.heap.size, 0, none⟩ = some (.int .i64 st.ep) ∧ w'.cell? ⟨w3.heap.size, 1, none⟩ = some (.slice A5 (echoL st.T).length c5)) (refine ⟨?_, ?_⟩ <;> (repeat (first | with_reducible assumption | (with_reducible refine drew_cell ?_) | (with_reducible refine alloc_cell ?_))))
            (first | (go_at_call 12; refine (c12 _).mono ?_; rintro e w6 ⟨rfl, hb6⟩; (have HC6 := hidd (Bl_then (w := w4) (by repeat (first | with_reducible exact HC.out | with_reducible refine Bl_drew ?_ | with_reducible refine Below.drewN ?_ _)) hb6)); clear hb6; (have yy0 : w6.cell? ⟨w3.heap.size, 0, none⟩ = some (.int .i64 st.ep) := (HC6.out.cell (p := ⟨w3.heap.size, 0, none⟩) ly4).trans y0); (have yy1 : w6.cell? ⟨w3.heap.size, 1, none⟩ = some (.slice A5 (echoL st.T).length c5) := (HC6.out.cell (p := ⟨w3.heap.size, 1, none⟩) ly4).trans y1)) | (go_at_call 19; refine (c19 (HR4.out.sat.below (by repeat (first | with_reducible exact HC6.out | with_reducible refine Bl_drew ?_ | with_reducible refine Below.drewN ?_ _))) HTB.out (by omega)).mono ?_; rintro e w7 ⟨v7, rfl, hv7, hb7⟩; (have HC7 := hidd (Bl_then (w := w4) (by repeat (first | with_reducible exact HC6.out | with_reducible refine Bl_drew ?_ | with_reducible refine Below.drewN ?_ _)) hb7)); (have HV7 := hidd (hv7.rd ec_len)); obtain ⟨A7, c7, rfl⟩ := (hv7.rd ec_len).form; clear hb7 hv7; (have yy0 : w7.cell? ⟨w3.heap.size, 0, none⟩ = some (.int .i64 st.ep) := (HC7.out.cell (p := ⟨w3.heap.size, 0, none⟩) ly4).trans y0); (have yy1 : w7.cell? ⟨w3.heap.size, 1, none⟩ = some (.slice A5 (echoL st.T).length c5) := (HC7.out.cell (p := ⟨w3.heap.size, 1, none⟩) ly4).trans y1)) | (go_at_call 18; refine (c18 (L := echoL st.T) st.ep (HV7.out.below (by repeat (first | with_reducible exact Below.refl _ _ | with_reducible refine Bl_drew ?_ | with_reducible refine Below.drewN ?_ _))) (HV54.out.below (by repeat (first | with_reducible exact HC7.out | with_reducible refine Bl_drew ?_ | with_reducible refine Below.drewN ?_ _))) (by omega)).mono ?_; rintro e w8 ⟨rfl, hb8⟩; (have HC8 := hidd (Bl_then (w := w4) (by repeat (first | with_reducible exact HC7.out | with_reducible refine Bl_drew ?_ | with_reducible refine Below.drewN ?_ _)) hb8)); clear hb8; (have yy0 : w8.cell? ⟨w3.heap.size, 0, none⟩ = some (.int .i64 st.ep) := (HC8.out.cell (p := ⟨w3.heap.size, 0, none⟩) ly4).trans y0); (have yy1 : w8.cell? ⟨w3.heap.size, 1, none⟩ = some (.slice A5 (echoL st.T).length c5) := (HC8.out.cell (p := ⟨w3.heap.size, 1, none⟩) ly4).trans y1)) | (go_at_call 22; refine (c22 (HR4.out.sat.below (by repeat (first | with_reducible exact HC8.out | with_reducible refine Bl_drew ?_ | with_reducible refine Below.drewN ?_ _))) HTB.out (by omega)).mono ?_; rintro e w9 ⟨v9, rfl, hv9, hb9⟩; (have HC9 := hidd (Bl_then (w := w4) (by repeat (first | with_reducible exact HC8.out | with_reducible refine Bl_drew ?_ | with_reducible refine Below.drewN ?_ _)) hb9)); (have HV9 := hidd (hv9.rd ec_len)); obtain ⟨A9, c9, rfl⟩ := (hv9.rd ec_len).form; clear hb9 hv9; (have yy0 : w9.cell? ⟨w3.heap.size, 0, none⟩ = some (.int .i64 st.ep) := (HC9.out.cell (p := ⟨w3.heap.size, 0, none⟩) ly4).trans y0); (have yy1 : w9.cell? ⟨w3.heap.size, 1, none⟩ = some (.slice A5 (echoL st.T).length c5) := (HC9.out.cell (p := ⟨w3.heap.size, 1, none⟩) ly4).trans y1)) | (go_at_call 21; refine (c21 (L := linkL st.T) (HV9.out.below (by repeat (first | with_reducible exact Below.refl _ _ | with_reducible refine Bl_drew ?_ | with_reducible refine Below.drewN ?_ _))) (HV6.out.below (by repeat (first | with_reducible exact HC9.out | with_reducible refine Bl_drew ?_ | with_reducible refine Below.drewN ?_ _))) (by omega)).mono ?_; rintro e wa ⟨rfl, hba⟩; (have HCa := hidd (Bl_then (w := w4) (by repeat (first | with_reducible exact HC9.out | with_reducible refine Bl_drew ?_ | with_reducible refine Below.drewN ?_ _)) hba)); clear hba; (have yy0 : wa.cell? ⟨w3.heap.size, 0, none⟩ = some (.int .i64 st.ep) := (HCa.out.cell (p := ⟨w3.heap.size, 0, none⟩) ly4).trans y0); (have yy1 : wa.cell? ⟨w3.heap.size, 1, none⟩ = some (.slice A5 (echoL st.T).length c5) := (HCa.out.cell (p := ⟨w3.heap.size, 1, none⟩) ly4).trans y1)))
          go_wp2_with fail
          go_ret
          exact ⟨rfl, Bl_then HB4.out HCa.out⟩
set_option maxRecDepth 100000 in
set_option maxHeartbeats 4000000 in
theorem law6bad (id ep hold : Int) (v : Value) (L : List Mv) (o : Mv) (w : World) (h : RdM w v L) (hE : EvsOk w L) (hS : Sm L) (hR : RdE w o.ev o.E) (hM : o.E.length ≤ 9223372036854775807) (hb : newB id ep hold = false ∨ fewB L = false ∨ 80 < o.E.length) :
    Calls Try.prog 6 #[.int .i64 id, .int .i64 ep, .int .i64 hold, v, .agg #[.bool o.t, .int .i64 o.now, .int .i64 o.fr, .int .i64 o.ep, o.ev]] w fun e w' => e = .returned (.bool true) ∧ Below w.heap.size w w' := by
  obtain ⟨A, c, rfl, -⟩ := h.at
  have HRM := hidd h
  have HE := hidd hE
  have HR := hidd hR
  have HSM := hidd hS
  obtain ⟨Ao, co, heo⟩ := mv_form hR
  rw [heo]
  clear h hE hR hS heo
  cases hn : newB id ep hold with
  | false =>
    clear hb
    go_enter Try.func6, Try.ntmps6
    go_wp2_with fail
    refine (c10 id ep hold _).mono ?_
    rintro e w1 h1
    obtain ⟨rfl, hb1⟩ := h1.bad hn
    have HB1 := hidd (Bl_then (Bl_alloc (Below.refl w.heap.size w) _) hb1)
    clear h1 hb1 hn
    go_wp2_with fail
    refine (c12 w1).mono ?_
    rintro e w2 ⟨rfl, hb2⟩
    have HB2 := hidd (Bl_then HB1.out hb2)
    clear hb2
    go_wp2_with fail
    go_ret
    exact ⟨rfl, HB2.out⟩
  | true =>
    cases hf : fewB L with
    | false =>
      have HN := hidd hn
      have HF := hidd hf
      clear hb hn hf
      go_enter Try.func6, Try.ntmps6
      go_wp2_with fail
      refine (c10 id ep hold _).mono ?_
      rintro e w1 h1
      obtain ⟨s, rfl, -, -, hb1⟩ := h1.ok HN.out
      have HB1 := hidd (Bl_then (Bl_alloc (Below.refl w.heap.size w) _) hb1)
      clear h1 hb1
      go_wp2_with (go_at_call 9; refine (c9 (HRM.out.below HB1.out) (HE.out.below HB1.out) HSM.out).mono ?_; rw [HF.out]; rintro e w2 ⟨rfl, rfl⟩)
      refine (c12 w1).mono ?_
      rintro e w2 ⟨rfl, hb2⟩
      have HB2 := hidd (Bl_then HB1.out hb2)
      clear hb2
      go_wp2_with fail
      go_ret
      exact ⟨rfl, HB2.out⟩
    | true =>
      have h80 : 80 < o.E.length := by
        rcases hb with h | h | h
        · rw [hn] at h; cases h
        · rw [hf] at h; cases h
        · exact h
      have hd : (80 : Int) < o.E.length := by omega
      have HN := hidd hn
      have HF := hidd hf
      clear hb hn hf
      go_enter Try.func6, Try.ntmps6
      go_wp2_with fail
      refine (c10 id ep hold _).mono ?_
      rintro e w1 h1
      obtain ⟨s, rfl, -, -, hb1⟩ := h1.ok HN.out
      have HB1 := hidd (Bl_then (Bl_alloc (Below.refl w.heap.size w) _) hb1)
      have hbx := (hb1.block w.heap.size (by simp)).trans (heap_new w _)
      have bx4 : w1.cell? ⟨w.heap.size, 3 + 1, none⟩ = some (.slice Ao o.E.length co) := cell_of_heap hbx 4
      clear h1 hb1 hbx
      go_wp2_with (go_at_call 9; refine (c9 (HRM.out.below HB1.out) (HE.out.below HB1.out) HSM.out).mono ?_; rw [HF.out]; rintro e w2 ⟨rfl, rfl⟩)
      refine (c12 w1).mono ?_
      rintro e w2 ⟨rfl, hb2⟩
      have HB2 := hidd (Bl_then HB1.out hb2)
      clear hb2
      go_wp2_with fail
      go_ret
      exact ⟨rfl, HB2.out⟩
theorem law6 (id ep hold : Int) (v : Value) (L : List Mv) (o : Mv) (w : World) (h : RdM w v L) (hE : EvsOk w L) (hL : L.length ≤ maxLen) (hN : ∀ o ∈ L, o.E.length ≤ maxLen ∧ I64 o.now ∧ I64 o.fr ∧ I64 o.ep) (hR : RdE w o.ev o.E) (hM : o.E.length ≤ maxLen) :
    Calls Try.prog 6 #[.int .i64 id, .int .i64 ep, .int .i64 hold, v, .agg #[.bool o.t, .int .i64 o.now, .int .i64 o.fr, .int .i64 o.ep, o.ev]] w fun e w' => e = .returned (.bool true) ∧ Below w.heap.size w w' := by
  have hS : Sm L := ⟨by unfold maxLen at hL; omega, fun o ho => by have := (hN o ho).1; unfold maxLen at this; omega⟩
  have hM' : o.E.length ≤ 9223372036854775807 := by unfold maxLen at hM; omega
  cases hn : newB id ep hold with
  | false => exact law6bad id ep hold v L o w h hE hS hR hM' (.inl hn)
  | true =>
    cases hf : fewB L with
    | false => exact law6bad id ep hold v L o w h hE hS hR hM' (.inr (.inl hf))
    | true =>
      by_cases h80 : o.E.length ≤ 80
      · exact law6good id ep hold v L o w h hE hf hR h80 hn
      · exact law6bad id ep hold v L o w h hE hS hR hM' (.inr (.inr (by omega)))
end Go.Proofs.Ytocfnimeinongaa
