/- The walk of Beacon. -/
import Derived.Test.YtocfnimeinongaaF
set_option linter.unusedSimpArgs false
set_option linter.unusedVariables false
namespace Go.Proofs.Ytocfnimeinongaa
open Go.RowKit
attribute [local go_sem ↓] Go.wp_at_zero Go.wp_at_succ
theorem echo_take {T : Tab} {k : Nat} {x : Int} (h : (keysL T)[k]? = some x) : ((keysL T).take (k + 1)).map (ecAt T) = ((keysL T).take k).map (ecAt T) ++ [ecAt T x] := by
  rw [take_snoc' h, List.map_append]; rfl
theorem RdI.at {w : World} {v : Value} {L : List Int} (h : RdI w v L) : ∃ A c, v = .slice A L.length c ∧ ∀ k x, L[k]? = some x → ∃ b o, A = some ⟨b, o, none⟩ ∧ b < w.heap.size ∧ w.cell? ⟨b, o + k, none⟩ = some (.int .i64 x) := by
  obtain ⟨A, c, rfl, h⟩ := h
  refine ⟨A, c, rfl, fun k x hx => ?_⟩
  rcases h with h | ⟨b, o, rfl, hb, h⟩
  · rw [h] at hx; cases hx
  · refine ⟨b, o, rfl, hb, ?_⟩
    have := h k x hx 0 (.int .i64 x) rfl
    simpa using this
theorem encI_len (x : Int) : (encI x).length = 1 := rfl
theorem step_guard {P : Program} {w : World} {ops : Array Oper} {o : Oper} {a : Act} {K : Act → World → Prop} {Q : Exit → Act → World → Prop} {E : Prop} (s x : Operand) (t : TypeId)
    (ho : o.op = .call { callee := .builtin .append, args := #[s, x], argTypes := #[t, t] }) (h : if Region.wanted o (yielded ops a.tmps) = true then Oper.wp P o a w K Q else E) : if Region.wanted o (yielded ops a.tmps) = true then Oper.wp P o a w K Q else E := h
theorem drew_heap {w : World} {p : Nat} {o : Obj} (h : w.heap[p]? = some o) : w.drew.heap[p]? = some o := h
theorem OwnT.of_heap {w W : World} {b n : Nat} {T : Tab} (h : OwnT w b n T) (e : W.heap = w.heap) : OwnT W b n T := by
  obtain ⟨D, ⟨es, clock, hb, r⟩, h2⟩ := h
  exact ⟨D, ⟨es, clock, by rw [e]; exact hb, r⟩, h2⟩
theorem OwnT.drew {w : World} {b n : Nat} {T : Tab} (h : OwnT w b n T) : OwnT w.drew b n T := h
theorem OwnT.alloc {w : World} {b n : Nat} {T : Tab} (h : OwnT w b n T) (o : Obj) : OwnT (w.alloc o) b n T := h.below (Bl_alloc (Below.refl _ _) o)
theorem OwnG.drew {α : Type} {enc : α → List Value} {m : Nat} {e : TypeId} {w : World} {base : Nat} {v : Value} {L : List α} (h : OwnG enc m e w base v L) : OwnG enc m e w.drew base v L := h
theorem OwnG.alloc {α : Type} {enc : α → List Value} {m : Nat} {e : TypeId} {w : World} {base : Nat} {v : Value} {L : List α} (h : OwnG enc m e w base v L) (o : Obj) : OwnG enc m e (w.alloc o) base v L := h.below (Bl_alloc (Below.refl _ _) o)
theorem cell_lt {w : World} {b o : Nat} {v : Value} (h : w.cell? ⟨b, o, none⟩ = some v) : b < w.heap.size := World.block_lt_of_cell? w _ h
theorem alloc_cell {w : World} {b o : Nat} {v : Value} (h : w.cell? ⟨b, o, none⟩ = some v) (x : Obj) : (w.alloc x).cell? ⟨b, o, none⟩ = some v :=
  (Below.cell (B := w.heap.size) (Bl_alloc (Below.refl _ _) _) (p := ⟨b, o, none⟩) (cell_lt h)).trans h
theorem OwnG.lower {α : Type} {enc : α → List Value} {m : Nat} {e : TypeId} {w : World} {base base' : Nat} {v : Value} {L : List α} (h : OwnG enc m e w base v L) (hb : base' ≤ base) : OwnG enc m e w base' v L := ownsRow_base_a h hb
theorem Bl_drew {B : Nat} {w w1 : World} (h : Below B w w1) : Below B w w1.drew := ⟨h.os, h.tape, h.output, h.size, h.block⟩
/-- What an append to a row of the call's own leaves. -/
theorem app_post {α : Type} {enc : α → List Value} {m : Nat} {e : TypeId} {S : Nat → Prop} {w1 wr W w3 : World} {v : Value} {L : List α} (hk : Keeps S w1 wr) (hb : Below wr.heap.size wr W) (ho : OwnG enc m e wr w1.heap.size v L) (hg : W.grownBy w3 v.ownBlock) :
    Keeps S w1 w3 ∧ Keeps (fun i => v.ownBlock = some i) wr w3 := by
  have h1 : Keeps (fun i => v.ownBlock = some i) wr w3 := (Keeps.below hb).grown hg (fun i hi => .inr hi)
  exact ⟨hk.andThen h1 (fun i hi e => by have := ho.base e; omega), h1⟩
set_option maxRecDepth 100000 in
set_option maxHeartbeats 4000000 in
theorem c19 {w : World} {s n : Nat} {st : St} (h : SAt w s n st) (hT : TabOk st.T) (hn : n ≤ 100000) :
    Calls Try.prog 19 #[.pointer (some ⟨s, 0, none⟩)] w fun e w' => ∃ v, e = .returned (.agg #[.int .i64 st.ep, v]) ∧ OwnE w' w.heap.size v (echoL st.T) ∧ Below w.heap.size w w' := by
  have hc1 : w.cell? ⟨s, 1, none⟩ = some (.int .i64 st.ep) := by obtain ⟨p, b, h1, _⟩ := h; exact cell_of_heap h1 1
  obtain ⟨p, b, h4, hp, hp0, hown, ls, lp⟩ := h.parts
  have HS := hidd h
  have HO := hidd hown
  have HP := hidd hp
  have lb := hown.lt
  have HL := hidd (keysL_len st.T)
  have HTK := hidd (show ∀ x ∈ keysL st.T, 0 ≤ x ∧ x < 64 from fun x hx => (keysL_mem.1 hx).1)
  clear hp hown h
  go_enter Try.func19, Try.ntmps19
  go_wp2_with (go_at_call 29; (refine (c29 (s := s) (n := n) (st := st) (HS.out.below (Bl_alloc (Bl_alloc (Below.refl _ _) _) _)) hT hn).mono ?_; rintro e w1 ⟨v, rfl, hv, hb⟩; obtain ⟨A, c, rfl, hat⟩ := (RdI.at (hv.rd encI_len)); (have HAT := hidd hat); (have HBS := hidd (fun g (e : (Value.slice A (keysL st.T).length c).ownBlock = some g) => hv.base e)); clear hv; (have HB := hidd hb); clear hat hb))
  have hb1 : Below w.heap.size w w1 := Bl_then (Bl_alloc (Bl_alloc (Below.refl _ _) _) _) HB.out
  have hl1 := HB.out.size
  simp at hl1
  have hh3 : w1.heap[w.heap.size + 1]? = some (.cells #[.int .i64 st.ep, .slice none 0 0] 34 (0, 0)) := (HB.out.block (w.heap.size + 1) (by simp)).trans (heap_new_at (by simp))
  have hh2 : w1.heap[w.heap.size]? = some (.cells #[.int .i64 0, .slice none 0 0] 34 (0, 0)) := (HB.out.block w.heap.size (by simp; omega)).trans (heap_alloc (heap_new w _) _)
  have HH2 := hidd hh2
  clear HB hh2
  have HB1 := hidd hb1
  have HH3 := hidd hh3
  clear hb1 hh3
  go_loopw [5, 17] (fun _ i wr => ∃ (k : Nat) (v : Value), k ≤ (keysL st.T).length ∧ i = .int .i64 k ∧ wr.heap[w.heap.size + 1]? = some (.cells #[.int .i64 st.ep, v] 34 (0, 0)) ∧ OwnE wr w1.heap.size v (((keysL st.T).take k).map (ecAt st.T)) ∧ Keeps (fun i => i = w.heap.size + 1) w1 wr) (fun _ i _ => (keysL st.T).length - (intOf i).toNat)
  case atStart => exact ⟨0, _, Nat.zero_le _, rfl, HH3.out, OwnG.nil _ _ _ _ _, Keeps.refl _ _⟩
  case round =>
    obtain ⟨k, v, hk, rfl, hh, ho, hkp⟩ := hrel
    obtain ⟨A5, c5, rfl⟩ := (ho.rd ec_len).form
    generalize hn5 : (((keysL st.T).take k).map (ecAt st.T)).length = n5 at *
    have hn6 : k = n5 := by rw [← hn5, List.length_map, List.length_take]; omega
    subst hn6
    have HN5 := hidd hn5
    clear hn5
    have HLN := hidd (show (((keysL st.T).take k).map (ecAt st.T)).length ≤ 1000000 by rw [List.length_map, List.length_take]; have := HL.out; omega)
    have HK := hidd hkp
    have HHH := hidd hh
    have HOE := hidd ho
    have hkw : Keeps (fun i => i = w.heap.size + 1) w wr := hkp.of_below HB1.out
    have HKW := hidd hkw
    have hlr := hkp.size
    have hsz := hkw.size
    have g4 : wr.cell? ⟨s, 4, none⟩ = some (.pointer (some ⟨p, 0, none⟩)) := (World.cell?_of_block (w := w) (a := ⟨s, 4, none⟩) (hkw.block s ls (by omega))).trans h4
    have g0 : wr.cell? ⟨p, 0, none⟩ = some (.map (some b)) := (World.cell?_of_block (w := w) (a := ⟨p, 0, none⟩) (hkw.block p lp (by omega))).trans hp0
    have gp : wr.heap[p]? = some (.cells #[.map (some b)] 68 (0, 0)) := (hkw.block p lp (by omega)).trans HP.out
    have go' : OwnT wr b n st.T := HO.out.keeps hkw (by omega)
    have HOW := hidd go'
    clear hkp hh ho hkw h4 hp0
    by_cases hlt : k < (keysL st.T).length
    · have HKL := hidd hlt
      obtain ⟨x, hx⟩ : ∃ x, (keysL st.T)[k]? = some x := ⟨_, List.getElem?_eq_getElem hlt⟩
      obtain ⟨g, o, rfl, hgl, hgc⟩ := HAT.out k x hx
      have hgb := HBS.out g rfl
      simp at hgb
      have d0 : wr.cell? ⟨g, o + k, none⟩ = some (.int .i64 x) := (World.cell?_of_block (w := w1) (a := ⟨g, o + k, none⟩) (HK.out.block g hgl (by omega))).trans hgc
      have hx01 := HTK.out x (List.mem_of_getElem? hx)
      have H30 := hidd (fun (W : World) (h1 : W.cell? ⟨s, 4, none⟩ = some (.pointer (some ⟨p, 0, none⟩))) (h2 : W.heap[p]? = some (.cells #[.map (some b)] 68 (0, 0))) => c30 s 4 p _ W h1 h2)
      generalize hhv : st.T.at x = hv
      have mL : ∀ W, OwnT W b n st.T → (Instr.lookup 68 (.map (some b)) (.int .i64 x) false).run Try.prog W = .ok (.agg #[.int .i64 hv.e, .int .i64 hv.a, .bool hv.t]) W := fun W hW => by
        have := hW.lookup hx01.1 hx01.2
        rw [hhv] at this
        exact this
      have mf := fun W => f75_0 (.int .i64 hv.e) (.int .i64 hv.a) (.bool hv.t) W
      have e1 : wr.cell? ⟨w.heap.size + 1, 1, none⟩ = some (.slice A5 k c5) := cell_of_heap HHH.out 1
      have lx : w.heap.size + 1 < wr.heap.size := by omega
      have hoe := HOE.out
      have HX := hidd hx
      have HHV := hidd hhv
      have k0 : (0 : Int) ≤ k := by omega
      have k2 : (k : Int) < 64 := by have := HL.out; omega
      have k1 : (k : Int) < (keysL st.T).length := by omega
      clear hx hgc hgl hhv
      go_wp2_with fail
      clear e1 mL mf
      have e1 : wr.cell? ⟨w.heap.size + 1, 1, none⟩ = some (.slice A5 k c5) := cell_of_heap HHH.out 1
      have mL : (Instr.lookup 68 (.map (some b)) (.int .i64 x) false).run Try.prog wr.drew = .ok (.agg #[.int .i64 hv.e, .int .i64 hv.a, .bool hv.t]) wr.drew := by
        have := (OwnT.drew HOW.out).lookup hx01.1 hx01.2
        rw [HHV.out] at this
        exact this
      have mf := fun W => f75_0 (.int .i64 hv.e) (.int .i64 hv.a) (.bool hv.t) W
      go_region_law (first
        | ((refine step_guard (.tmp 22) (.tmp 34) 32 (by with_reducible rfl) ?_); (refine step_app info51 Try.underlying32 rfl (by decide) (by decide) ec_len ec_one rfl (.tmp 22) (.tmp 34) rfl w1.heap.size (.slice A5 k c5) (((keysL st.T).take k).map (ecAt st.T)) rfl (HOE.out.below (by repeat (first | with_reducible exact Below.refl _ _ | with_reducible refine Bl_alloc ?_ _ | with_reducible refine Bl_drew ?_ | with_reducible refine Below.drewN ?_ _))) _ ⟨x, hv.e⟩ rfl (by refine ec_new ?_ ⟨x, hv.e⟩ _; first | rfl | simp) HLN.out (Nat.le_trans HK.out.size (Below.size (B := wr.heap.size) (w := wr) (by repeat (first | with_reducible exact Below.refl _ _ | with_reducible refine Bl_alloc ?_ _ | with_reducible refine Bl_drew ?_ | with_reducible refine Below.drewN ?_ _)))) ?_); intro g' cap w3 hown3 hg3; (have HG := hidd (app_post HK.out (by repeat (first | with_reducible exact Below.refl _ _ | with_reducible refine Bl_alloc ?_ _ | with_reducible refine Bl_drew ?_ | with_reducible refine Below.drewN ?_ _)) HOE.out hg3)); (have hy3 := HG.out.2.heapAt HHH.out (fun e => by have := HOE.out.base e; omega)); (have hc1 : w3.cell? ⟨w.heap.size + 1, 1, none⟩ = some (.slice A5 k c5) := cell_of_heap hy3 1); (have hc2 : w3.frozen? ⟨w.heap.size + 1, 1, none⟩ = false := free_of_heap hy3 1); (have HY3 := hidd hy3); (have HO3 := hidd hown3); clear hy3 hown3 hg3)
        | (go_simp; go_at_call 30; refine (H30.out _ ?_ ?_).mono ?_; exact g4; exact gp; rintro e w2 ⟨rfl, rfl⟩))
      all_goals
        go_wp2
        go_roundw
        case rel =>
          refine ⟨k + 1, _, by have := HKL.out; omega, by go_num, heap_set HY3.out 1 _, ?_, (HG.out.1.setCell (.inr rfl) _)⟩
          have h3 := HO3.out.keeps ((Keeps.refl (fun i => i = w.heap.size + 1) w3).setCell (p := ⟨w.heap.size + 1, 1, none⟩) (.inr rfl) (.slice (some ⟨g', 0, none⟩) (k + 1) cap)) (fun j hj e => by have := HO3.out.base hj; omega)
          rw [echo_take HX.out]
          have he : ecAt st.T x = ⟨x, hv.e⟩ := by unfold ecAt; rw [HHV.out]
          rw [he]
          rw [HN5.out] at h3
          exact h3
        case measure => have := HKL.out; simp [intOf]; omega
    · obtain rfl : k = (keysL st.T).length := by omega
      have e0 : wr.cell? ⟨w.heap.size + 1, 0, none⟩ = some (.int .i64 st.ep) := cell_of_heap HHH.out 0
      have e1 : wr.cell? ⟨w.heap.size + 1, 1, none⟩ = some (.slice A5 (keysL st.T).length c5) := cell_of_heap HHH.out 1
      have lw : w.heap.size < wr.heap.size := by omega
      have hh2 : wr.heap[w.heap.size]? = some (.cells #[.int .i64 0, .slice none 0 0] 34 (0, 0)) := HK.out.heapAt HH2.out (by omega)
      have z0 : wr.cell? ⟨w.heap.size, 0, none⟩ = some (.int .i64 0) := cell_of_heap hh2 0
      have z1 : wr.cell? ⟨w.heap.size, 1, none⟩ = some (.slice none 0 0) := cell_of_heap hh2 1
      have z2 : wr.frozen? ⟨w.heap.size, 0, none⟩ = false := free_of_heap hh2 0
      have z3 : wr.frozen? ⟨w.heap.size, 1, none⟩ = false := free_of_heap hh2 1
      clear hh2
      go_wp2
      refine bodyPost_ret (v := .agg #[.int .i64 st.ep, .slice A5 (keysL st.T).length c5]) ?_ ?_ ?_
      · simp [results, Try.results19, go_sem, z0, z1]
      · rfl
      · refine ⟨_, rfl, ?_, ?_⟩
        · have h3 := HOE.out.keeps (((Keeps.refl (fun i => i = w.heap.size) wr).setCell (p := ⟨w.heap.size, 0, none⟩) (.inr rfl) (.int .i64 st.ep)).setCell (p := ⟨w.heap.size, 1, none⟩) (.inr rfl) (.slice A5 (keysL st.T).length c5)) (fun j hj e => by have := HOE.out.base hj; omega)
          rw [List.take_of_length_le (Nat.le_refl _)] at h3
          exact h3.lower (by omega)
        · exact (((HKW.out.setCell (p := ⟨w.heap.size, 0, none⟩) (.inl (Nat.le_refl _)) (.int .i64 st.ep)).setCell (p := ⟨w.heap.size, 1, none⟩) (.inl (Nat.le_refl _)) _).toBelow (Nat.le_refl _) (fun j e => by omega))
end Go.Proofs.Ytocfnimeinongaa
