/- The walk of Tick. -/
import Derived.Test.YtocfnimeinongaaK
set_option linter.unusedSimpArgs false
set_option linter.unusedVariables false
namespace Go.Proofs.Ytocfnimeinongaa
open Go.RowKit
attribute [local go_sem ↓] Go.wp_at_zero Go.wp_at_succ
theorem c32 {w : World} {b n : Nat} {T : Tab} (h : OwnT w b n T) :
    Calls Try.prog 32 #[.map (some b)] w fun e w' => e = .returned (.map (some w.heap.size)) ∧ OwnT w' w.heap.size n T ∧ Below w.heap.size w w' := by
  obtain ⟨D, ho, hs⟩ := h
  exact (AnyW.maps_Clone_owns Try.laysClone 3 Rv b n D w ho).mono fun e w' h => ⟨h.1, ⟨D, h.2.1, hs⟩, h.2.2.2⟩
def TickPost (w : World) (s n : Nat) (st : St) (now : Int) (e : Ending) (w' : World) : Prop :=
  (timeB st now = false ∧ e = .returned (.tuple #[.slice none 0 0, .int .i64 1]) ∧ w = w') ∨
  (timeB st now = true ∧ ∃ v, e = .returned (.tuple #[v, .int .i64 0]) ∧ OwnV w' w.heap.size v (tickOut st now) ∧ SAt w' s 64 (st.tick now) ∧ Keeps (fun i => i = s) w w')
/-- What is left of the table when the first k keys are through. -/
def leftT (st : St) (now : Int) (k : Nat) : Tab := fun j => if j ∈ (keysL st.T).take k then (st.T j).filter (keepB st now) else none
def outTo (st : St) (now : Int) (k : Nat) : List Ev := (((keysL st.T).take k).filter (goneB st now)).map (evAt st.T)
theorem outTo_len (st : St) (now : Int) (k : Nat) : (outTo st now k).length ≤ 64 := by
  unfold outTo
  rw [List.length_map]
  exact Nat.le_trans (List.length_filter_le _ _) (Nat.le_trans (List.length_take_le' _ _) (keysL_len _))
theorem outTo_all (st : St) (now : Int) : outTo st now (keysL st.T).length = tickOut st now := by
  unfold outTo tickOut
  rw [List.take_of_length_le (Nat.le_refl _)]
theorem outTo_succ {st : St} {now : Int} {k : Nat} {x : Int} (h : (keysL st.T)[k]? = some x) : outTo st now (k + 1) = outTo st now k ++ (if goneB st now x then [evAt st.T x] else []) := by
  unfold outTo
  rw [take_snoc' h, List.filter_append, List.map_append]
  congr 1
  cases e : goneB st now x <;> simp [List.filter_cons, e]
theorem leftT_zero (st : St) (now : Int) : leftT st now 0 = fun _ => none := by
  funext j; simp [leftT]
theorem leftT_all {st : St} (hT : TabOk st.T) (now : Int) : leftT st now (keysL st.T).length = (st.tick now).T := by
  funext j
  unfold leftT
  rw [List.take_of_length_le (Nat.le_refl _)]
  show _ = (st.T j).filter (keepB st now)
  split
  · rfl
  · rename_i hj
    rw [keysL_mem] at hj
    cases e : st.T j with
    | none => rfl
    | some y => exact absurd ⟨hT j y e, by rw [e]; rfl⟩ hj
theorem at_of_mem {T : Tab} {x : Int} (h : x ∈ keysL T) : T x = some (T.at x) := by
  have := (keysL_mem.1 h).2
  obtain ⟨y, hy⟩ := Option.isSome_iff_exists.1 this
  unfold Tab.at
  rw [hy]; rfl
theorem leftT_keep {st : St} {now : Int} {k : Nat} {x : Int} (h : (keysL st.T)[k]? = some x) (hk : keepB st now (st.T.at x) = true) : leftT st now (k + 1) = (leftT st now k).put x (st.T.at x) := by
  funext j
  unfold leftT Tab.put
  rw [take_snoc' h]
  by_cases hj : j = x
  · subst hj
    rw [if_pos (by simp), if_pos rfl, at_of_mem (List.mem_of_getElem? h), Option.filter_some, if_pos hk]
  · rw [if_neg hj]
    simp [hj]
theorem leftT_drop {st : St} {now : Int} {k : Nat} {x : Int} (h : (keysL st.T)[k]? = some x) (hk : keepB st now (st.T.at x) = false) : leftT st now (k + 1) = leftT st now k := by
  funext j
  unfold leftT
  rw [take_snoc' h]
  by_cases hj : j = x
  · subst hj
    rw [if_pos (by simp), at_of_mem (List.mem_of_getElem? h), Option.filter_some, if_neg (by rw [hk]; simp)]
    split <;> rfl
  · simp [hj]
theorem c13n (now : Int) (w : World) : Calls Try.prog 13 #[.pointer none, .int .i64 now] w fun e w' => e = .returned (.tuple #[.slice none 0 0, .int .i64 3]) ∧ w = w' := by
  go_enter Try.func13, Try.ntmps13
  go_wp2
  go_ret2
  exact ⟨rfl, rfl⟩
set_option maxRecDepth 100000 in
set_option maxHeartbeats 4000000 in
theorem c13 {w : World} {s n : Nat} {st : St} (h : SAt w s n st) (hok : st.Ok) (hn : n ≤ 100000) (now : Int) :
    Calls Try.prog 13 #[.pointer (some ⟨s, 0, none⟩), .int .i64 now] w (TickPost w s n st now) := by
  cases ht : timeB st now with
  | false =>
    have C28 := hidd ((c28 h now).mono fun e w' q => (⟨by rw [← ht]; exact q.1, q.2⟩ : e = .returned (.bool false) ∧ w = w'))
    have HTT := hidd ht
    clear h hok ht
    go_enter Try.func13, Try.ntmps13
    go_wp2_with (go_at_call 28; refine C28.out.mono ?_; rintro e w' ⟨rfl, rfl⟩)
    go_ret2
    exact .inl ⟨HTT.out, rfl, rfl⟩
  | true =>
    have C28 := hidd ((c28 h now).mono fun e w' q => (⟨by rw [← ht]; exact q.1, q.2⟩ : e = .returned (.bool true) ∧ w = w'))
    have HTT := hidd ht
    have ht1 : st.now ≤ now ∧ now ≤ 1000000000000 := by simpa [timeB] using ht
    obtain ⟨p, b, h4, hp, hp0, hown, ls, lp⟩ := h.parts
    have HHS := hidd h
    have hc2 : w.cell? ⟨s, 2, none⟩ = some (.int .i64 st.hold) := by obtain ⟨p, b, h1, _⟩ := h; exact cell_of_heap h1 2
    have HO := hidd hown
    have HP := hidd hp
    have lb := hown.lt
    have HOK := hidd hok
    have HL := hidd (keysL_len st.T)
    have HTK := hidd (show ∀ x ∈ keysL st.T, 0 ≤ x ∧ x < 64 from fun x hx => (keysL_mem.1 hx).1)
    have hmk := fun W => run_makeMap (P := Try.prog) 68 W
    clear hp hown h ht hok
    go_enter Try.func13, Try.ntmps13
    go_wp2_with (first
      | (go_at_call 28; refine C28.out.mono ?_; rintro e w' ⟨rfl, rfl⟩)
      | (go_at_call 29; (refine (c29 (s := s) (n := n) (st := st) (HHS.out.below (Bl_alloc (Bl_alloc (Below.refl _ _) _) _)) HOK.out.tabOk hn).mono ?_; rintro e w1 ⟨v, rfl, hv, hb⟩; obtain ⟨A, c, rfl, hat⟩ := (RdI.at (hv.rd encI_len)); (have HAT := hidd hat); (have HBS := hidd (fun g (e : (Value.slice A (keysL st.T).length c).ownBlock = some g) => hv.base e)); clear hv; (have HB := hidd hb); clear hat hb)))
    have hb1 : Below w.heap.size w w1 := Bl_then (Bl_alloc (Bl_alloc (Below.refl _ _) _) _) HB.out
    have hl1 := HB.out.size
    simp at hl1
    have hq6 : w1.heap[w.heap.size + 1]? = some (.cells #[.map (some w.heap.size)] 68 (0, 0)) := (HB.out.block (w.heap.size + 1) (by simp)).trans (heap_new_at (by simp))
    have hm6 : OwnT w1 w.heap.size 0 (fun _ => none) := ((OwnT.new w).alloc _).below HB.out
    have HQ6 := hidd hq6
    have HM6 := hidd hm6
    have HB1 := hidd hb1
    clear HB hq6 hm6 hb1
    go_loopw [7, 9, 10, 23] (fun v _ _ i wr => ∃ (k : Nat), k ≤ (keysL st.T).length ∧ i = .int .i64 k ∧ OwnV wr w1.heap.size v (outTo st now k) ∧ OwnT wr w.heap.size k (leftT st now k) ∧ Keeps (fun i => i = w.heap.size) w1 wr) (fun _ _ _ i _ => (keysL st.T).length - (intOf i).toNat)
    case atStart => exact ⟨0, Nat.zero_le _, rfl, OwnG.nil _ _ _ _ _, by rw [leftT_zero]; exact HM6.out, Keeps.refl _ _⟩
    case round =>
      obtain ⟨k, hk, rfl, ho, hm, hkp⟩ := hrel
      obtain ⟨A5, c5, rfl⟩ := (ho.rd ev_len).form
      generalize hn5 : (outTo st now k).length = n5 at *
      have hn6 : n5 ≤ 64 := by rw [← hn5]; exact outTo_len _ _ _
      have HN5 := hidd hn5
      clear hn5
      have HK := hidd hkp
      have HOE := hidd ho
      have HM := hidd hm
      have hkw : Keeps (fun i => i = w.heap.size) w wr := hkp.of_below HB1.out
      have HKW := hidd hkw
      have hlr := hkp.size
      have hsz := hkw.size
      have g4 : wr.cell? ⟨s, 4, none⟩ = some (.pointer (some ⟨p, 0, none⟩)) := (World.cell?_of_block (w := w) (a := ⟨s, 4, none⟩) (hkw.block s ls (by omega))).trans h4
      have g2 : wr.cell? ⟨s, 2, none⟩ = some (.int .i64 st.hold) := (World.cell?_of_block (w := w) (a := ⟨s, 2, none⟩) (hkw.block s ls (by omega))).trans hc2
      have g0 : wr.cell? ⟨p, 0, none⟩ = some (.map (some b)) := (World.cell?_of_block (w := w) (a := ⟨p, 0, none⟩) (hkw.block p lp (by omega))).trans hp0
      have gp : wr.heap[p]? = some (.cells #[.map (some b)] 68 (0, 0)) := (hkw.block p lp (by omega)).trans HP.out
      have go' : OwnT wr b n st.T := HO.out.keeps hkw (by omega)
      have gq : wr.heap[w.heap.size + 1]? = some (.cells #[.map (some w.heap.size)] 68 (0, 0)) := hkp.heapAt HQ6.out (by omega)
      have q6 : wr.cell? ⟨w.heap.size + 1, 0, none⟩ = some (.map (some w.heap.size)) := cell_of_heap gq 0
      have HOW := hidd go'
      have HGP := hidd gp
      have HGQ := hidd gq
      clear hkp ho hkw hm h4 hc2 hp0 gp gq go'
      by_cases hlt : k < (keysL st.T).length
      · have HKL := hidd hlt
        obtain ⟨x, hx⟩ : ∃ x, (keysL st.T)[k]? = some x := ⟨_, List.getElem?_eq_getElem hlt⟩
        obtain ⟨g, o, rfl, hgl, hgc⟩ := HAT.out k x hx
        have hgb := HBS.out g rfl
        simp at hgb
        have d0 : wr.cell? ⟨g, o + k, none⟩ = some (.int .i64 x) := (World.cell?_of_block (w := w1) (a := ⟨g, o + k, none⟩) (HK.out.block g hgl (by omega))).trans hgc
        have hx01 := HTK.out x (List.mem_of_getElem? hx)
        have hat := HOK.out.at x
        have H30 := hidd (fun (W : World) (h1 : W.cell? ⟨s, 4, none⟩ = some (.pointer (some ⟨p, 0, none⟩))) (h2 : W.heap[p]? = some (.cells #[.map (some b)] 68 (0, 0))) => c30 s 4 p _ W h1 h2)
        generalize hhv : st.T.at x = hv at *
        have mL : (Instr.lookup 68 (.map (some b)) (.int .i64 x) false).run Try.prog wr = .ok (.agg #[.int .i64 hv.e, .int .i64 hv.a, .bool hv.t]) wr := by
          have := HOW.out.lookup hx01.1 hx01.2
          rw [hhv] at this
          exact this
        have HX := hidd hx
        have HHV := hidd hhv
        have hh0 := HOK.out.h1
        have hh1 := HOK.out.h0
        have hn0 := HOK.out.n0
        have hw1 : IntKind.i64.wrap (now - hv.a) = now - hv.a := IntWalk.i64_in _ (by omega)
        have lsr : s < wr.heap.size := by omega
        have lqr : w.heap.size + 1 < wr.heap.size := by omega
        have k0 : (0 : Int) ≤ k := by omega
        have k2 : (k : Int) < 64 := by have := HL.out; omega
        have k1 : (k : Int) < (keysL st.T).length := by omega
        clear hx hgc hgl hhv hlt
        cases hkb : decide (now - hv.a ≤ st.hold) with
        | true =>
          go_wp2_with (go_at_call 30; refine (H30.out _ g4 HGP.out).mono ?_; rintro e w2 ⟨rfl, rfl⟩)
          go_quiet (fail)
          go_wp2_with (at_mapUpdate; refine wpList_put rfl _ _ _ rfl w.heap.size k (leftT st now k) rfl (((HM.out.alloc _).below ((Below.refl _ _).drewN _))) x hv rfl rfl hx01.1 hx01.2 (by omega) ?_; intro w3 hown3 hk3; (have HO3 := hidd hown3); (have HK3 := hidd hk3); clear hown3 hk3)
          go_roundw
          case rel =>
            have hkeep : keepB st now (st.T.at x) = true := by rw [HHV.out]; exact hkb
            refine ⟨k + 1, by have := HKL.out; omega, by go_num, ?_, ?_, ((HK.out.alloc _).drewN _).trans HK3.out⟩
            · have : goneB st now x = false := by unfold goneB; rw [hkeep]; rfl
              rw [outTo_succ HX.out, this, if_neg (by simp), List.append_nil]
              have h3 := ((HOE.out.alloc _).below ((Below.refl _ _).drewN _)).keeps HK3.out (fun g hg e => by have := HOE.out.base hg; omega)
              exact h3
            · rw [leftT_keep HX.out hkeep, HHV.out]; exact HO3.out
          case measure => have := HKL.out; simp [intOf]; omega
        | false => 
          cases hvt : hv.t with
          | true =>
            rw [hvt] at mL
            have HVT := hidd hvt
            clear hvt
            go_wp2_with (go_at_call 30; refine (H30.out _ g4 HGP.out).mono ?_; rintro e w2 ⟨rfl, rfl⟩)
            go_quiet (fail)
            go_wp2_with (at_builtin; go_loud (refine wpList_app info49 Try.underlying37 rfl (by decide) (by decide) ev_len ev_one rfl (.tmp 51) (.tmp 56) rfl w1.heap.size _ (outTo st now k) rfl ((((HOE.out.alloc _).below ((Below.refl _ _).drewN _)).alloc _)) _ ⟨2, x, hv.e⟩ rfl ?_ ?_ ?_ ?_; (refine ev_new ?_ ⟨2, x, hv.e⟩ _; simp); (have := HN5.out; omega); (simp; omega); intro v' w3 hown3 hg3; (have HO3 := hidd hown3); (have HG3 := hidd hg3); clear hown3 hg3))
            go_roundw
            case rel =>
              have hkeep : keepB st now (st.T.at x) = false := by rw [HHV.out]; exact hkb
              have hgn : goneB st now x = true := by unfold goneB; rw [hkeep, HHV.out, HVT.out]; rfl
              have hg3 : Keeps (fun i => (Value.slice A5 n5 c5).ownBlock = some i) wr w3 := ((((Keeps.refl _ wr).alloc _).drewN _).alloc _).grown HG3.out (fun i hi => .inr hi)
              refine ⟨k + 1, by have := HKL.out; omega, by go_num, ?_, ?_, HK.out.andThen hg3 (fun i hi e => by have := HOE.out.base e; omega)⟩
              · rw [outTo_succ HX.out, hgn, if_pos rfl, evAt, HHV.out]; exact HO3.out
              · rw [leftT_drop HX.out hkeep]; exact (HM.out.keeps hg3 (fun e => by have := HOE.out.base e; omega)).mono (by omega)
            case measure => have := HKL.out; simp [intOf]; omega
          | false =>
            rw [hvt] at mL
            have HVT := hidd hvt
            clear hvt
            go_wp2_with (go_at_call 30; refine (H30.out _ g4 HGP.out).mono ?_; rintro e w2 ⟨rfl, rfl⟩)
            go_quiet (fail)
            go_wp2
            go_roundw
            case rel =>
              have hkeep : keepB st now (st.T.at x) = false := by rw [HHV.out]; exact hkb
              refine ⟨k + 1, by have := HKL.out; omega, by go_num, ?_, ?_, ((HK.out.alloc _).drewN _)⟩
              · have : goneB st now x = false := by unfold goneB; rw [hkeep, HHV.out, HVT.out]; rfl
                rw [outTo_succ HX.out, this, if_neg (by simp), List.append_nil]
                exact ((HOE.out.alloc _).below ((Below.refl _ _).drewN _))
              · rw [leftT_drop HX.out hkeep]; exact ((HM.out.alloc _).below ((Below.refl _ _).drewN _)).mono (by omega)
            case measure => have := HKL.out; simp [intOf]; omega
      · obtain rfl : k = (keysL st.T).length := by omega
        obtain ⟨p', b', hs1, hp1, hown1⟩ := HHS.out
        have hsr : wr.heap[s]? = some (.cells #[.int .i64 st.id, .int .i64 st.ep, .int .i64 st.hold, .int .i64 st.now, .pointer (some ⟨p', 0, none⟩)] 66 (0, 0)) := HKW.out.heapAt hs1 (by omega)
        have HSR := hidd hsr
        have lsr : s < wr.heap.size := by omega
        clear hs1 hp1 hown1 g4
        go_wp2_with (go_at_call 26; refine Calls.mono (c26 s 4 (w.heap.size + 1) (.pointer (some ⟨p', 0, none⟩)) (.map (some w.heap.size)) _ ?_ ?_ ?_) ?_; (exact cell_of_heap hsr 4); (exact free_of_heap hsr 4); (exact q6); rintro e w2 ⟨rfl, hw2⟩; (have y1 : w2.cell? ⟨s, 3, none⟩ = some (.int .i64 st.now) := by rw [← hw2]; exact cell_of_heap (heap_set HSR.out 4 _) 3); (have y2 : w2.frozen? ⟨s, 3, none⟩ = false := by rw [← hw2]; exact free_of_heap (heap_set HSR.out 4 _) 3); (have HW2 := hidd hw2); clear hw2)
        go_ret2
        refine .inr ⟨HTT.out, _, rfl, ?_, ?_, ?_⟩
        · rw [← HW2.out, ← outTo_all]
          have h3 := HOE.out.keeps (((Keeps.refl (fun i => i = s) wr).setCell (p := ⟨s, 4, none⟩) (.inr rfl) (.pointer (some ⟨w.heap.size + 1, 0, none⟩))).setCell (p := ⟨s, 3, none⟩) (.inr rfl) (.int .i64 now)) (fun j hj e => by have := HOE.out.base hj; omega)
          exact h3.lower (by omega)
        · rw [← HW2.out]
          have hne : w.heap.size + 1 ≠ s := by omega
          have hne2 : w.heap.size ≠ s := by omega
          refine ⟨w.heap.size + 1, w.heap.size, heap_set (heap_set HSR.out 4 _) 3 _, heap_set_ne (heap_set_ne HGQ.out hne _ _) hne _ _, ?_⟩
          rw [← leftT_all HOK.out.tabOk]
          exact (HM.out.keeps (((Keeps.refl (fun i => i = s) wr).setCell (p := ⟨s, 4, none⟩) (.inr rfl) _).setCell (p := ⟨s, 3, none⟩) (.inr rfl) _) hne2).mono (by have := HL.out; omega)
        · rw [← HW2.out]
          exact ((HKW.out.mono (T := fun i => i = s) (fun i hi e => by omega)).setCell (.inr rfl) _).setCell (.inr rfl) _
end Go.Proofs.Ytocfnimeinongaa
