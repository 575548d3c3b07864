/- The walk of the reference's Tick. -/
import Derived.Test.YtocfnimeinongaaL
set_option linter.unusedSimpArgs false
set_option linter.unusedVariables false
namespace Go.Proofs.Ytocfnimeinongaa
open Go.RowKit
attribute [local go_sem ↓] Go.wp_at_zero Go.wp_at_succ
def TickRPost (w : World) (y r : Nat) (st : St) (now : Int) (e : Ending) (w' : World) : Prop :=
  (timeB st now = false ∧ e = .returned (.tuple #[.slice none 0 0, .int .i64 1]) ∧ w = w') ∨
  (timeB st now = true ∧ ∃ v, e = .returned (.tuple #[v, .int .i64 0]) ∧ OwnV w' w.heap.size v (tickOut st now) ∧ RAtR w' y r (st.tick now) ∧ Keeps (fun i => i = y ∨ i = r) w w')
/-- The table when the first k nodes are through. -/
def mixT (st : St) (now : Int) (k : Nat) : Tab := fun j => if j < k then (st.T j).filter (keepB st now) else st.T j
def outR (st : St) (now : Int) (k : Nat) : List Ev := ((nums k).filter fun j => (st.T j).isSome && goneB st now j).map (evAt st.T)
theorem outR_len (st : St) (now : Int) (k : Nat) : (outR st now k).length ≤ k := by
  unfold outR
  rw [List.length_map]
  exact Nat.le_trans (List.length_filter_le _ _) (by simp [nums])
theorem outR_all (st : St) (now : Int) : outR st now 64 = tickOut st now := by
  unfold outR tickOut keysL
  rw [List.filter_filter]
  congr 1
  refine List.filter_congr fun x _ => ?_
  exact Bool.and_comm _ _
theorem outR_succ (st : St) (now : Int) (k : Nat) : outR st now (k + 1) = outR st now k ++ (if (st.T k).isSome && goneB st now k then [evAt st.T k] else []) := by
  unfold outR
  rw [nums_succ, List.filter_append, List.map_append]
  congr 1
  cases h : (st.T k).isSome && goneB st now k <;> simp [List.filter_cons, h]
theorem mixT_zero (st : St) (now : Int) : ∀ j : Nat, mixT st now 0 j = st.T j := by
  intro j; unfold mixT; rw [if_neg (by omega)]
theorem mixT_all (st : St) (now : Int) : ∀ j : Nat, j < 64 → mixT st now 64 j = (st.tick now).T j := by
  intro j hj; unfold mixT; rw [if_pos (by omega)]; rfl
/-- The rows of the reference's sensor. -/
def RowsAt (cs : Array Value) (T : Tab) : Prop := ∀ k : Nat, k < 64 → ∀ i u, (rowR T k)[i]? = some u → cs[k * 4 + i]? = some u
theorem rowR_congr {T T' : Tab} {k : Int} (h : T k = T' k) : rowR T k = rowR T' k := by unfold rowR Tab.at; rw [h]
theorem RowsAt.congr {cs : Array Value} {T T' : Tab} (h : RowsAt cs T) (e : ∀ k : Nat, k < 64 → T k = T' k) : RowsAt cs T' := fun k hk i u hu => h k hk i u (by rw [rowR_congr (e k hk)]; exact hu)
theorem rowR_len (T : Tab) (k : Int) : (rowR T k).length = 4 := rfl
/-- One row laid anew. -/
theorem RowsAt.set {cs : Array Value} {T : Tab} (h : RowsAt cs T) {k : Nat} (hk : k < 64) {T' : Tab} (he : ∀ j : Nat, j ≠ k → T' j = T j) {a b c d : Value} (hr : rowR T' k = [a, b, c, d]) :
    RowsAt ((((cs.setIfInBounds (k * 4) a).setIfInBounds (k * 4 + 1) b).setIfInBounds (k * 4 + 2) c).setIfInBounds (k * 4 + 3) d) T' := by
  have hsz : k * 4 + 3 < cs.size := by
    have := h k hk 3 _ rfl
    exact (Array.getElem?_eq_some_iff.1 this).1
  intro j hj i u hu
  have hi : i < 4 := by rw [← rowR_len T' j]; exact (List.getElem?_eq_some_iff.1 hu).1
  by_cases hjk : j = k
  · subst hjk
    rw [hr] at hu
    match i, hi with
    | 0, _ =>
      rw [Array.getElem?_setIfInBounds_ne (by omega), Array.getElem?_setIfInBounds_ne (by omega), Array.getElem?_setIfInBounds_ne (by omega), Nat.add_zero, Array.getElem?_setIfInBounds_self_of_lt (by omega)]
      exact hu
    | 1, _ =>
      rw [Array.getElem?_setIfInBounds_ne (by omega), Array.getElem?_setIfInBounds_ne (by omega), Array.getElem?_setIfInBounds_self_of_lt (by simp; omega)]
      exact hu
    | 2, _ =>
      rw [Array.getElem?_setIfInBounds_ne (by omega), Array.getElem?_setIfInBounds_self_of_lt (by simp; omega)]
      exact hu
    | 3, _ =>
      rw [Array.getElem?_setIfInBounds_self_of_lt (by simp; omega)]
      exact hu
  · rw [Array.getElem?_setIfInBounds_ne (by omega), Array.getElem?_setIfInBounds_ne (by omega), Array.getElem?_setIfInBounds_ne (by omega), Array.getElem?_setIfInBounds_ne (by omega)]
    rw [rowR_congr (he j hjk)] at hu
    exact h j hj i u hu
theorem mixT_same {st : St} {now : Int} {k : Nat} (h : (st.T k).filter (keepB st now) = st.T k) : ∀ j : Nat, mixT st now (k + 1) j = mixT st now k j := by
  intro j
  unfold mixT
  by_cases hj : j < k
  · rw [if_pos (by omega), if_pos (by omega)]
  · by_cases hj' : j = k
    · subst hj'; rw [if_pos (by omega), if_neg (by omega)]; exact h
    · rw [if_neg (by omega), if_neg (by omega)]
theorem mixT_other {st : St} {now : Int} {k : Nat} : ∀ j : Nat, j ≠ k → mixT st now (k + 1) j = mixT st now k j := by
  intro j hj
  unfold mixT
  by_cases h : j < k
  · rw [if_pos (by omega), if_pos (by omega)]
  · rw [if_neg (by omega), if_neg (by omega)]
theorem mixT_gone {st : St} {now : Int} {k : Nat} (h : (st.T k).filter (keepB st now) = none) : rowR (mixT st now (k + 1)) k = [.bool false, .int .i64 0, .int .i64 0, .bool false] := by
  have e : mixT st now (k + 1) k = none := by unfold mixT; rw [if_pos (by omega)]; exact h
  unfold rowR Tab.at
  rw [e]; rfl
theorem mixT_here (st : St) (now : Int) (k : Nat) : rowR (mixT st now k) k = rowR st.T k := by
  apply rowR_congr
  unfold mixT
  rw [if_neg (by omega)]
set_option maxRecDepth 100000 in
set_option maxHeartbeats 4000000 in
theorem c14 {w : World} {y r : Nat} {st : St} (h : RAtR w y r st) (hok : st.Ok) (now : Int) :
    Calls Try.prog 14 #[.pointer (some ⟨y, 0, none⟩), .int .i64 now] w (TickRPost w y r st now) := by
  cases ht : timeB st now with
  | false =>
    have C31 := hidd ((c31 h.rat now).mono fun e w' q => (⟨by rw [← ht]; exact q.1, q.2⟩ : e = .returned (.bool false) ∧ w = w'))
    have HTT := hidd ht
    clear h hok ht
    go_enter Try.func14, Try.ntmps14
    go_wp2_with (go_at_call 31; refine C31.out.mono ?_; rintro e w' ⟨rfl, rfl⟩)
    go_ret2
    exact .inl ⟨HTT.out, rfl, rfl⟩
  | true =>
    have C31 := hidd ((c31 h.rat now).mono fun e w' q => (⟨by rw [← ht]; exact q.1, q.2⟩ : e = .returned (.bool true) ∧ w = w'))
    have HTT := hidd ht
    have ht1 : st.now ≤ now ∧ now ≤ 1000000000000 := by simpa [timeB] using ht
    obtain ⟨cs, hy, hr, hrows⟩ := h
    have hne : r ≠ y := by rintro rfl; rw [hy] at hr; cases hr
    have ly : y < w.heap.size := (Array.getElem?_eq_some_iff.1 hy).1
    have lr : r < w.heap.size := (Array.getElem?_eq_some_iff.1 hr).1
    have HY := hidd hy
    have HR := hidd hr
    have HRW := hidd (show RowsAt cs st.T from hrows)
    have HOK := hidd hok
    clear hy hr hrows ht hok
    go_enter Try.func14, Try.ntmps14
    go_wp2_with (go_at_call 31; refine C31.out.mono ?_; rintro e w' ⟨rfl, rfl⟩)
    go_loopw [6, 7] (fun v i wr => ∃ (k : Nat) (cu : Array Value), k ≤ 64 ∧ i = .int .i64 k ∧ OwnV wr w.heap.size v (outR st now k) ∧ wr.heap[r]? = some (.cells cu 78 (0, 0)) ∧ Hid (RowsAt cu (mixT st now k)) ∧ Keeps (fun i => i = r) w wr) (fun _ i _ => 64 - (intOf i).toNat)
    case atStart => exact ⟨0, cs, Nat.zero_le _, rfl, OwnG.nil _ _ _ _ _, HR.out, hidd (HRW.out.congr fun j _ => (mixT_zero st now j).symm), Keeps.refl _ _⟩
    case round =>
      obtain ⟨k, cu, hk, rfl, ho, hr, hrows, hkp⟩ := hrel
      obtain ⟨A5, c5, rfl⟩ := (ho.rd ev_len).form
      generalize hn5 : (outR st now k).length = n5 at *
      have hn6 : n5 ≤ 64 := by rw [← hn5]; exact Nat.le_trans (outR_len _ _ _) hk
      have HN5 := hidd hn5
      clear hn5
      have HK := hidd hkp
      have HOE := hidd ho
      have HR := hidd hr
      have hsz := hkp.size
      have hyr : wr.heap[y]? = some (.cells #[.int .i64 st.id, .int .i64 st.ep, .int .i64 st.hold, .int .i64 st.now, .slice (some ⟨r, 0, none⟩) 64 64] 72 (0, 0)) := hkp.heapAt HY.out (by omega)
      have g4 : wr.cell? ⟨y, 4, none⟩ = some (.slice (some ⟨r, 0, none⟩) 64 64) := cell_of_heap hyr 4
      have g2 : wr.cell? ⟨y, 2, none⟩ = some (.int .i64 st.hold) := cell_of_heap hyr 2
      have HYR := hidd hyr
      have lyr : y < wr.heap.size := by omega
      have lrr : r < wr.heap.size := by omega
      by_cases hlt : k < 64
      · have HKL := hidd hlt
        have hrow : ∀ i u, (rowR st.T k)[i]? = some u → wr.cell? ⟨r, k * 4 + i, none⟩ = some u := fun i u hu => (cell_of_heap hr _).trans (hrows.out k hlt i u (by rw [mixT_here]; exact hu))
        have d0 : wr.cell? ⟨r, k * 4, none⟩ = some (.bool (st.T k).isSome) := hrow 0 _ rfl
        have d1 : wr.cell? ⟨r, k * 4 + 1, none⟩ = some (.int .i64 (st.T.at k).e) := hrow 1 _ rfl
        have d2 : wr.cell? ⟨r, k * 4 + 2, none⟩ = some (.int .i64 (st.T.at k).a) := hrow 2 _ rfl
        have d3 : wr.cell? ⟨r, k * 4 + 3, none⟩ = some (.bool (st.T.at k).t) := hrow 3 _ rfl
        have f0 : wr.frozen? ⟨r, k * 4, none⟩ = false := free_of_heap hr _
        have f1 : wr.frozen? ⟨r, k * 4 + 1, none⟩ = false := free_of_heap hr _
        have f2 : wr.frozen? ⟨r, k * 4 + 2, none⟩ = false := free_of_heap hr _
        have f3 : wr.frozen? ⟨r, k * 4 + 3, none⟩ = false := free_of_heap hr _
        have hat := HOK.out.at k
        generalize hhv : st.T.at k = hv at *
        have HHV := hidd hhv
        have hh0 := HOK.out.h1
        have hh1 := HOK.out.h0
        have hn0 := HOK.out.n0
        have hw1 : IntKind.i64.wrap (now - hv.a) = now - hv.a := IntWalk.i64_in _ (by omega)
        have k0 : (0 : Int) ≤ k := by omega
        have k1 : (k : Int) < 64 := by omega
        clear hkp ho hr hyr hrow hhv hlt
        cases his : (st.T k).isSome with
        | false =>
          rw [his] at d0
          have HIS := hidd his
          clear his
          go_wp2_with fail
          go_quiet (fail)
          go_wp2
          go_roundw
          case rel =>
            have hno : st.T k = none := by cases e : st.T k with | none => rfl | some z => (have := HIS.out; rw [e] at this; cases this)
            refine ⟨k + 1, cu, by have := HKL.out; omega, by go_num, ?_, HR.out |> (fun q => heap_drewN (heap_alloc q _) _), hidd (hrows.out.congr fun j _ => (mixT_same (by rw [hno]; rfl) j).symm), (HK.out.alloc _).drewN _⟩
            rw [outR_succ, HIS.out]
            simp only [Bool.false_and, Bool.false_eq_true, if_false, List.append_nil]
            exact (HOE.out.alloc _).below ((Below.refl _ _).drewN _)
          case measure => have := HKL.out; simp [intOf]; omega
        | true =>
          rw [his] at d0
          have HIS := hidd his
          obtain ⟨z, hz⟩ := Option.isSome_iff_exists.1 his
          have hzv : z = hv := by have := HHV.out; unfold Tab.at at this; rw [hz] at this; exact this
          subst hzv
          have HZ := hidd hz
          clear his hz
          cases hkb : decide (now - z.a ≤ st.hold) with
          | true =>
            go_wp2_with fail
            go_quiet (fail)
            go_wp2
            go_roundw
            case rel =>
              refine ⟨k + 1, cu, by have := HKL.out; omega, by go_num, ?_, HR.out |> (fun q => heap_drewN (heap_alloc q _) _), hidd (hrows.out.congr fun j _ => (mixT_same (by rw [HZ.out, Option.filter_some, show keepB st now z = true from hkb]; rfl) j).symm), (HK.out.alloc _).drewN _⟩
              have hgn : goneB st now k = false := by unfold goneB keepB; rw [HHV.out, hkb]; rfl
              rw [outR_succ, hgn]
              simp only [Bool.and_false, Bool.false_eq_true, if_false, List.append_nil]
              exact (HOE.out.alloc _).below ((Below.refl _ _).drewN _)
            case measure => have := HKL.out; simp [intOf]; omega
          | false =>
            cases hvt : z.t with
            | false =>
              rw [hvt] at d3
              have HVT := hidd hvt
              clear hvt
              go_wp2_with fail
              go_quiet (fail)
              go_wp2
              go_roundw
              case rel =>
                have hfn : (st.T k).filter (keepB st now) = none := by rw [HZ.out, Option.filter_some, show keepB st now z = false from hkb]; rfl
                have hgn : goneB st now k = false := by unfold goneB; rw [HHV.out, HVT.out, Bool.and_false]
                refine ⟨k + 1, _, by have := HKL.out; omega, by go_num, ?_, heap_set (heap_set (heap_set (heap_set (heap_drewN (heap_alloc HR.out _) _) _ _) _ _) _ _) _ _, hidd (hrows.out.set HKL.out (mixT_other) (mixT_gone hfn)), (((((HK.out.alloc _).drewN _).setCell (.inr rfl) _).setCell (.inr rfl) _).setCell (.inr rfl) _).setCell (.inr rfl) _⟩
                rw [outR_succ, hgn]
                simp only [Bool.and_false, Bool.false_eq_true, if_false, List.append_nil]
                exact HOE.out.keeps ((((((Keeps.refl (fun i => i = r) wr).alloc _).drewN _).setCell (.inr rfl) _).setCell (.inr rfl) _).setCell (.inr rfl) _ |>.setCell (.inr rfl) _) (fun g hg e => by have := HOE.out.base hg; omega)
              case measure => have := HKL.out; simp [intOf]; omega
            | true =>
              rw [hvt] at d3
              have HVT := hidd hvt
              clear hvt
              go_wp2_with fail
              go_quiet (fail)
              go_wp2_with (at_builtin; go_loud (refine wpList_app info49 Try.underlying37 rfl (by decide) (by decide) ev_len ev_one rfl (.tmp 45) (.tmp 50) rfl w.heap.size _ (outR st now k) rfl ((((HOE.out.alloc _).below ((Below.refl _ _).drewN _)).alloc _)) _ ⟨2, k, z.e⟩ rfl ?_ ?_ ?_ ?_; (refine ev_new ?_ ⟨2, k, z.e⟩ _; simp); (have := HN5.out; omega); (simp; omega); intro v' w3 hown3 hg3; (have HO3 := hidd hown3); (have HG3 := hidd hg3); (have hk3 : Keeps (fun i => (Value.slice A5 n5 c5).ownBlock = some i) wr w3 := ((((Keeps.refl _ wr).alloc _).drewN _).alloc _).grown HG3.out (fun i hi => .inr hi)); (have hr3 := hk3.heapAt HR.out (fun e => by have := HOE.out.base e; omega)); (have hy3 := hk3.heapAt HYR.out (fun e => by have := HOE.out.base e; omega)); (have x4 : w3.cell? ⟨y, 4, none⟩ = some (.slice (some ⟨r, 0, none⟩) 64 64) := cell_of_heap hy3 4); (have e0 : w3.cell? ⟨r, k * 4, none⟩ = some (.bool true) := (World.cell?_of_block (w := wr) (a := ⟨r, k * 4, none⟩) (hr3.trans HR.out.symm)).trans d0); (have e1 : w3.cell? ⟨r, k * 4 + 1, none⟩ = some (.int .i64 z.e) := (World.cell?_of_block (w := wr) (a := ⟨r, k * 4 + 1, none⟩) (hr3.trans HR.out.symm)).trans d1); (have e2 : w3.cell? ⟨r, k * 4 + 2, none⟩ = some (.int .i64 z.a) := (World.cell?_of_block (w := wr) (a := ⟨r, k * 4 + 2, none⟩) (hr3.trans HR.out.symm)).trans d2); (have e3 : w3.cell? ⟨r, k * 4 + 3, none⟩ = some (.bool true) := (World.cell?_of_block (w := wr) (a := ⟨r, k * 4 + 3, none⟩) (hr3.trans HR.out.symm)).trans d3); (have q0 := free_of_heap hr3 (k * 4)); (have q1 := free_of_heap hr3 (k * 4 + 1)); (have q2 := free_of_heap hr3 (k * 4 + 2)); (have q3 := free_of_heap hr3 (k * 4 + 3)); (have HR3 := hidd hr3); (have HK3 := hidd hk3); clear hown3 hg3 hr3 hy3 hk3 g4 g2 d0 d1 d2 d3 f0 f1 f2 f3))
              go_roundw
              case rel =>
                have hfn : (st.T k).filter (keepB st now) = none := by rw [HZ.out, Option.filter_some, show keepB st now z = false from hkb]; rfl
                have hgn : goneB st now k = true := by unfold goneB; rw [HHV.out, HVT.out, show keepB st now z = false from hkb]; rfl
                refine ⟨k + 1, _, by have := HKL.out; omega, by go_num, ?_, heap_set (heap_set (heap_set (heap_set HR3.out _ _) _ _) _ _) _ _, hidd (hrows.out.set HKL.out (mixT_other) (mixT_gone hfn)), ((((HK.out.andThen HK3.out (fun i hi e => by have := HOE.out.base e; omega)).setCell (.inr rfl) _).setCell (.inr rfl) _).setCell (.inr rfl) _).setCell (.inr rfl) _⟩
                rw [outR_succ, hgn, HIS.out]
                simp only [Bool.and_self, if_true, evAt, HHV.out]
                exact HO3.out.keeps (((((Keeps.refl (fun i => i = r) w3).setCell (.inr rfl) _).setCell (.inr rfl) _).setCell (.inr rfl) _).setCell (.inr rfl) _) (fun g hg e => by have := HO3.out.base hg; omega)
              case measure => have := HKL.out; simp [intOf]; omega
      · obtain rfl : k = 64 := by omega
        have g3 : wr.cell? ⟨y, 3, none⟩ = some (.int .i64 st.now) := cell_of_heap hyr 3
        have f3 : wr.frozen? ⟨y, 3, none⟩ = false := free_of_heap hyr 3
        clear hkp ho hr hyr
        go_wp2
        go_ret2
        refine .inr ⟨HTT.out, _, rfl, ?_, ⟨cu, heap_set HYR.out 3 _, heap_set_ne HR.out hne _ _, hrows.out.congr (mixT_all st now)⟩, ?_⟩
        · rw [← outR_all]
          exact HOE.out.keeps ((Keeps.refl (fun i => i = y) wr).setCell (.inr rfl) _) (fun g hg e => by have := HOE.out.base hg; omega)
        · exact (HK.out.mono (T := fun i => i = y ∨ i = r) (fun i _ e => .inr e)).setCell (.inr (.inl rfl)) _
end Go.Proofs.Ytocfnimeinongaa
