/- Rows of structs that are read; beacons: the walks of layer 6's program and reference. -/
import Derived.Test.YtocfnimeinongaaA
import Derived.Deep.RegionHeld3
import Derived.Deep.DrawnRows
set_option linter.unusedSimpArgs false
set_option linter.unusedVariables false
namespace Go.Proofs.Ytocfnimeinongaa
open Go.RowKit
attribute [local go_sem ↓] Go.wp_at_zero Go.wp_at_succ
/-- The slice v reads as the elements L, each laid by enc in m cells. -/
def RdG {α : Type} (enc : α → List Value) (m : Nat) (w : World) (v : Value) (L : List α) : Prop :=
  ∃ A c, v = .slice A L.length c ∧ (L = [] ∨ ∃ b o, A = some ⟨b, o, none⟩ ∧ b < w.heap.size ∧ ∀ k a, L[k]? = some a → ∀ i u, (enc a)[i]? = some u → w.cell? ⟨b, o + k * m + i, none⟩ = some u)
theorem RdG.keeps {α : Type} {enc : α → List Value} {m : Nat} {w w' : World} {v : Value} {L : List α} (h : RdG enc m w v L) {S : Nat → Prop} (k : Keeps S w w') (hs : ∀ g, v.ownBlock = some g → ¬ S g) : RdG enc m w' v L := by
  obtain ⟨A, c, rfl, h⟩ := h
  refine ⟨A, c, rfl, ?_⟩
  rcases h with h | ⟨b, o, rfl, hb, h⟩
  · exact .inl h
  · exact .inr ⟨b, o, rfl, Nat.lt_of_lt_of_le hb k.size, fun j a ha i u hu => (World.cell?_of_block (w := w) (k.block b hb (hs b rfl))).trans (h j a ha i u hu)⟩
theorem RdG.below {α : Type} {enc : α → List Value} {m : Nat} {w w' : World} {v : Value} {L : List α} (h : RdG enc m w v L) (k : Below w.heap.size w w') : RdG enc m w' v L :=
  h.keeps (Keeps.below (S := fun _ => False) k) (fun _ _ x => x)
theorem RdG.nil {α : Type} (enc : α → List Value) (m : Nat) (w : World) : RdG enc m w (.slice none 0 0) [] := ⟨none, 0, rfl, .inl rfl⟩
structure Ec where
  (i e : Int)
def Ec.cells (x : Ec) : List Value := [.int .i64 x.i, .int .i64 x.e]
abbrev RdE := RdG Ec.cells 2
def nodeB (x : Int) : Bool := decide (0 ≤ x) && decide (x < 64)
def errB (b : Bool) : Int := if b then 0 else 1
def epB (x : Int) : Bool := decide (0 ≤ x) && decide (x ≤ 4294967295)
def goodB (E : List Ec) (k : Nat) : Bool := match E[k]? with
  | none => true
  | some x => nodeB x.i && epB x.e && (decide (k = 0) || match E[k - 1]? with
    | none => true
    | some y => decide (y.i < x.i))
def goodTo (E : List Ec) (k : Nat) : Bool := (List.range k).all (goodB E)
theorem goodTo_succ (E : List Ec) (k : Nat) : goodTo E (k + 1) = (goodTo E k && goodB E k) := by simp [goodTo, List.range_succ]
def rightB (ep : Int) (E : List Ec) : Bool := epB ep && goodTo E E.length
theorem goodTo_false {E : List Ec} {k j : Nat} (h : goodTo E k = false) (hj : k ≤ j) : goodTo E j = false := by
  unfold goodTo at *
  rw [List.all_eq_false] at *
  obtain ⟨x, hx, h⟩ := h
  exact ⟨x, List.mem_range.2 (Nat.lt_of_lt_of_le (List.mem_range.1 hx) hj), h⟩
theorem c39 (x : Int) (w : World) :
    Calls Try.prog 39 #[.int .i64 x] w fun e w' => e = .returned (.bool (epB x)) ∧ w = w' := by
  by_cases h0 : 0 ≤ x
  · go_enter Try.func39, Try.ntmps39
    go_wp2
    go_ret
    exact ⟨by simp [epB, h0], rfl⟩
  · go_enter Try.func39, Try.ntmps39
    go_wp2
    go_ret
    exact ⟨by simp [epB]; omega, rfl⟩
theorem c39v (x : Int) (w : World) (b : Bool) (h : epB x = b) : Calls Try.prog 39 #[.int .i64 x] w fun e w' => e = .returned (.bool b) ∧ w = w' := (c39 x w).mono fun e w' he => by rw [h] at he; exact he
theorem c27 (x : Int) (w : World) :
    Calls Try.prog 27 #[.int .i64 x] w fun e w' => e = .returned (.bool (epB x)) ∧ w = w' := by
  by_cases h0 : 0 ≤ x
  · go_enter Try.func27, Try.ntmps27
    go_wp2
    go_ret
    exact ⟨by simp [epB, h0], rfl⟩
  · go_enter Try.func27, Try.ntmps27
    go_wp2
    go_ret
    exact ⟨by simp [epB]; omega, rfl⟩
theorem c27v (x : Int) (w : World) (b : Bool) (h : epB x = b) : Calls Try.prog 27 #[.int .i64 x] w fun e w' => e = .returned (.bool b) ∧ w = w' := (c27 x w).mono fun e w' he => by rw [h] at he; exact he
set_option maxHeartbeats 2000000 in
theorem c25 {w : World} {v : Value} {E : List Ec} (ep : Int) (h : RdE w v E) (hL : E.length ≤ 1000) :
    Calls Try.prog 25 #[.agg #[.int .i64 ep, v]] w fun e w' => e = .returned (.int .i64 (errB (rightB ep E))) ∧ Below w.heap.size w w' := by
  obtain ⟨A, c, rfl, hrd⟩ := h
  have HR := hidd hrd
  clear hrd
  obtain ⟨b0, hb0⟩ : ∃ b0, epB ep = b0 := ⟨_, rfl⟩
  have HB0 := hidd hb0
  clear hb0
  go_enter Try.func25, Try.ntmps25
  go_wp2_with (go_at_call 39; refine (c39v _ _ _ HB0.out).mono ?_; rintro e w' ⟨rfl, rfl⟩)
  generalize hW : World.alloc w _ = W
  have HW : Hid (Below w.heap.size w W) := hidd (hW ▸ Bl_alloc (Below.refl _ _) _)
  have x1 : W.cell? ⟨w.heap.size, 1, none⟩ = some (.slice A E.length c) := by rw [← hW]; exact cell_of_heap (heap_new w _) 1
  have lw : w.heap.size < W.heap.size := by rw [← hW]; simp
  clear hW
  go_loopw [3, 12] (fun okv i wr => ∃ (k : Nat) (bb : Bool), k ≤ E.length ∧ i = .int .i64 k ∧ okv = .bool bb ∧ bb = (b0 && goodTo E k) ∧ Below W.heap.size W wr) (fun _ i _ => E.length - (intOf i).toNat)
  case atStart => exact ⟨0, b0, Nat.zero_le _, rfl, rfl, by simp [goodTo], Below.refl _ _⟩
  case round =>
    obtain ⟨k, bb, hk, rfl, rfl, hbb, hb⟩ := hrel
    by_cases hlt : k < E.length
    · obtain ⟨x, hx⟩ : ∃ x, E[k]? = some x := ⟨_, List.getElem?_eq_getElem hlt⟩
      obtain ⟨g, o, rfl, hgl, hc⟩ : ∃ b o, A = some ⟨b, o, none⟩ ∧ b < w.heap.size ∧ ∀ k a, E[k]? = some a → ∀ i u, a.cells[i]? = some u → w.cell? ⟨b, o + k * 2 + i, none⟩ = some u := by
        rcases HR.out with h0 | h0
        · rw [h0] at hlt; exact absurd hlt (by simp)
        · exact h0
      have cc : ∀ {k : Nat} {a : Ec}, E[k]? = some a → wr.cell? ⟨g, o + k * 2, none⟩ = some (.int .i64 a.i) ∧ wr.cell? ⟨g, o + k * 2 + 1, none⟩ = some (.int .i64 a.e) := fun {k a} ha =>
        ⟨(hb.cell (p := ⟨g, o + k * 2, none⟩) (Nat.lt_trans hgl lw)).trans ((HW.out.cell (p := ⟨g, o + k * 2, none⟩) hgl).trans (hc k a ha 0 _ rfl)), (hb.cell (p := ⟨g, o + k * 2 + 1, none⟩) (Nat.lt_trans hgl lw)).trans ((HW.out.cell (p := ⟨g, o + k * 2 + 1, none⟩) hgl).trans (hc k a ha 1 _ rfl))⟩
      have d0 := (cc hx).1
      have d1 := (cc hx).2
      have y1 : wr.cell? ⟨w.heap.size, 1, none⟩ = some (.slice (some ⟨g, o, none⟩) E.length c) := (hb.cell (p := ⟨w.heap.size, 1, none⟩) lw).trans x1
      have HB := hidd hb
      have lr := hb.size
      have lgr : g < wr.heap.size := by omega
      have lwr : w.heap.size < wr.heap.size := by omega
      have k0 : (0 : Int) ≤ k := by omega
      have k1 : (k : Int) < E.length := by omega
      have HS : Hid (∀ r : Bool, r = (bb && goodB E k) → r = (b0 && goodTo E (k + 1))) := hidd (fun r hr => by rw [hr, hbb, goodTo_succ, Bool.and_assoc])
      have HX := hidd hx
      have hg : goodB E k = (nodeB x.i && epB x.e && (decide (k = 0) || match E[k - 1]? with | none => true | some y => decide (y.i < x.i))) := by unfold goodB; rw [hx]
      have HG := hidd hg
      clear hb hx hbb hg
      cases bb with
      | false =>
        clear cc hc
        go_wp2_with fail
        go_quiet (fail)
        go_wp2
        go_roundw
        case rel => exact ⟨k + 1, false, by omega, by go_num, rfl, HS.out _ (by simp), (Bl_alloc HB.out _).drewN _⟩
        case measure => simp [intOf]; omega
      | true =>
        cases h1 : decide (0 ≤ x.i) with
        | false =>
          clear cc hc
          go_wp2_with fail
          go_quiet (fail)
          go_wp2
          go_roundw
          case rel => exact ⟨k + 1, false, by omega, by go_num, rfl, HS.out _ (by rw [HG.out]; simp [nodeB, h1]), (Bl_alloc HB.out _).drewN _⟩
          case measure => simp [intOf]; omega
        | true =>
          cases h2 : decide (x.i < 64) with
          | false =>
            clear cc hc
            go_wp2_with fail
            go_quiet (fail)
            go_wp2
            go_roundw
            case rel => exact ⟨k + 1, false, by omega, by go_num, rfl, HS.out _ (by rw [HG.out]; simp [nodeB, h2]), (Bl_alloc HB.out _).drewN _⟩
            case measure => simp [intOf]; omega
          | true =>
            cases h3 : epB x.e with
            | false =>
              have H3 := hidd h3
              clear cc hc h3
              go_wp2_with fail
              go_quiet ((go_at_call 39; exact Calls.quiet_of_same ((c39v _ _ _ H3.out).mono fun e w' h => ⟨h.1, h.2.symm⟩)))
              go_wp2
              go_roundw
              case rel => exact ⟨k + 1, false, by omega, by go_num, rfl, HS.out _ (by rw [HG.out]; simp [H3.out]), (Bl_alloc HB.out _).drewN _⟩
              case measure => simp [intOf]; omega
            | true =>
              have H3 := hidd h3
              clear h3
              by_cases hk0 : k = 0
              · have hz : ((k : Int) == 0) = true := by simp; omega
                have HK := hidd hk0
                clear cc hc hk0
                go_wp2_with fail
                go_quiet ((go_at_call 39; exact Calls.quiet_of_same ((c39v _ _ _ H3.out).mono fun e w' h => ⟨h.1, h.2.symm⟩)))
                go_wp2
                go_roundw
                case rel => exact ⟨k + 1, true, by omega, by go_num, rfl, HS.out _ (by rw [HG.out]; simp [nodeB, h1, h2, H3.out, HK.out]), (Bl_alloc HB.out _).drewN _⟩
                case measure => simp [intOf]; omega
              · obtain ⟨q, hq⟩ : ∃ q : Nat, k = q + 1 := ⟨k - 1, by omega⟩
                obtain ⟨y, hy⟩ : ∃ y, E[q]? = some y := ⟨_, List.getElem?_eq_getElem (by omega)⟩
                have e0 := (cc hy).1
                have hz : ((k : Int) == 0) = false := by simp; omega
                have HGK : Hid (goodB E k = decide (y.i < x.i)) := hidd (by rw [HG.out]; simp only [nodeB, h1, h2, H3.out, hk0, hq, Nat.add_sub_cancel, hy]; simp)
                have j3 : IntKind.i64.wrap ((k : Int) - 1) = q := by rw [show ((k : Int) - 1) = q by omega]; exact IntWalk.i64_in _ (by omega)
                have q0 : (0 : Int) ≤ q := by omega
                have q1 : (q : Int) < E.length := by omega
                have HQ := hidd hq
                clear cc hc hk0 hq hy
                cases h4 : decide (y.i < x.i) with
                | false =>
                  go_wp2_with fail
                  go_quiet ((go_at_call 39; exact Calls.quiet_of_same ((c39v _ _ _ H3.out).mono fun e w' h => ⟨h.1, h.2.symm⟩)))
                  go_wp2
                  go_roundw
                  case rel => exact ⟨k + 1, false, by omega, by go_num, rfl, HS.out _ (by rw [HGK.out, h4]; rfl), (Bl_alloc HB.out _).drewN _⟩
                  case measure => simp [intOf]; omega
                | true =>
                  go_wp2_with fail
                  go_quiet ((go_at_call 39; exact Calls.quiet_of_same ((c39v _ _ _ H3.out).mono fun e w' h => ⟨h.1, h.2.symm⟩)))
                  go_wp2
                  go_roundw
                  case rel => exact ⟨k + 1, true, by omega, by go_num, rfl, HS.out _ (by rw [HGK.out, h4]; rfl), (Bl_alloc HB.out _).drewN _⟩
                  case measure => simp [intOf]; omega
    · obtain rfl : k = E.length := by omega
      have HE : Hid (rightB ep E = bb) := hidd (by rw [hbb]; unfold rightB; rw [HB0.out])
      have HB := hidd hb
      have lr := hb.size
      clear hb hbb
      cases bb with
      | false =>
        go_wp2
        go_ret
        exact ⟨by rw [HE.out]; rfl, HW.out.trans (HB.out.mono HW.out.size)⟩
      | true =>
        go_wp2
        go_ret
        exact ⟨by rw [HE.out]; rfl, HW.out.trans (HB.out.mono HW.out.size)⟩
set_option maxHeartbeats 2000000 in
theorem c33 {w : World} {v : Value} {E : List Ec} (ep : Int) (h : RdE w v E) (hL : E.length ≤ 1000) :
    Calls Try.prog 33 #[.agg #[.int .i64 ep, v]] w fun e w' => e = .returned (.bool (rightB ep E)) ∧ Below w.heap.size w w' := by
  obtain ⟨A, c, rfl, hrd⟩ := h
  have HR := hidd hrd
  clear hrd
  obtain ⟨b0, hb0⟩ : ∃ b0, epB ep = b0 := ⟨_, rfl⟩
  have HB0 := hidd hb0
  clear hb0
  go_enter Try.func33, Try.ntmps33
  go_wp2
  generalize hW : World.alloc w _ = W
  have HW : Hid (Below w.heap.size w W) := hidd (hW ▸ Bl_alloc (Below.refl _ _) _)
  have x1 : W.cell? ⟨w.heap.size, 1, none⟩ = some (.slice A E.length c) := by rw [← hW]; exact cell_of_heap (heap_new w _) 1
  have x0 : W.cell? ⟨w.heap.size, 0, none⟩ = some (.int .i64 ep) := by rw [← hW]; exact cell_of_heap (heap_new w _) 0
  have lw : w.heap.size < W.heap.size := by rw [← hW]; simp
  clear hW
  go_loopw [3] (fun i wr => ∃ k : Nat, k ≤ E.length ∧ i = .int .i64 k ∧ goodTo E k = true ∧ Below W.heap.size W wr) (fun i _ => E.length - (intOf i).toNat)
  case atStart => exact ⟨0, Nat.zero_le _, rfl, rfl, Below.refl _ _⟩
  case round =>
    obtain ⟨k, hk, rfl, hgt, hb⟩ := hrel
    have lr := hb.size
    have lwr : w.heap.size < wr.heap.size := by omega
    have y1 : wr.cell? ⟨w.heap.size, 1, none⟩ = some (.slice A E.length c) := (hb.cell (p := ⟨w.heap.size, 1, none⟩) lw).trans x1
    by_cases hlt : k < E.length
    · obtain ⟨x, hx⟩ : ∃ x, E[k]? = some x := ⟨_, List.getElem?_eq_getElem hlt⟩
      obtain ⟨g, o, rfl, hgl, hc⟩ : ∃ b o, A = some ⟨b, o, none⟩ ∧ b < w.heap.size ∧ ∀ k a, E[k]? = some a → ∀ i u, a.cells[i]? = some u → w.cell? ⟨b, o + k * 2 + i, none⟩ = some u := by
        rcases HR.out with h0 | h0
        · rw [h0] at hlt; exact absurd hlt (by simp)
        · exact h0
      have cc : ∀ {k : Nat} {a : Ec}, E[k]? = some a → wr.cell? ⟨g, o + k * 2, none⟩ = some (.int .i64 a.i) ∧ wr.cell? ⟨g, o + k * 2 + 1, none⟩ = some (.int .i64 a.e) := fun {k a} ha =>
        ⟨(hb.cell (p := ⟨g, o + k * 2, none⟩) (Nat.lt_trans hgl lw)).trans ((HW.out.cell (p := ⟨g, o + k * 2, none⟩) hgl).trans (hc k a ha 0 _ rfl)), (hb.cell (p := ⟨g, o + k * 2 + 1, none⟩) (Nat.lt_trans hgl lw)).trans ((HW.out.cell (p := ⟨g, o + k * 2 + 1, none⟩) hgl).trans (hc k a ha 1 _ rfl))⟩
      have d0 := (cc hx).1
      have d1 := (cc hx).2
      have HB := hidd hb
      have lgr : g < wr.heap.size := by omega
      have k0 : (0 : Int) ≤ k := by omega
      have k1 : (k : Int) < E.length := by omega
      have HN : Hid (goodB E k = false → rightB ep E = false) := hidd (fun h => by
        have : goodTo E (k + 1) = false := by rw [goodTo_succ, h, Bool.and_false]
        unfold rightB
        rw [goodTo_false this (by omega), Bool.and_false])
      have HY : Hid (goodB E k = true → goodTo E (k + 1) = true) := hidd (fun h => by rw [goodTo_succ, h, hgt]; rfl)
      have hg : goodB E k = (nodeB x.i && epB x.e && (decide (k = 0) || match E[k - 1]? with | none => true | some y => decide (y.i < x.i))) := by unfold goodB; rw [hx]
      have HG := hidd hg
      clear hb hx hg hgt
      cases h1 : decide (x.i < 0) with
      | true =>
        clear cc hc
        go_wp2_with fail
        go_quiet (fail)
        go_wp2
        go_ret
        exact ⟨by rw [HN.out (by rw [HG.out]; simp [nodeB]; simp at h1; intro h; omega)]; rfl, HW.out.trans (((Bl_alloc HB.out _).drewN _).mono HW.out.size)⟩
      | false =>
        have h1' : decide (0 ≤ x.i) = true := by simp at h1; simp; omega
        cases h2 : decide (64 ≤ x.i) with
        | true =>
          clear cc hc
          go_wp2_with fail
          go_quiet (fail)
          go_wp2
          go_ret
          exact ⟨by rw [HN.out (by rw [HG.out]; simp [nodeB]; simp at h2; intro h h'; omega)]; rfl, HW.out.trans (((Bl_alloc HB.out _).drewN _).mono HW.out.size)⟩
        | false =>
          have h2' : decide (x.i < 64) = true := by simp at h2; simp; omega
          by_cases hk0 : k = 0
          · have hz : decide (0 < k) = false := by simp; omega
            have HK := hidd hk0
            clear cc hc hk0
            cases h3 : epB x.e with
            | false =>
              have H3 := hidd h3
              clear h3
              go_wp2_with fail
              go_quiet ((go_at_call 27; exact Calls.quiet_of_same ((c27v _ _ _ H3.out).mono fun e w' h => ⟨h.1, h.2.symm⟩)))
              go_wp2
              go_ret
              exact ⟨by rw [HN.out (by rw [HG.out]; simp [H3.out])]; rfl, HW.out.trans (((Bl_alloc HB.out _).drewN _).mono HW.out.size)⟩
            | true =>
              have H3 := hidd h3
              clear h3
              go_wp2_with fail
              go_quiet ((go_at_call 27; exact Calls.quiet_of_same ((c27v _ _ _ H3.out).mono fun e w' h => ⟨h.1, h.2.symm⟩)))
              go_wp2
              go_roundw
              case rel => exact ⟨k + 1, by omega, by go_num, HY.out (by rw [HG.out]; simp [nodeB, h1', h2', H3.out, HK.out]), (Bl_alloc HB.out _).drewN _⟩
              case measure => simp [intOf]; omega
          · obtain ⟨q, hq⟩ : ∃ q : Nat, k = q + 1 := ⟨k - 1, by omega⟩
            obtain ⟨y, hy⟩ : ∃ y, E[q]? = some y := ⟨_, List.getElem?_eq_getElem (by omega)⟩
            have e0 := (cc hy).1
            have hz : decide (0 < k) = true := by simp; omega
            have HGK : Hid (goodB E k = (epB x.e && decide (y.i < x.i))) := hidd (by rw [HG.out]; simp only [nodeB, h1', h2', hk0, hq, Nat.add_sub_cancel, hy]; simp)
            have j3 : IntKind.i64.wrap ((k : Int) - 1) = q := by rw [show ((k : Int) - 1) = q by omega]; exact IntWalk.i64_in _ (by omega)
            have q0 : (0 : Int) ≤ q := by omega
            have q1 : (q : Int) < E.length := by omega
            have HQ := hidd hq
            clear cc hc hk0 hq hy
            cases h4 : decide (x.i ≤ y.i) with
            | true =>
              have h4' : decide (y.i < x.i) = false := by simp at h4; simp; omega
              go_wp2_with fail
              go_quiet (fail)
              go_wp2
              go_ret
              exact ⟨by rw [HN.out (by rw [HGK.out, h4']; simp)]; rfl, HW.out.trans (((Bl_alloc HB.out _).drewN _).mono HW.out.size)⟩
            | false =>
              have h4' : decide (y.i < x.i) = true := by simp at h4; simp; omega
              cases h3 : epB x.e with
              | false =>
                have H3 := hidd h3
                clear h3
                go_wp2_with fail
                go_quiet ((go_at_call 27; exact Calls.quiet_of_same ((c27v _ _ _ H3.out).mono fun e w' h => ⟨h.1, h.2.symm⟩)))
                go_wp2
                go_ret
                exact ⟨by rw [HN.out (by rw [HGK.out, H3.out]; simp)]; rfl, HW.out.trans (((Bl_alloc HB.out _).drewN _).mono HW.out.size)⟩
              | true =>
                have H3 := hidd h3
                clear h3
                go_wp2_with fail
                go_quiet ((go_at_call 27; exact Calls.quiet_of_same ((c27v _ _ _ H3.out).mono fun e w' h => ⟨h.1, h.2.symm⟩)))
                go_wp2
                go_roundw
                case rel => exact ⟨k + 1, by omega, by go_num, HY.out (by rw [HGK.out, h4', H3.out]; rfl), (Bl_alloc HB.out _).drewN _⟩
                case measure => simp [intOf]; omega
    · obtain rfl : k = E.length := by omega
      have HE : Hid (rightB ep E = b0) := hidd (by unfold rightB; rw [HB0.out, hgt, Bool.and_true])
      have HB := hidd hb
      have x0' : wr.cell? ⟨w.heap.size, 0, none⟩ = some (.int .i64 ep) := (hb.cell (p := ⟨w.heap.size, 0, none⟩) lw).trans x0
      clear hb hgt
      go_wp2_with (go_at_call 27; refine (c27v _ _ _ HB0.out).mono ?_; rintro e w' ⟨rfl, rfl⟩)
      go_ret
      exact ⟨by rw [HE.out]; rfl, HW.out.trans (HB.out.mono HW.out.size)⟩
end Go.Proofs.Ytocfnimeinongaa
