/- The walks of beacon.Heard and of the reference's. -/
import Derived.Test.YtocfnimeinongaaB
set_option linter.unusedSimpArgs false
set_option linter.unusedVariables false
namespace Go.Proofs.Ytocfnimeinongaa
open Go.RowKit
theorem c38 (x : Ec) (id : Int) (b : Nat) (w : World) (hb : w.cell? ⟨b, 0, none⟩ = some (.int .i64 id)) :
    Calls Try.prog 38 #[.agg #[.int .i64 x.i, .int .i64 x.e], .pointer (some ⟨b, 0, none⟩)] w fun e w' => e = .returned (.bool (x.i == id)) ∧ Below w.heap.size w w' := by
  have hlt := World.block_lt_of_cell? w _ hb
  have hlt' : b < w.heap.size := hlt
  clear hlt
  go_enter Try.func38, Try.ntmps38
  go_wp2
  go_ret
  exact ⟨rfl, Bl_alloc (Below.refl _ _) _⟩
/-- The place of the first echo of a node. -/
def idxE (p : Ec → Bool) (E : List Ec) : Int := match E.findIdx? p with
  | some k => k
  | none => -1
theorem idxE_hit {p : Ec → Bool} {E : List Ec} {k : Nat} {x : Ec} (hx : E[k]? = some x) (hd : p x = true) (hno : ∀ j, j < k → ∀ u, E[j]? = some u → p u = false) : E.findIdx? p = some k := by
  rw [List.findIdx?_eq_some_iff_getElem]
  obtain ⟨hk, e⟩ := List.getElem?_eq_some_iff.1 hx
  exact ⟨hk, by rw [e]; exact hd, fun j hj => by
    have := hno j hj _ (List.getElem?_eq_getElem (Nat.lt_trans hj hk)); simpa using this⟩
theorem idxE_none {p : Ec → Bool} {E : List Ec} (hno : ∀ (j : Nat) (u : Ec), E[j]? = some u → p u = false) : E.findIdx? p = none := by
  rw [List.findIdx?_eq_none_iff]
  intro u hu
  obtain ⟨j, hj⟩ := List.getElem?_of_mem hu
  simpa using hno j u hj
/-- What is said of a node. -/
def heardB (E : List Ec) (id : Int) : Option Int := (E.find? fun x => x.i == id).map Ec.e
theorem heardB_hit {E : List Ec} {id : Int} {k : Nat} {x : Ec} (hx : E[k]? = some x) (hd : (x.i == id) = true) (hno : ∀ j, j < k → ∀ u, E[j]? = some u → (u.i == id) = false) : heardB E id = some x.e := by
  unfold heardB
  have : E.find? (fun x => x.i == id) = some x := by
    rw [List.find?_eq_some_iff_getElem]
    obtain ⟨hk, e⟩ := List.getElem?_eq_some_iff.1 hx
    exact ⟨hd, k, hk, e, fun j hj => by have := hno j hj _ (List.getElem?_eq_getElem (Nat.lt_trans hj hk)); simpa using this⟩
  rw [this]; rfl
theorem heardB_none {E : List Ec} {id : Int} (hno : ∀ (j : Nat) (u : Ec), E[j]? = some u → (u.i == id) = false) : heardB E id = none := by
  unfold heardB
  have : E.find? (fun x => x.i == id) = none := by
    rw [List.find?_eq_none]
    intro u hu
    obtain ⟨j, hj⟩ := List.getElem?_of_mem hu
    simpa using hno j u hj
  rw [this]; rfl
def heardN (o : Option Int) : Int := o.getD 0
def heardO (o : Option Int) : Bool := o.isSome
/-- What IndexFunc answers. -/
def IdxAt (p : Ec → Bool) (E : List Ec) (w : World) (e : Ending) (w' : World) : Prop :=
  Below w.heap.size w w' ∧ ((∃ (k : Nat) (x : Ec), e = .returned (.int .i64 k) ∧ E[k]? = some x ∧ p x = true ∧ ∀ j, j < k → ∀ u, E[j]? = some u → p u = false) ∨ (e = .returned (.int .i64 (-1)) ∧ ∀ (j : Nat) (u : Ec), E[j]? = some u → p u = false))
set_option maxHeartbeats 400000 in
theorem c37a {w : World} {v : Value} {E : List Ec} (h : RdE w v E) (hL : E.length ≤ 1000) {bx : Nat} {id : Int} (hbx : w.cell? ⟨bx, 0, none⟩ = some (.int .i64 id)) (lbx : bx < w.heap.size) :
    Calls Try.prog 37 #[v, .func (.func 38) #[] #[.pointer (some ⟨bx, 0, none⟩)]] w (IdxAt (fun x => x.i == id) E w) := by
  obtain ⟨A, c, rfl, hrd⟩ := h
  have HR := hidd hrd
  clear hrd
  have HBX := hidd hbx
  clear hbx
  go_enter Try.func37, Try.ntmps37
  go_wp2
  go_loopw [8] (fun i wr => ∃ k : Nat, k ≤ E.length ∧ i = .int .i64 k ∧ (∀ j, j < k → ∀ u, E[j]? = some u → (fun x => x.i == id) u = false) ∧ Below w.heap.size w wr) (fun i _ => E.length - (intOf i).toNat)
  case atStart => exact ⟨0, Nat.zero_le _, rfl, fun j hj => absurd hj (Nat.not_lt_zero _), Below.refl _ _⟩
  case round =>
    obtain ⟨k, hk, rfl, hno, hb⟩ := hrel
    by_cases hlt : k < E.length
    · obtain ⟨x, hx⟩ : ∃ x, E[k]? = some x := ⟨_, List.getElem?_eq_getElem hlt⟩
      obtain ⟨g, o, rfl, hgl, hc⟩ : ∃ b o, A = some ⟨b, o, none⟩ ∧ b < w.heap.size ∧ ∀ k a, E[k]? = some a → ∀ i u, a.cells[i]? = some u → w.cell? ⟨b, o + k * 2 + i, none⟩ = some u := by
        rcases HR.out with h0 | h0
        · rw [h0] at hlt; exact absurd hlt (by simp)
        · exact h0
      have d0 : wr.cell? ⟨g, o + k * 2, none⟩ = some (.int .i64 x.i) := (hb.cell (p := ⟨g, o + k * 2, none⟩) hgl).trans (hc k x hx 0 _ rfl)
      have d1 : wr.cell? ⟨g, o + k * 2 + 1, none⟩ = some (.int .i64 x.e) := (hb.cell (p := ⟨g, o + k * 2 + 1, none⟩) hgl).trans (hc k x hx 1 _ rfl)
      have HX := hidd hx
      have HN := hidd hno
      have HB := hidd hb
      clear hx hc hno hb
      obtain ⟨r, hr⟩ : ∃ r, (fun x => x.i == id) x = r := ⟨_, rfl⟩
      have HRR := hidd hr
      clear hr
      cases r with
      | true =>
        go_wp2_with (go_at_call 38; refine (c38 x id bx _ ((HB.out.cell (p := ⟨bx, 0, none⟩) lbx).trans HBX.out)).mono ?_; rw [HRR.out]; rintro e w2 ⟨rfl, hb2⟩)
        go_ret
        exact ⟨HB.out.trans (hb2.mono HB.out.size), .inl ⟨k, x, rfl, HX.out, HRR.out, HN.out⟩⟩
      | false =>
        go_wp2_with (go_at_call 38; refine (c38 x id bx _ ((HB.out.cell (p := ⟨bx, 0, none⟩) lbx).trans HBX.out)).mono ?_; rw [HRR.out]; rintro e w2 ⟨rfl, hb2⟩)
        go_roundw
        case rel =>
          refine ⟨k + 1, by omega, by go_num, fun j hj u hu => ?_, HB.out.trans (hb2.mono HB.out.size)⟩
          rcases Nat.lt_or_ge j k with hj' | hj'
          · exact HN.out j hj' u hu
          · obtain rfl : j = k := by omega
            obtain rfl : x = u := by simpa using HX.out.symm.trans hu
            exact HRR.out
        case measure => simp [intOf]; omega
    · have HN := hidd hno
      have HB := hidd hb
      clear hno hb
      go_wp2
      go_ret
      exact ⟨HB.out, .inr ⟨rfl, fun j u hu => HN.out j (by have := (List.getElem?_eq_some_iff.1 hu).1; omega) u hu⟩⟩
set_option maxHeartbeats 400000 in
theorem c24 {w : World} {v : Value} {E : List Ec} (ep id : Int) (h : RdE w v E) (hL : E.length ≤ 1000) :
    Calls Try.prog 24 #[.agg #[.int .i64 ep, v], .int .i64 id] w fun e w' => e = .returned (.tuple #[.int .i64 (heardN (heardB E id)), .bool (heardO (heardB E id))]) ∧ Below w.heap.size w w' := by
  have HV := hidd h
  obtain ⟨A, c, rfl, -⟩ := h
  go_enter Try.func24, Try.ntmps24
  go_wp2_with fail
  refine (c37a (bx := w.heap.size + 1) (id := id) (HV.out.below (Bl_alloc (Bl_alloc (Below.refl _ _) _) _)) hL (by simp) (by simp)).mono ?_
  rintro e w1 ⟨hb1, ⟨k, x, rfl, hx, hp, hno⟩ | ⟨rfl, hno⟩⟩
  · have hk : k < E.length := (List.getElem?_eq_some_iff.1 hx).1
    have HH := hidd (heardB_hit hx hp hno)
    have hv := (HV.out.below (Bl_alloc (Bl_alloc (Below.refl _ _) (.cells #[.int .i64 ep, .slice A E.length c] 34)) (.cells #[.int .i64 id] 3))).below hb1
    obtain ⟨A', c', e', hrd⟩ := hv
    simp at e'
    obtain ⟨rfl, rfl⟩ := e'
    obtain ⟨g, o, rfl, hgl, hc⟩ : ∃ b o, A = some ⟨b, o, none⟩ ∧ b < w1.heap.size ∧ ∀ k a, E[k]? = some a → ∀ i u, a.cells[i]? = some u → w1.cell? ⟨b, o + k * 2 + i, none⟩ = some u := by
      rcases hrd with h0 | h0
      · rw [h0] at hk; exact absurd hk (by simp)
      · exact h0
    have d1 : w1.cell? ⟨g, o + k * 2 + 1, none⟩ = some (.int .i64 x.e) := hc k x hx 1 _ rfl
    have b1 : w1.cell? ⟨w.heap.size, 1, none⟩ = some (.slice (some ⟨g, o, none⟩) E.length c) := (hb1.cell (p := ⟨w.heap.size, 1, none⟩) (by first | (simp; done) | (simp; omega))).trans (by simp)
    have HB1 := hidd (Bl_then (w := w) (Bl_alloc (Bl_alloc (Below.refl _ _) _) _) hb1)
    have hk0 : ¬ (k : Int) < 0 := by omega
    clear hb1 hx hp hno hrd hc
    go_wp2
    go_ret2
    exact ⟨by rw [HH.out]; rfl, HB1.out⟩
  · have HH := hidd (heardB_none hno)
    have HB1 := hidd (Bl_then (w := w) (Bl_alloc (Bl_alloc (Below.refl _ _) _) _) hb1)
    clear hb1 hno
    go_wp2
    go_ret2
    exact ⟨by rw [HH.out]; rfl, HB1.out⟩
set_option maxHeartbeats 400000 in
theorem c34 {w : World} {v : Value} {E : List Ec} (ep id : Int) (h : RdE w v E) (hL : E.length ≤ 1000) :
    Calls Try.prog 34 #[.agg #[.int .i64 ep, v], .int .i64 id] w fun e w' => e = .returned (.tuple #[.int .i64 (heardN (heardB E id)), .bool (heardO (heardB E id))]) ∧ Below w.heap.size w w' := by
  obtain ⟨A, c, rfl, hrd⟩ := h
  have HR := hidd hrd
  clear hrd
  go_enter Try.func34, Try.ntmps34
  go_wp2
  go_loopw [6] (fun i wr => ∃ k : Nat, k ≤ E.length ∧ i = .int .i64 k ∧ (∀ j, j < k → ∀ u, E[j]? = some u → (u.i == id) = false) ∧ w.alloc (.cells #[.int .i64 ep, .slice A E.length c] 34) = wr) (fun i _ => E.length - (intOf i).toNat)
  case atStart => exact ⟨0, Nat.zero_le _, rfl, fun j hj => absurd hj (Nat.not_lt_zero _), rfl⟩
  case round =>
    obtain ⟨k, hk, rfl, hno, rfl⟩ := hrel
    by_cases hlt : k < E.length
    · obtain ⟨x, hx⟩ : ∃ x, E[k]? = some x := ⟨_, List.getElem?_eq_getElem hlt⟩
      obtain ⟨g, o, rfl, hgl, hc⟩ : ∃ b o, A = some ⟨b, o, none⟩ ∧ b < w.heap.size ∧ ∀ k a, E[k]? = some a → ∀ i u, a.cells[i]? = some u → w.cell? ⟨b, o + k * 2 + i, none⟩ = some u := by
        rcases HR.out with h0 | h0
        · rw [h0] at hlt; exact absurd hlt (by simp)
        · exact h0
      have d0 : w.cell? ⟨g, o + k * 2, none⟩ = some (.int .i64 x.i) := hc k x hx 0 _ rfl
      have d1 : w.cell? ⟨g, o + k * 2 + 1, none⟩ = some (.int .i64 x.e) := hc k x hx 1 _ rfl
      have HX := hidd hx
      have HN := hidd hno
      clear hx hc hno
      cases hr : x.i == id with
      | true =>
        go_wp2
        go_ret2
        exact ⟨by rw [heardB_hit HX.out hr HN.out]; rfl, Bl_alloc (Below.refl _ _) _⟩
      | false =>
        go_wp2
        go_roundw
        case rel =>
          refine ⟨k + 1, by omega, by go_num, fun j hj u hu => ?_, by first | rfl | trivial⟩
          rcases Nat.lt_or_ge j k with hj' | hj'
          · exact HN.out j hj' u hu
          · obtain rfl : j = k := by omega
            obtain rfl : x = u := by simpa using HX.out.symm.trans hu
            exact hr
        case measure => simp [intOf]; omega
    · have HN := hidd hno
      clear hno
      go_wp2
      go_ret2
      exact ⟨by rw [heardB_none (fun j u hu => HN.out j (by have := (List.getElem?_eq_some_iff.1 hu).1; omega) u hu)]; rfl, Bl_alloc (Below.refl _ _) _⟩
end Go.Proofs.Ytocfnimeinongaa
